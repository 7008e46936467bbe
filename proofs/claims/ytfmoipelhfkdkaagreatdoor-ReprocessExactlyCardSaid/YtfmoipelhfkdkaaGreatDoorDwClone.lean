
import Derived.Test.YtfmoipelhfkdkaaGreatDoorDwArg
import Derived.Test.YtfmoipelhfkdkaaGreatDoorDwLift4
import Derived.Below
import Derived.Shelf.SlicesE.Clone
open Nat renaming div_lt_iff_lt_mul->FZ, le_refl->DA, mod_lt->Dq, mul_comm->EC, zero_le->DJ
open List renaming getElem?_map->ED, getElem?_range->F0, getElem_mem->Dp, range->DG

namespace Go.Dw
open Go.RowKit
theorem CG{P:Program}{E:Prop}(j:¬E){S:rC}{w w':World}{r:RV}{v:Value}(hm:Mem P S (look []) (look []) w)(f:Below w.heap.size w w')(q:R S (look []) r v)(g:∀ad u,S ad=some u->w'.cell? ad=some u):
  zA P E S w [] 0 r [] v w' S []:=by
 refine⟨rfl,DA _,Sub.refl _,⟨(fun id D h=>by cases h),(fun id L h=>by cases h),g,hm.vA,(fun id L b h=>by cases h),(fun id B L C b h=>by cases h)⟩,fun ad u h=>.inl h,(fun k L h=>by cases h),(fun k L b h=>by cases h),⟨f.os,f.tape,f.output,f.size,fun b h _=>f.block b h,fun he=>(j he).elim⟩,q⟩
end Go.Dw
namespace Go.Dw
open Go.Proofs Go.Shelf Go.RowKit Go.Lib
def wh(e:TypeId)(size bytes:Nat):rA:=fun _ args bs=>
 match args,bs with
 | [.d (.lst es)],[]=>if es.length*bytes<=140737488355328∧∀x∈es,x.cells.length=size then some (.ref 0 0,[.arr 0 e es])else none
 |_,_=>none
theorem wY{P:Program}{H:Hints}{ext:FuncId->Option rA}{f:FuncId}{e:TypeId}{size bytes:Nat}(j:ext f=some (wh e size bytes)){α:Type}{g:α->PD}(q:∀x,(g x).cells.length=size){l r:List α}(h:rV bytes l=some r):
  EvP P H ext f [.d (.lst (l.map g))] [] (.ref 0 0,[.arr 0 e (r.map g)]):=by
 refine Ev.lib j ?_
 unfold rV at h
 split at h
 ·rename_i hl
  cases h
  have k:∀x∈l.map g,x.cells.length=size:=fun x j=>by obtain⟨y, -,rfl⟩:=List.mem_map.1 j;exact q y
  simp only [wh,List.length_map]
  rw [if_pos ⟨hl,k⟩]
 ·cases h
section
variable {P:Program}{ρ:Go.Shelf.Ren}
set_option maxHeartbeats 2000000 in
set_option maxRecDepth 100000 in
theorem zQ(L:SlLaysE0.n41 P ρ)(i0:TypeInfo)(z:Value)(size bytes:Nat)(hi:P.info? (ρ.t 23)=some i0)(D:i0.zero=some z)(E:i0.size=size)(F:i0.bytes=bytes)(G:z.cells.size=size)(C:0<size)
  (z23:∀w,(Go.sizeOf (ρ.t 23)).run P w= .ok size w) (a:Addr) (c:Nat) (w:World):
  Calls P (ρ.f 41) #[.slice (some a) 0 c] w fun e w'=>∃v',e= .returned v'∧w'.ownsRow w.heap.size (ρ.t 23) size v' 0 []∧v'≠ .slice none 0 0∧Below w.heap.size w w':=by
 have mixed:=L.mixed;have t4:=L.t4;have a4:=L.a4;have z4:=L.z4;have v4:=L.v4;have t22:=L.t22;have a22:=L.a22;have z22:=L.z22;have v22:=L.v22
 have K:∀(w:World)(a:Option Addr)(n c H B:Nat),(binOp .eql (ρ.t 22) (.slice a n c) (.slice none H B)).run P w= .ok (.bool a.isNone) w:=fun w a n c H B=>Lib.run_eql_slice_nil w _ _ a n c H B L.t22
 have N:∀w,Sem.run P (underlying (ρ.t 22)) w= .ok (TypeDesc.slice (ρ.t 23)) w:=run_underlying t22
 obtain⟨_,_,I⟩:=L.f41
 go_enter I,SlBodyN.n41_ntmps ρ
 go_wp2_with (at_builtin;refine wpList_append_own _ rfl _ _ (ρ.t 22) rfl w.heap.size (ρ.t 23) i0 z size bytes t22 hi D E F G C _ _ _ rfl (World.ownsRow_made w #[] 0 (DA _) (DJ _) zc) a 0 c [] rfl zc (by intro j u J;simp at J) (by intro u hu;cases hu) (by unfold maxLen;omega) za zc ?_)
 intro v' O r g q
 go_wp2
 go_ret
 refine⟨v',rfl,by simpa using r,?_,?_⟩
 ·exact q
 ·exact((Below.refl _ w).alloc (DA _) _).grown g zc (by intro k hk;simp [Value.ownBlock]at hk;omega)
theorem xu{E:Prop}(J:¬E){S:rC}{w w':World}(hm:Mem P S (look []) (look []) w)(q:Below w.heap.size w w'){e:TypeId}{sz:Nat}(F:szT P e=some sz){es:List PD}{xs:List Value}{v:Value}
  (how:w'.ownsRow w.heap.size e sz v es.length xs) (hf:Flat S sz es xs) (ho:v.oneCell'=true):
  ∃S' G,zA P E S w [] 0 (.ref 0 0) [.arr 0 e es] v w' S' G:=by
 have hblk:∀b,sX v=some b->w.heap.size<=b:=by
  intro b q
  rcases how.2 with⟨rfl, -⟩|⟨g,cap,cur,rfl,K, -⟩
  ·cases q
  ·cases cap with
   |zero=>cases q
   |succ c=>cases q;exact K
 have C:∀ad u,S ad=some u->w'.cell? ad=some u:=fun ad u hu=>by
  have h1:=hm.imm _ _ hu
  have I:=wg h1
  simpa [World.cell?,q.block _ I]using h1
 refine⟨S,[.arr 0 e sz v],rfl,DJ _,Sub.refl S,⟨fun ii Q B=>?_,fun ii L f=>?_,C,hm.vA,fun ii L b f r o=>?_,fun i j L O b f D _ _=>?_⟩,fun ad u h=>.inl h,(fun k L h=>by cases h),fun k L b f r=>.inr ?_,⟨q.os,q.tape,q.output,q.size,fun b h _=>q.block b h,fun he=>(J he).elim⟩,?_⟩
 ·match ii,B with
  |0,B=>
   cases B
   exact⟨_,rfl,.arr 0 e es sz v xs F (.inl (tP.of how)) hf⟩
 ·match ii,f with
  |0,f=>exact⟨_,rfl⟩
 ·match ii,f with
  |0,f=>
   cases f
   have h1:=hblk b r
   cases hS:S ⟨b,o,none⟩with
   |none=>rfl
   |some u=>
    have:=wg (hm.imm _ _ hS)
    simp at this
    omega
 ·match i,j,f,D with
  |0,0,_,_=>rfl
 ·match k,f with
  |0,f=>cases f;exact hblk b r
 ·exact .ref 0 0 v _ ho rfl fun H T N hdr he=>by cases he;exact⟨DA _,fun _=>rfl⟩
theorem wZ(L:SlLaysE0.n41 P ρ){i0:TypeInfo}{z:Value}{size bytes:Nat}{f:FuncId}{e:TypeId}{base:xF}(hE:¬base.mono)(hf:ρ.f 41=f)(he:ρ.t 23=e)(D:Enters P f)
  (hi:P.info? e=some i0) (K:i0.zero=some z) (G:i0.size=size) (N:i0.bytes=bytes) (O:z.cells.size=size) (C:0<size) (b1:0<bytes)
  (z23:∀w,(Go.sizeOf e).run P w= .ok size w)
  (args:List RV) (bs:List Box) (r:RV) (T:List Box) (h:wh e size bytes f args bs=some (r,T)):uj P base f args bs r T:=by
 subst hf he
 have F:szT P (ρ.t 23)=some size:=by unfold szT;rw [hi];simp [G]
 unfold wh at h
 split at h
 ·rename_i es
  split at h
  ·rename_i hl
   simp only [Option.some.injEq,Prod.mk.injEq]at h
   obtain⟨rfl,rfl⟩:=h
   obtain⟨hl,E⟩:=hl
   intro S w ls vs B I b0 b4 J U
   obtain⟨v0,rfl⟩:∃v0,vs= #[v0]:=by
    obtain⟨k⟩:=vs
    match k,J with
    | [v0],_=>exact⟨v0,rfl⟩
   have a0:=U 0 _ v0 rfl rfl
   obtain rfl:ls=[]:=List.eq_nil_of_length_eq_zero I
   cases a0 with
   |d a0=>
   have one_of:∀{w':World}{v:Value}{n:Nat}{xs:List Value},w'.ownsRow w.heap.size (ρ.t 23) size v n xs->v.oneCell'=true:=by
    intro w' v n xs ho
    rcases ho.2 with⟨rfl, -⟩|⟨g,cap,cur,rfl, -⟩<;>rfl
   cases a0 with
   |nil a c=>cases a with
    |none=>
     refine .inl ⟨D,(AnyE.slices_Clone_nil L 0 c w).mono ?_⟩
     rintro ee w' ⟨rfl,rfl⟩
     exact⟨_,rfl,xu hE B (Below.refl _ _) F (xs:=[]) ⟨zc,.inl ⟨rfl,rfl⟩⟩ (Flat.nil S size) rfl⟩
    |some a=>
     refine .inl ⟨D,(zQ L i0 z size bytes hi K G N O C z23 a c w).mono ?_⟩
     rintro ee w' ⟨v',rfl,q, -,W⟩
     exact⟨_,rfl,xu hE B W F q (Flat.nil S size) (one_of q)⟩
   |lst _ b o c sz f b3 a6 hS hV=>
    cases es with
    |nil=>
     refine .inl ⟨D,(zQ L i0 z size bytes hi K G N O C z23 _ c w).mono ?_⟩
     rintro ee w' ⟨v',rfl,q, -,W⟩
     exact⟨_,rfl,xu hE B W F q (Flat.nil S size) (one_of q)⟩
    |cons y ys=>
    generalize b2:y::ys=es at*
    have hy:y∈es:=by rw [<-b2];simp
    obtain rfl:sz=size:=by rw [<-a6 y hy,E y hy]
    have X:Flat S sz es ((DG (es.length*sz)).map fun t=>f (t / sz) (t%sz)):=by
     refine⟨E,fun u hu=>?_,fun i x j p h1 Q=>?_⟩
     ·obtain⟨t,H,rfl⟩:=List.mem_map.1 hu
      have H:=List.mem_range.1 H
      have h1:t / sz<es.length:=by rwa [FZ C]
      have Q:t%sz<es[t / sz].cells.length:=by rw [E _ (Dp h1)];exact Dq _ C
      exact B.vA _ _ (hS (t / sz) _ (t%sz) _ (zf h1) (zf Q))
     ·have hi:i<es.length:=(List.getElem?_eq_some_iff.1 h1).1
      have Y:j<sz:=by rw [<-E x (List.mem_of_getElem? h1)];exact(List.getElem?_eq_some_iff.1 Q).1
      have H:i*sz+j<es.length*sz:=by
       calc i*sz+j<i*sz+sz:=by omega
        _=(i+1)*sz:=by rw [Nat.add_mul,Nat.one_mul]
        _<=es.length*sz:=Nat.mul_le_mul_right sz hi
      have q1:(i*sz+j) / sz=i:=by rw [EC i sz,Nat.mul_add_div C,Nat.div_eq_of_lt Y,Nat.add_zero]
      have q2:(i*sz+j)%sz=j:=by rw [EC i sz,Nat.mul_add_mod,Nat.mod_eq_of_lt Y]
      refine⟨f i j,?_,hV i x j p h1 Q⟩
      rw [ED,F0 H]
      simp only [Option.map_some,q1,q2]
    have a5:es.length<=maxLen:=by
     have h1:es.length*1<=es.length*bytes:=Nat.mul_le_mul_left _ b1
     unfold maxLen
     omega
    refine .inl ⟨D,(AnyE.slices_Clone L i0 z sz bytes hi K G N O C z23 b o es.length c ((DG (es.length*sz)).map fun t=>f (t / sz) (t%sz)) w zc a5 hl (fun j u Y=>?_) X.one).mono ?_⟩
    ·rw [ED,Option.map_eq_some_iff]at Y
     obtain⟨t,H,rfl⟩:=Y
     have a9:=(List.getElem?_eq_some_iff.1 H).1
     simp only [List.length_range]at a9
     rw [F0 a9]at H
     cases H
     have h1:j / sz<es.length:=by rwa [FZ C]
     have Q:j%sz<es[j / sz].cells.length:=by rw [E _ (Dp h1)];exact Dq _ C
     have:=B.imm _ _ (hS (j / sz) _ (j%sz) _ (zf h1) (zf Q))
     rw [Nat.add_assoc,Nat.div_add_mod']at this
     exact this
    ·rintro ee w' ⟨v',rfl,q, -,W⟩
     exact⟨_,rfl,xu hE B W F q X (one_of q)⟩
  ·cases h
 ·cases h
end
end Go.Dw
