
import Derived.Test.YtfmoipelhfkdkaaGreatDoorDwArg
import Derived.Test.YtfmoipelhfkdkaaGreatDoorDwLift4
import Derived.Below
import Derived.Shelf.SlicesE.Clone
open Nat renaming div_lt_iff_lt_mul->Fo, le_refl->DI, mod_lt->EK, mul_comm->EX, zero_le->DR
open List renaming getElem?_map->EY, getElem?_range->Fp, getElem_mem->EJ, range->DO

namespace Go.Dw
open Go.RowKit
theorem CZ{P:Program}{E:Prop}(j:¬E){S:rP}{w w':World}{r:RV}{v:Value}(hm:Mem P S (look []) (look []) w)(f:Below w.heap.size w w')(q:R S (look []) r v)(g:∀ad u,S ad=some u->w'.cell? ad=some u):
  zS P E S w [] 0 r [] v w' S []:=by
 refine⟨rfl,DI _,Sub.refl _,⟨(fun id F h=>by cases h),(fun id L h=>by cases h),g,hm.vN,(fun id L b h=>by cases h),(fun id C L D b h=>by cases h)⟩,fun ad u h=>.inl h,(fun k L h=>by cases h),(fun k L b h=>by cases h),⟨f.os,f.tape,f.output,f.size,fun b h _=>f.block b h,fun he=>(j he).elim⟩,q⟩
end Go.Dw
namespace Go.Dw
open Go.Proofs Go.Shelf Go.RowKit Go.Lib
def wB(e:TypeId)(size bytes:Nat):rO:=fun _ args bs=>
 match args,bs with
 | [.d (.lst es)],[]=>if es.length*bytes<=140737488355328∧∀x∈es,x.cells.length=size then some (.ref 0 0,[.arr 0 e es])else none
 |_,_=>none
theorem xe{P:Program}{H:Hints}{ext:FuncId->Option rO}{f:FuncId}{e:TypeId}{size bytes:Nat}(j:ext f=some (wB e size bytes)){α:Type}{g:α->PD}(q:∀x,(g x).cells.length=size){l r:List α}(h:sg bytes l=some r):
  EvP P H ext f [.d (.lst (l.map g))] [] (.ref 0 0,[.arr 0 e (r.map g)]):=by
 refine Ev.lib j ?_
 unfold sg at h
 split at h
 ·rename_i hl
  cases h
  have k:∀x∈l.map g,x.cells.length=size:=fun x j=>by obtain⟨y, -,rfl⟩:=List.mem_map.1 j;exact q y
  simp only [wB,List.length_map]
  rw [if_pos ⟨hl,k⟩]
 ·cases h
section
variable {P:Program}{ρ:Go.Shelf.Ren}
set_option maxHeartbeats 2000000 in
set_option maxRecDepth 100000 in
theorem Ah(L:SlLaysE0.n41 P ρ)(i0:TypeInfo)(z:Value)(size bytes:Nat)(hi:P.info? (ρ.t 23)=some i0)(E:i0.zero=some z)(F:i0.size=size)(G:i0.bytes=bytes)(H:z.cells.size=size)(D:0<size)
  (z23:∀w,(Go.sizeOf (ρ.t 23)).run P w= .ok size w) (a:Addr) (c:Nat) (w:World):
  Calls P (ρ.f 41) #[.slice (some a) 0 c] w fun e w'=>∃v',e= .returned v'∧w'.ownsRow w.heap.size (ρ.t 23) size v' 0 []∧v'≠ .slice none 0 0∧Below w.heap.size w w':=by
 have mixed:=L.mixed;have t4:=L.t4;have a4:=L.a4;have z4:=L.z4;have v4:=L.v4;have t22:=L.t22;have a22:=L.a22;have z22:=L.z22;have v22:=L.v22
 have N:∀(w:World)(a:Option Addr)(n c I C:Nat),(binOp .eql (ρ.t 22) (.slice a n c) (.slice none I C)).run P w= .ok (.bool a.isNone) w:=fun w a n c I C=>Lib.run_eql_slice_nil w _ _ a n c I C L.t22
 have O:∀w,Sem.run P (underlying (ρ.t 22)) w= .ok (TypeDesc.slice (ρ.t 23)) w:=run_underlying t22
 obtain⟨_,_,J⟩:=L.f41
 go_enter J,SlBodyN.n41_ntmps ρ
 go_wp2_with (at_builtin;refine wpList_append_own _ rfl _ _ (ρ.t 22) rfl w.heap.size (ρ.t 23) i0 z size bytes t22 hi E F G H D _ _ _ rfl (World.ownsRow_made w #[] 0 (DI _) (DR _) zc) a 0 c [] rfl zc (by intro j u K;simp at K) (by intro u hu;cases hu) (by unfold maxLen;omega) za zc ?_)
 intro v' Q r g q
 go_wp2
 go_ret
 refine⟨v',rfl,by simpa using r,?_,?_⟩
 ·exact q
 ·exact((Below.refl _ w).alloc (DI _) _).grown g zc (by intro k hk;simp [Value.ownBlock]at hk;omega)
theorem xI{E:Prop}(K:¬E){S:rP}{w w':World}(hm:Mem P S (look []) (look []) w)(q:Below w.heap.size w w'){e:TypeId}{sz:Nat}(G:szT P e=some sz){es:List PD}{xs:List Value}{v:Value}
  (how:w'.ownsRow w.heap.size e sz v es.length xs) (hf:Flat S sz es xs) (ho:v.oneCell'=true):
  ∃S' H,zS P E S w [] 0 (.ref 0 0) [.arr 0 e es] v w' S' H:=by
 have hblk:∀b,tp v=some b->w.heap.size<=b:=by
  intro b q
  rcases how.2 with⟨rfl, -⟩|⟨g,cap,cur,rfl,N, -⟩
  ·cases q
  ·cases cap with
   |zero=>cases q
   |succ c=>cases q;exact N
 have D:∀ad u,S ad=some u->w'.cell? ad=some u:=fun ad u hu=>by
  have h1:=hm.imm _ _ hu
  have J:=wA h1
  simpa [World.cell?,q.block _ J]using h1
 refine⟨S,[.arr 0 e sz v],rfl,DR _,Sub.refl S,⟨fun ii T C=>?_,fun ii L f=>?_,D,hm.vN,fun ii L b f r o=>?_,fun i j L Q b f F _ _=>?_⟩,fun ad u h=>.inl h,(fun k L h=>by cases h),fun k L b f r=>.inr ?_,⟨q.os,q.tape,q.output,q.size,fun b h _=>q.block b h,fun he=>(K he).elim⟩,?_⟩
 ·match ii,C with
  |0,C=>
   cases C
   exact⟨_,rfl,.arr 0 e es sz v xs G (.inl (ub.of how)) hf⟩
 ·match ii,f with
  |0,f=>exact⟨_,rfl⟩
 ·match ii,f with
  |0,f=>
   cases f
   have h1:=hblk b r
   cases hS:S ⟨b,o,none⟩with
   |none=>rfl
   |some u=>
    have:=wA (hm.imm _ _ hS)
    simp at this
    omega
 ·match i,j,f,F with
  |0,0,_,_=>rfl
 ·match k,f with
  |0,f=>cases f;exact hblk b r
 ·exact .ref 0 0 v _ ho rfl fun I U O hdr he=>by cases he;exact⟨DI _,fun _=>rfl⟩
theorem xf(L:SlLaysE0.n41 P ρ){i0:TypeInfo}{z:Value}{size bytes:Nat}{f:FuncId}{e:TypeId}{base:xT}(hE:¬base.mono)(hf:ρ.f 41=f)(he:ρ.t 23=e)(E:Enters P f)
  (hi:P.info? e=some i0) (N:i0.zero=some z) (H:i0.size=size) (O:i0.bytes=bytes) (Q:z.cells.size=size) (D:0<size) (b1:0<bytes)
  (z23:∀w,(Go.sizeOf e).run P w= .ok size w)
  (args:List RV) (bs:List Box) (r:RV) (U:List Box) (h:wB e size bytes f args bs=some (r,U)):uC P base f args bs r U:=by
 subst hf he
 have G:szT P (ρ.t 23)=some size:=by unfold szT;rw [hi];simp [H]
 unfold wB at h
 split at h
 ·rename_i es
  split at h
  ·rename_i hl
   simp only [Option.some.injEq,Prod.mk.injEq]at h
   obtain⟨rfl,rfl⟩:=h
   obtain⟨hl,F⟩:=hl
   intro S w ls vs C J b0 b4 K W
   obtain⟨v0,rfl⟩:∃v0,vs= #[v0]:=by
    obtain⟨k⟩:=vs
    match k,K with
    | [v0],_=>exact⟨v0,rfl⟩
   have a0:=W 0 _ v0 rfl rfl
   obtain rfl:ls=[]:=List.eq_nil_of_length_eq_zero J
   cases a0 with
   |d a0=>
   have one_of:∀{w':World}{v:Value}{n:Nat}{xs:List Value},w'.ownsRow w.heap.size (ρ.t 23) size v n xs->v.oneCell'=true:=by
    intro w' v n xs ho
    rcases ho.2 with⟨rfl, -⟩|⟨g,cap,cur,rfl, -⟩<;>rfl
   cases a0 with
   |nil a c=>cases a with
    |none=>
     refine .inl ⟨E,(AnyE.slices_Clone_nil L 0 c w).mono ?_⟩
     rintro ee w' ⟨rfl,rfl⟩
     exact⟨_,rfl,xI hE C (Below.refl _ _) G (xs:=[]) ⟨zc,.inl ⟨rfl,rfl⟩⟩ (Flat.nil S size) rfl⟩
    |some a=>
     refine .inl ⟨E,(Ah L i0 z size bytes hi N H O Q D z23 a c w).mono ?_⟩
     rintro ee w' ⟨v',rfl,q, -,X⟩
     exact⟨_,rfl,xI hE C X G q (Flat.nil S size) (one_of q)⟩
   |lst _ b o c sz f b3 a6 hS hV=>
    cases es with
    |nil=>
     refine .inl ⟨E,(Ah L i0 z size bytes hi N H O Q D z23 _ c w).mono ?_⟩
     rintro ee w' ⟨v',rfl,q, -,X⟩
     exact⟨_,rfl,xI hE C X G q (Flat.nil S size) (one_of q)⟩
    |cons y ys=>
    generalize b2:y::ys=es at*
    have hy:y∈es:=by rw [<-b2];simp
    obtain rfl:sz=size:=by rw [<-a6 y hy,F y hy]
    have Y:Flat S sz es ((DO (es.length*sz)).map fun t=>f (t / sz) (t%sz)):=by
     refine⟨F,fun u hu=>?_,fun i x j p h1 T=>?_⟩
     ·obtain⟨t,I,rfl⟩:=List.mem_map.1 hu
      have I:=List.mem_range.1 I
      have h1:t / sz<es.length:=by rwa [Fo D]
      have T:t%sz<es[t / sz].cells.length:=by rw [F _ (EJ h1)];exact EK _ D
      exact C.vN _ _ (hS (t / sz) _ (t%sz) _ (zf h1) (zf T))
     ·have hi:i<es.length:=(List.getElem?_eq_some_iff.1 h1).1
      have hj:j<sz:=by rw [<-F x (List.mem_of_getElem? h1)];exact(List.getElem?_eq_some_iff.1 T).1
      have I:i*sz+j<es.length*sz:=by
       calc i*sz+j<i*sz+sz:=by omega
        _=(i+1)*sz:=by rw [Nat.add_mul,Nat.one_mul]
        _<=es.length*sz:=Nat.mul_le_mul_right sz hi
      have q1:(i*sz+j) / sz=i:=by rw [EX i sz,Nat.mul_add_div D,Nat.div_eq_of_lt hj,Nat.add_zero]
      have q2:(i*sz+j)%sz=j:=by rw [EX i sz,Nat.mul_add_mod,Nat.mod_eq_of_lt hj]
      refine⟨f i j,?_,hV i x j p h1 T⟩
      rw [EY,Fp I]
      simp only [Option.map_some,q1,q2]
    have a5:es.length<=maxLen:=by
     have h1:es.length*1<=es.length*bytes:=Nat.mul_le_mul_left _ b1
     unfold maxLen
     omega
    refine .inl ⟨E,(AnyE.slices_Clone L i0 z sz bytes hi N H O Q D z23 b o es.length c ((DO (es.length*sz)).map fun t=>f (t / sz) (t%sz)) w zc a5 hl (fun j u hj=>?_) Y.one).mono ?_⟩
    ·rw [EY,Option.map_eq_some_iff]at hj
     obtain⟨t,I,rfl⟩:=hj
     have a9:=(List.getElem?_eq_some_iff.1 I).1
     simp only [List.length_range]at a9
     rw [Fp a9]at I
     cases I
     have h1:j / sz<es.length:=by rwa [Fo D]
     have T:j%sz<es[j / sz].cells.length:=by rw [F _ (EJ h1)];exact EK _ D
     have:=C.imm _ _ (hS (j / sz) _ (j%sz) _ (zf h1) (zf T))
     rw [Nat.add_assoc,Nat.div_add_mod']at this
     exact this
    ·rintro ee w' ⟨v',rfl,q, -,X⟩
     exact⟨_,rfl,xI hE C X G q Y (one_of q)⟩
  ·cases h
 ·cases h
end
end Go.Dw
