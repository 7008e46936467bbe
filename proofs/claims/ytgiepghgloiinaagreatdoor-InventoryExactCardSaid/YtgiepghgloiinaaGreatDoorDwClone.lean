
import Derived.Test.YtgiepghgloiinaaGreatDoorDwArg
import Derived.Test.YtgiepghgloiinaaGreatDoorDwLift4
import Derived.Below
import Derived.Shelf.SlicesE.Clone
open Nat renaming div_lt_iff_lt_mul->CK, le_refl->AB, mod_lt->Ai, mul_comm->Au, zero_le->AL
open List renaming getElem?_map->Av, getElem?_range->CL, getElem_mem->Ah, range->AI

namespace Go.Dw
open Go.RowKit
end Go.Dw
namespace Go.Dw
open Go.Proofs Go.Shelf Go.RowKit Go.Lib
def o3(e:TypeId)(size bytes:Nat):ko:=fun _ args bs=>
 match args,bs with
 | [.d (.lst es)],[]=>if es.length*bytes<=140737488355328∧∀x∈es,x.cells.length=size then some (.ref 0 0,[.arr 0 e es])else none
 |_,_=>none
theorem qg{P:Program}{H:Hints}{ext:FuncId->Option ko}{f:FuncId}{e:TypeId}{size bytes:Nat}(a:ext f=some (o3 e size bytes)){α:Type}{g:α->PD}(c:∀x,(g x).cells.length=size){l r:List α}(h:nk bytes l=some r):
  EvP P H ext f [.d (.lst (l.map g))] [] (.ref 0 0,[.arr 0 e (r.map g)]):=by
 refine Ev.lib a ?_
 unfold nk at h
 split at h
 ·rename_i hl
  cases h
  have b:∀x∈l.map g,x.cells.length=size:=fun x a=>by obtain⟨y, -,rfl⟩:=List.mem_map.1 a;exact c y
  simp only [o3,List.length_map]
  rw [if_pos ⟨hl,b⟩]
 ·cases h
section
variable {P:Program}{ρ:Go.Shelf.Ren}
set_option maxHeartbeats 2000000 in
set_option maxRecDepth 100000 in
theorem sD(L:SlLaysE0.n41 P ρ)(i0:TypeInfo)(z:Value)(size bytes:Nat)(hi:P.info? (ρ.t 23)=some i0)(m:i0.zero=some z)(o:i0.size=size)(p:i0.bytes=bytes)(q:z.cells.size=size)(hsz:0<size)
  (z23:∀w,(Go.sizeOf (ρ.t 23)).run P w= .ok size w) (a:Addr) (c:Nat) (w:World):
  Calls P (ρ.f 41) #[.slice (some a) 0 c] w fun e w'=>∃v',e= .returned v'∧w'.ownsRow w.heap.size (ρ.t 23) size v' 0 []∧v'≠ .slice none 0 0∧Below w.heap.size w w':=by
 have mixed:=L.mixed;have t4:=L.t4;have a4:=L.a4;have z4:=L.z4;have v4:=L.v4;have t22:=L.t22;have a22:=L.a22;have z22:=L.z22;have v22:=L.v22
 have x:∀(w:World)(a:Option Addr)(n c r l:Nat),(binOp .eql (ρ.t 22) (.slice a n c) (.slice none r l)).run P w= .ok (.bool a.isNone) w:=fun w a n c r l=>Lib.run_eql_slice_nil w _ _ a n c r l L.t22
 have y:∀w,Sem.run P (underlying (ρ.t 22)) w= .ok (TypeDesc.slice (ρ.t 23)) w:=run_underlying t22
 obtain⟨_,_,s⟩:=L.f41
 go_enter s,SlBodyN.n41_ntmps ρ
 go_wp2_with (at_builtin;refine wpList_append_own _ rfl _ _ (ρ.t 22) rfl w.heap.size (ρ.t 23) i0 z size bytes t22 hi m o p q hsz _ _ _ rfl (World.ownsRow_made w #[] 0 (AB _) (AL _) sm) a 0 c [] rfl sm (by intro j u v;simp at v) (by intro u hu;cases hu) (by unfold maxLen;omega) om sm ?_)
 intro v' B i b g
 go_wp2
 go_ret
 refine⟨v',rfl,by simpa using i,?_,?_⟩
 ·exact g
 ·exact((Below.refl _ w).alloc (AB _) _).grown b sm (by intro k hk;simp [Value.ownBlock]at hk;omega)
theorem pz{E:Prop}(s:¬E){S:kd}{w w':World}(hm:Mem P S (look []) (look []) w)(hb:Below w.heap.size w w'){e:TypeId}{sz:Nat}(hsz:szT P e=some sz){es:List PD}{xs:List Value}{v:Value}
  (how:w'.ownsRow w.heap.size e sz v es.length xs) (hf:Flat S sz es xs) (ho:v.oneCell'=true):
  ∃S' p,sg P E S w [] 0 (.ref 0 0) [.arr 0 e es] v w' S' p:=by
 have hblk:∀b,ku v=some b->w.heap.size<=b:=by
  intro b hb
  rcases how.2 with⟨rfl, -⟩|⟨g,cap,cur,rfl,t, -⟩
  ·cases hb
  ·cases cap with
   |zero=>cases hb
   |succ c=>cases hb;exact t
 have m:∀ad u,S ad=some u->w'.cell? ad=some u:=fun ad u hu=>by
  have h1:=hm.imm _ _ hu
  have r:=qf h1
  simpa [World.cell?,hb.block _ r]using h1
 refine⟨S,[.arr 0 e sz v],rfl,AL _,Sub.refl S,⟨fun ii z l=>?_,fun ii L a=>?_,m,hm.nA,fun ii L b a f o=>?_,fun i j L y b a n _ _=>?_⟩,fun ad u h=>.inl h,(fun k L h=>by cases h),fun k L b a f=>.inr ?_,⟨hb.os,hb.tape,hb.output,hb.size,fun b h _=>hb.block b h,fun he=>(s he).elim⟩,?_⟩
 ·match ii,l with
  |0,l=>
   cases l
   exact⟨_,rfl,.arr 0 e es sz v xs hsz (.inl (lX.of how)) hf⟩
 ·match ii,a with
  |0,a=>exact⟨_,rfl⟩
 ·match ii,a with
  |0,a=>
   cases a
   have h1:=hblk b f
   cases hS:S ⟨b,o,none⟩with
   |none=>rfl
   |some u=>
    have:=qf (hm.imm _ _ hS)
    simp at this
    omega
 ·match i,j,a,n with
  |0,0,_,_=>rfl
 ·match k,a with
  |0,a=>cases a;exact hblk b f
 ·exact .ref 0 0 v _ ho rfl fun q B x hdr he=>by cases he;exact⟨AB _,fun _=>rfl⟩
theorem qh(L:SlLaysE0.n41 P ρ){i0:TypeInfo}{z:Value}{size bytes:Nat}{f:FuncId}{e:TypeId}{base:qc}(W:¬base.mono)(hf:ρ.f 41=f)(he:ρ.t 23=e)(q:Enters P f)
  (hi:P.info? e=some i0) (F:i0.zero=some z) (C:i0.size=size) (G:i0.bytes=bytes) (H:z.cells.size=size) (hsz:0<size) (a4:0<bytes)
  (z23:∀w,(Go.sizeOf e).run P w= .ok size w)
  (args:List RV) (bs:List Box) (r:RV) (J:List Box) (h:o3 e size bytes f args bs=some (r,J)):nj P base f args bs r J:=by
 subst hf he
 have B:szT P (ρ.t 23)=some size:=by unfold szT;rw [hi];simp [C]
 unfold o3 at h
 split at h
 ·rename_i es
  split at h
  ·rename_i hl
   simp only [Option.some.injEq,Prod.mk.injEq]at h
   obtain⟨rfl,rfl⟩:=h
   obtain⟨hl,s⟩:=hl
   intro S w ls vs m D Y b0 E K
   obtain⟨v0,rfl⟩:∃v0,vs= #[v0]:=by
    obtain⟨k⟩:=vs
    match k,E with
    | [v0],_=>exact⟨v0,rfl⟩
   have a0:=K 0 _ v0 rfl rfl
   obtain rfl:ls=[]:=List.eq_nil_of_length_eq_zero D
   cases a0 with
   |d a0=>
   have one_of:∀{w':World}{v:Value}{n:Nat}{xs:List Value},w'.ownsRow w.heap.size (ρ.t 23) size v n xs->v.oneCell'=true:=by
    intro w' v n xs ho
    rcases ho.2 with⟨rfl, -⟩|⟨g,cap,cur,rfl, -⟩<;>rfl
   cases a0 with
   |nil a c=>cases a with
    |none=>
     refine .inl ⟨q,(AnyE.slices_Clone_nil L 0 c w).mono ?_⟩
     rintro X w' ⟨rfl,rfl⟩
     exact⟨_,rfl,pz W m (Below.refl _ _) B (xs:=[]) ⟨sm,.inl ⟨rfl,rfl⟩⟩ (Flat.nil S size) rfl⟩
    |some a=>
     refine .inl ⟨q,(sD L i0 z size bytes hi F C G H hsz z23 a c w).mono ?_⟩
     rintro X w' ⟨v',rfl,l, -,hb⟩
     exact⟨_,rfl,pz W m hb B l (Flat.nil S size) (one_of l)⟩
   |lst _ b o c sz f a9 T hS hV=>
    cases es with
    |nil=>
     refine .inl ⟨q,(sD L i0 z size bytes hi F C G H hsz z23 _ c w).mono ?_⟩
     rintro X w' ⟨v',rfl,l, -,hb⟩
     exact⟨_,rfl,pz W m hb B l (Flat.nil S size) (one_of l)⟩
    |cons y ys=>
    generalize a5:y::ys=es at*
    have hy:y∈es:=by rw [<-a5];simp
    obtain rfl:sz=size:=by rw [<-T y hy,s y hy]
    have N:Flat S sz es ((AI (es.length*sz)).map fun t=>f (t / sz) (t%sz)):=by
     refine⟨s,fun u hu=>?_,fun i x j p h1 I=>?_⟩
     ·obtain⟨t,ht,rfl⟩:=List.mem_map.1 hu
      have ht:=List.mem_range.1 ht
      have h1:t / sz<es.length:=by rwa [CK hsz]
      have I:t%sz<es[t / sz].cells.length:=by rw [s _ (Ah h1)];exact Ai _ hsz
      exact m.nA _ _ (hS (t / sz) _ (t%sz) _ (zc h1) (zc I))
     ·have hi:i<es.length:=(List.getElem?_eq_some_iff.1 h1).1
      have O:j<sz:=by rw [<-s x (List.mem_of_getElem? h1)];exact(List.getElem?_eq_some_iff.1 I).1
      have ht:i*sz+j<es.length*sz:=by
       calc i*sz+j<i*sz+sz:=by omega
        _=(i+1)*sz:=by rw [Nat.add_mul,Nat.one_mul]
        _<=es.length*sz:=Nat.mul_le_mul_right sz hi
      have q1:(i*sz+j) / sz=i:=by rw [Au i sz,Nat.mul_add_div hsz,Nat.div_eq_of_lt O,Nat.add_zero]
      have q2:(i*sz+j)%sz=j:=by rw [Au i sz,Nat.mul_add_mod,Nat.mod_eq_of_lt O]
      refine⟨f i j,?_,hV i x j p h1 I⟩
      rw [Av,CL ht]
      simp only [Option.map_some,q1,q2]
    have Q:es.length<=maxLen:=by
     have h1:es.length*1<=es.length*bytes:=Nat.mul_le_mul_left _ a4
     unfold maxLen
     omega
    refine .inl ⟨q,(AnyE.slices_Clone L i0 z sz bytes hi F C G H hsz z23 b o es.length c ((AI (es.length*sz)).map fun t=>f (t / sz) (t%sz)) w sm Q hl (fun j u O=>?_) N.one).mono ?_⟩
    ·rw [Av,Option.map_eq_some_iff]at O
     obtain⟨t,ht,rfl⟩:=O
     have U:=(List.getElem?_eq_some_iff.1 ht).1
     simp only [List.length_range]at U
     rw [CL U]at ht
     cases ht
     have h1:j / sz<es.length:=by rwa [CK hsz]
     have I:j%sz<es[j / sz].cells.length:=by rw [s _ (Ah h1)];exact Ai _ hsz
     have:=m.imm _ _ (hS (j / sz) _ (j%sz) _ (zc h1) (zc I))
     rw [Nat.add_assoc,Nat.div_add_mod']at this
     exact this
    ·rintro X w' ⟨v',rfl,l, -,hb⟩
     exact⟨_,rfl,pz W m hb B l N (one_of l)⟩
  ·cases h
 ·cases h
end
end Go.Dw
