
import Derived.Test.YthkfkgoddhehcaaGreatDwArg
import Derived.Test.YthkfkgoddhehcaaGreatDwLift4
import Derived.Below
import Derived.Shelf.SlicesE.Clone
open Nat renaming div_lt_iff_lt_mul->G9, le_refl->EB, mod_lt->FC, mul_comm->FN, zero_le->EK
open List renaming getElem?_map->FO, getElem?_range->Ga, getElem_mem->FB, range->EH

namespace Go.Dw
open Go.RowKit
end Go.Dw
namespace Go.Dw
open Go.Proofs Go.Shelf Go.RowKit Go.Lib
def wN(e:TypeId)(size bytes:Nat):tI:=λ_ args bs=>
 match args,bs with
 | [.d (.lst es)],[]=>if es.length*bytes<=140737488355328∧∀x∈es,x.cells.length=size then some (.ref 0 0,[.arr 0 e es])else none
 |_,_=>none
theorem zO{P:Program}{H:Hints}{ext:FuncId->Option tI}{f:FuncId}{e:TypeId}{size bytes:Nat}(a:ext f=some (wN e size bytes)){α:Type}{g:α->PD}(j:∀x,(g x).cells.length=size){l r:List α}(h:uK bytes l=some r):
  EvP P H ext f [.d (.lst (l.map g))] [] (.ref 0 0,[.arr 0 e (r.map g)]):=by
 refine Ev.lib a ?_
 unfold uK at h
 split at h
 ·rename_i k
  cases h
  have c:∀x∈l.map g,x.cells.length=size:=λx a=>by obtain⟨y, -,rfl⟩:=List.mem_map.1 a;exact j y
  simp only [wN,List.length_map]
  rw [if_pos ⟨k,c⟩]
 ·cases h
section
variable {P:Program}{ρ:Go.Shelf.Ren}
set_option maxHeartbeats 2000000 in
set_option maxRecDepth 100000 in
theorem Bg(L:SlLaysE0.n41 P ρ)(i0:TypeInfo)(z:Value)(size bytes:Nat)(hi:P.info? (ρ.t 23)=some i0)(x:i0.zero=some z)(y:i0.size=size)(B:i0.bytes=bytes)(C:z.cells.size=size)(r:0<size)
  (z23:∀w,(Go.sizeOf (ρ.t 23)).run P w= .ok size w) (a:Addr) (c:Nat) (w:World):
  Calls P (ρ.f 41) #[.slice (some a) 0 c] w λe w'=>∃v',e= .returned v'∧w'.ownsRow w.heap.size (ρ.t 23) size v' 0 []∧v'≠ .slice none 0 0∧Below w.heap.size w w':=by
 have mixed:=L.mixed;have t4:=L.t4;have a4:=L.a4;have z4:=L.z4;have v4:=L.v4;have t22:=L.t22;have a22:=L.a22;have z22:=L.z22;have v22:=L.v22
 have G:∀(w:World)(a:Option Addr)(n c D q:Nat),(binOp .eql (ρ.t 22) (.slice a n c) (.slice none D q)).run P w= .ok (.bool a.isNone) w:=λw a n c D q=>Lib.run_eql_slice_nil w _ _ a n c D q L.t22
 have H:∀w,Sem.run P (underlying (ρ.t 22)) w= .ok (TypeDesc.slice (ρ.t 23)) w:=run_underlying t22
 obtain⟨_,_,E⟩:=L.f41
 go_enter E,SlBodyN.n41_ntmps ρ
 go_wp2_with (at_builtin;refine wpList_append_own _ rfl _ _ (ρ.t 22) rfl w.heap.size (ρ.t 23) i0 z size bytes t22 hi x y B C r _ _ _ rfl (World.ownsRow_made w #[] 0 (EB _) (EK _) zb) a 0 c [] rfl zb (by intro j u F;simp at F) (by intro u hu;cases hu) (by unfold maxLen;omega) za zb ?_)
 intro v' I p g l
 go_wp2
 go_ret
 refine⟨v',rfl,by simpa using p,?_,?_⟩
 ·exact l
 ·exact((Below.refl _ w).alloc (EB _) _).grown g zb (by intro k hk;simp [Value.ownBlock]at hk;omega)
theorem yT{E:Prop}(B:¬E){S:tG}{w w':World}(hm:Mem P S (look []) (look []) w)(f:Below w.heap.size w w'){e:TypeId}{sz:Nat}(t:szT P e=some sz){es:List PD}{xs:List Value}{v:Value}
  (how:w'.ownsRow w.heap.size e sz v es.length xs) (hf:Flat S sz es xs) (ho:v.oneCell'=true):
  ∃S' x,yj P E S w [] 0 (.ref 0 0) [.arr 0 e es] v w' S' x:=by
 have hblk:∀b,tM v=some b->w.heap.size<=b:=by
  intro b f
  rcases how.2 with⟨rfl, -⟩|⟨g,cap,cur,rfl,C, -⟩
  ·cases f
  ·cases cap with
   |zero=>cases f
   |succ c=>cases f;exact C
 have q:∀ad u,S ad=some u->w'.cell? ad=some u:=λad u hu=>by
  have h1:=hm.imm _ _ hu
  have z:=wF h1
  simpa [World.cell?,f.block _ z]using h1
 refine⟨S,[.arr 0 e sz v],rfl,EK _,Sub.refl S,⟨λii G p=>?_,λii L a=>?_,q,hm.wU,λii L b a l o=>?_,λi j L F b a r _ _=>?_⟩,λad u h=>.inl h,(λk L h=>by cases h),λk L b a l=>.inr ?_,⟨f.os,f.tape,f.output,f.size,λb h _=>f.block b h,λhe=>(B he).elim⟩,?_⟩
 ·match ii,p with
  |0,p=>
   cases p
   exact⟨_,rfl,.arr 0 e es sz v xs t (.inl (uY.of how)) hf⟩
 ·match ii,a with
  |0,a=>exact⟨_,rfl⟩
 ·match ii,a with
  |0,a=>
   cases a
   have h1:=hblk b l
   cases hS:S ⟨b,o,none⟩with
   |none=>rfl
   |some u=>
    have:=wF (hm.imm _ _ hS)
    simp at this
    omega
 ·match i,j,a,r with
  |0,0,_,_=>rfl
 ·match k,a with
  |0,a=>cases a;exact hblk b l
 ·exact .ref 0 0 v _ ho rfl λy H D hdr he=>by cases he;exact⟨EB _,λ_=>rfl⟩
theorem wK(L:SlLaysE0.n41 P ρ){i0:TypeInfo}{z:Value}{size bytes:Nat}{f:FuncId}{e:TypeId}{base:wX}(hE:¬base.mono)(hf:ρ.f 41=f)(he:ρ.t 23=e)(C:Enters P f)
  (hi:P.info? e=some i0) (J:i0.zero=some z) (F:i0.size=size) (K:i0.bytes=bytes) (N:z.cells.size=size) (B:0<size) (a9:0<bytes)
  (z23:∀w,(Go.sizeOf e).run P w= .ok size w)
  (args:List RV) (bs:List Box) (r:RV) (Q:List Box) (h:wN e size bytes f args bs=some (r,Q)):uM P base f args bs r Q:=by
 subst hf he
 have E:szT P (ρ.t 23)=some size:=by unfold szT;rw [hi];simp [F]
 unfold wN at h
 split at h
 ·rename_i es
  split at h
  ·rename_i hl
   simp only [Option.some.injEq,Prod.mk.injEq]at h
   obtain⟨rfl,rfl⟩:=h
   obtain⟨hl,D⟩:=hl
   intro S w ls vs q H a8 b4 I T
   obtain⟨v0,rfl⟩:∃v0,vs= #[v0]:=by
    obtain⟨k⟩:=vs
    match k,I with
    | [v0],_=>exact⟨v0,rfl⟩
   have a0:=T 0 _ v0 rfl rfl
   obtain rfl:ls=[]:=List.eq_nil_of_length_eq_zero H
   cases a0 with
   |d a0=>
   have one_of:∀{w':World}{v:Value}{n:Nat}{xs:List Value},w'.ownsRow w.heap.size (ρ.t 23) size v n xs->v.oneCell'=true:=by
    intro w' v n xs ho
    rcases ho.2 with⟨rfl, -⟩|⟨g,cap,cur,rfl, -⟩<;>rfl
   cases a0 with
   |nil a c=>cases a with
    |none=>
     refine .inl ⟨C,(AnyE.slices_Clone_nil L 0 c w).mono ?_⟩
     rintro ee w' ⟨rfl,rfl⟩
     exact⟨_,rfl,yT hE q (Below.refl _ _) E (xs:=[]) ⟨zb,.inl ⟨rfl,rfl⟩⟩ (Flat.nil S size) rfl⟩
    |some a=>
     refine .inl ⟨C,(Bg L i0 z size bytes hi J F K N B z23 a c w).mono ?_⟩
     rintro ee w' ⟨v',rfl,l, -,W⟩
     exact⟨_,rfl,yT hE q W E l (Flat.nil S size) (one_of l)⟩
   |lst _ b o c sz f b3 a6 hS hV=>
    cases es with
    |nil=>
     refine .inl ⟨C,(Bg L i0 z size bytes hi J F K N B z23 _ c w).mono ?_⟩
     rintro ee w' ⟨v',rfl,l, -,W⟩
     exact⟨_,rfl,yT hE q W E l (Flat.nil S size) (one_of l)⟩
    |cons y ys=>
    generalize b0:y::ys=es at*
    have hy:y∈es:=by rw [<-b0];simp
    obtain rfl:sz=size:=by rw [<-a6 y hy,D y hy]
    have X:Flat S sz es ((EH (es.length*sz)).map λt=>f (t / sz) (t%sz)):=by
     refine⟨D,λu hu=>?_,λi x j p h1 O=>?_⟩
     ·obtain⟨t,G,rfl⟩:=List.mem_map.1 hu
      have G:=List.mem_range.1 G
      have h1:t / sz<es.length:=by rwa [G9 B]
      have O:t%sz<es[t / sz].cells.length:=by rw [D _ (FB h1)];exact FC _ B
      exact q.wU _ _ (hS (t / sz) _ (t%sz) _ (ze h1) (ze O))
     ·have hi:i<es.length:=(List.getElem?_eq_some_iff.1 h1).1
      have Y:j<sz:=by rw [<-D x (List.mem_of_getElem? h1)];exact(List.getElem?_eq_some_iff.1 O).1
      have G:i*sz+j<es.length*sz:=by
       calc i*sz+j<i*sz+sz:=by omega
        _=(i+1)*sz:=by rw [Nat.add_mul,Nat.one_mul]
        _<=es.length*sz:=Nat.mul_le_mul_right sz hi
      have q1:(i*sz+j) / sz=i:=by rw [FN i sz,Nat.mul_add_div B,Nat.div_eq_of_lt Y,Nat.add_zero]
      have q2:(i*sz+j)%sz=j:=by rw [FN i sz,Nat.mul_add_mod,Nat.mod_eq_of_lt Y]
      refine⟨f i j,?_,hV i x j p h1 O⟩
      rw [FO,Ga G]
      simp only [Option.map_some,q1,q2]
    have a5:es.length<=maxLen:=by
     have h1:es.length*1<=es.length*bytes:=Nat.mul_le_mul_left _ a9
     unfold maxLen
     omega
    refine .inl ⟨C,(AnyE.slices_Clone L i0 z sz bytes hi J F K N B z23 b o es.length c ((EH (es.length*sz)).map λt=>f (t / sz) (t%sz)) w zb a5 hl (λj u Y=>?_) X.one).mono ?_⟩
    ·rw [FO,Option.map_eq_some_iff]at Y
     obtain⟨t,G,rfl⟩:=Y
     have a7:=(List.getElem?_eq_some_iff.1 G).1
     simp only [List.length_range]at a7
     rw [Ga a7]at G
     cases G
     have h1:j / sz<es.length:=by rwa [G9 B]
     have O:j%sz<es[j / sz].cells.length:=by rw [D _ (FB h1)];exact FC _ B
     have:=q.imm _ _ (hS (j / sz) _ (j%sz) _ (ze h1) (ze O))
     rw [Nat.add_assoc,Nat.div_add_mod']at this
     exact this
    ·rintro ee w' ⟨v',rfl,l, -,W⟩
     exact⟨_,rfl,yT hE q W E l X (one_of l)⟩
  ·cases h
 ·cases h
end
end Go.Dw
