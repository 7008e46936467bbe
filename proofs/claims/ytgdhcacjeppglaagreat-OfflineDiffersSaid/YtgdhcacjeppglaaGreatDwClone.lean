
import Derived.Test.YtgdhcacjeppglaaGreatDwSame
import Derived.Test.YtgdhcacjeppglaaGreatDwLift4
import Derived.Shelf.SlicesE.Clone
open Nat renaming div_lt_iff_lt_mul->C4, le_refl->AB, mod_lt->Ai, mul_comm->Az, zero_le->AL
open List renaming getElem?_map->As, getElem?_range->C5, getElem_mem->Ah, range->AI

namespace Go.Dw
open Go.Proofs Go.Shelf Go.RowKit Go.Lib
def fo(e:TypeId)(size bytes:Nat):cB:=fun _ args bs=>
 match args,bs with
 | [.d (.lst es)],[]=>if es.length*bytes<=140737488355328∧∀x∈es,x.cells.length=size then some (.ref 0 0,[.arr 0 e es])else none
 |_,_=>none
section
variable {P:Program}{ρ:Go.Shelf.Ren}
set_option maxHeartbeats 2000000 in
set_option maxRecDepth 100000 in
theorem j8(L:SlLaysE0.n41 P ρ)(i0:TypeInfo)(z:Value)(size bytes:Nat)(v:P.info? (ρ.t 23)=some i0)(m:i0.zero=some z)(o:i0.size=size)(p:i0.bytes=bytes)(q:z.cells.size=size)(hsz:0<size)
  (z23:∀w,(Go.sizeOf (ρ.t 23)).run P w= .ok size w) (a:Addr) (c:Nat) (w:World):
  Calls P (ρ.f 41) #[.slice (some a) 0 c] w fun e w'=>∃v',e= .returned v'∧w'.ownsRow w.heap.size (ρ.t 23) size v' 0 []∧v'≠ .slice none 0 0∧Below w.heap.size w w':=by
 have mixed:=L.mixed;have t4:=L.t4;have a4:=L.a4;have z4:=L.z4;have v4:=L.v4;have t22:=L.t22;have a22:=L.a22;have z22:=L.z22;have v22:=L.v22
 have y:∀(w:World)(a:Option Addr)(n c r l:Nat),(binOp .eql (ρ.t 22) (.slice a n c) (.slice none r l)).run P w= .ok (.bool a.isNone) w:=fun w a n c r l=>Lib.run_eql_slice_nil w _ _ a n c r l L.t22
 have B:∀w,Sem.run P (underlying (ρ.t 22)) w= .ok (TypeDesc.slice (ρ.t 23)) w:=run_underlying t22
 obtain⟨_,_,s⟩:=L.f41
 go_enter s,SlBodyN.n41_ntmps ρ
 go_wp2_with (at_builtin;refine wpList_append_own _ rfl _ _ (ρ.t 22) rfl w.heap.size (ρ.t 23) i0 z size bytes t22 v m o p q hsz _ _ _ rfl (World.ownsRow_made w #[] 0 (AB _) (AL _) sm) a 0 c [] rfl sm (by intro j u x;simp at x) (by intro u hu;cases hu) (by unfold maxLen;omega) om sm ?_)
 intro v' C i b g
 go_wp2
 go_ret
 refine⟨v',rfl,by simpa using i,?_,?_⟩
 ·exact g
 ·exact((Below.refl _ w).alloc (AB _) _).grown b sm (by intro k hk;simp [Value.ownBlock]at hk;omega)
theorem hF{E:Prop}(s:¬E){S:cp}{w w':World}(hm:Mem P S (look []) (look []) w)(hb:Below w.heap.size w w'){e:TypeId}{sz:Nat}(hsz:szT P e=some sz){es:List PD}{xs:List Value}{v:Value}
  (how:w'.ownsRow w.heap.size e sz v es.length xs) (hf:Flat S sz es xs) (ho:v.oneCell'=true):
  ∃S' p,kR P E S w [] 0 (.ref 0 0) [.arr 0 e es] v w' S' p:=by
 have hblk:∀b,cA v=some b->w.heap.size<=b:=by
  intro b hb
  rcases how.2 with⟨rfl, -⟩|⟨g,cap,cur,rfl,t, -⟩
  ·cases hb
  ·cases cap with
   |zero=>cases hb
   |succ c=>cases hb;exact t
 have m:∀ad u,S ad=some u->w'.cell? ad=some u:=fun ad u hu=>by
  have h1:=hm.imm _ _ hu
  have r:=ly h1
  simpa [World.cell?,hb.block _ r]using h1
 refine⟨S,[.arr 0 e sz v],rfl,AL _,Sub.refl S,⟨fun ii z l=>?_,fun ii L a=>?_,m,hm.fy,fun ii L b a f o=>?_,fun i j L y b a n _ _=>?_⟩,fun ad u h=>.inl h,(fun k L h=>by cases h),fun k L b a f=>.inr ?_,⟨hb.os,hb.tape,hb.output,hb.size,fun b h _=>hb.block b h,fun he=>(s he).elim⟩,?_⟩
 ·match ii,l with
  |0,l=>
   cases l
   exact⟨_,rfl,.arr 0 e es sz v xs hsz (.inl (dJ.of how)) hf⟩
 ·match ii,a with
  |0,a=>exact⟨_,rfl⟩
 ·match ii,a with
  |0,a=>
   cases a
   have h1:=hblk b f
   cases hS:S ⟨b,o,none⟩with
   |none=>rfl
   |some u=>
    have:=ly (hm.imm _ _ hS)
    simp at this
    omega
 ·match i,j,a,n with
  |0,0,_,_=>rfl
 ·match k,a with
  |0,a=>cases a;exact hblk b f
 ·exact .ref 0 0 v _ ho rfl fun q B x hdr he=>by cases he;exact⟨AB _,fun _=>rfl⟩
theorem ek(L:SlLaysE0.n41 P ρ){i0:TypeInfo}{z:Value}{size bytes:Nat}{f:FuncId}{e:TypeId}{base:iZ}(X:¬base.mono)(hf:ρ.f 41=f)(he:ρ.t 23=e)(q:Enters P f)
  (J:P.info? e=some i0) (F:i0.zero=some z) (C:i0.size=size) (G:i0.bytes=bytes) (H:z.cells.size=size) (hsz:0<size) (a2:0<bytes)
  (z23:∀w,(Go.sizeOf e).run P w= .ok size w)
  (args:List RV) (bs:List Box) (r:RV) (K:List Box) (h:fo e size bytes f args bs=some (r,K)):fJ P base f args bs r K:=by
 subst hf he
 have B:szT P (ρ.t 23)=some size:=by unfold szT;rw [J];simp [C]
 unfold fo at h
 split at h
 ·rename_i es
  split at h
  ·rename_i hl
   simp only [Option.some.injEq,Prod.mk.injEq]at h
   obtain⟨rfl,rfl⟩:=h
   obtain⟨hl,s⟩:=hl
   intro S w ls vs m D a1 a5 E N
   obtain⟨v0,rfl⟩:∃v0,vs= #[v0]:=by
    obtain⟨k⟩:=vs
    match k,E with
    | [v0],_=>exact⟨v0,rfl⟩
   have a0:=N 0 _ v0 rfl rfl
   obtain rfl:ls=[]:=List.eq_nil_of_length_eq_zero D
   cases a0 with
   |d a0=>
   have one_of:∀{w':World}{v:Value}{n:Nat}{xs:List Value},w'.ownsRow w.heap.size (ρ.t 23) size v n xs->v.oneCell'=true:=by
    intro w' v n xs ho
    rcases ho.2 with⟨rfl, -⟩|⟨g,cap,cur,rfl, -⟩<;>rfl
   cases a0 with
   |nil a c=>cases a with
    |none=>
     refine .inl ⟨q,(AnyE.slices_Clone_nil L 0 c w).mono ?_⟩
     rintro Y w' ⟨rfl,rfl⟩
     exact⟨_,rfl,hF X m (Below.refl _ _) B (xs:=[]) ⟨sm,.inl ⟨rfl,rfl⟩⟩ (Flat.nil S size) rfl⟩
    |some a=>
     refine .inl ⟨q,(j8 L i0 z size bytes J F C G H hsz z23 a c w).mono ?_⟩
     rintro Y w' ⟨v',rfl,l, -,hb⟩
     exact⟨_,rfl,hF X m hb B l (Flat.nil S size) (one_of l)⟩
   |lst _ b o c sz f a4 U hS hV=>
    cases es with
    |nil=>
     refine .inl ⟨q,(j8 L i0 z size bytes J F C G H hsz z23 _ c w).mono ?_⟩
     rintro Y w' ⟨v',rfl,l, -,hb⟩
     exact⟨_,rfl,hF X m hb B l (Flat.nil S size) (one_of l)⟩
    |cons y ys=>
    generalize a3:y::ys=es at*
    have hy:y∈es:=by rw [<-a3];simp
    obtain rfl:sz=size:=by rw [<-U y hy,s y hy]
    have O:Flat S sz es ((AI (es.length*sz)).map fun t=>f (t / sz) (t%sz)):=by
     refine⟨s,fun u hu=>?_,fun i x j p h1 I=>?_⟩
     ·obtain⟨t,ht,rfl⟩:=List.mem_map.1 hu
      have ht:=List.mem_range.1 ht
      have h1:t / sz<es.length:=by rwa [C4 hsz]
      have I:t%sz<es[t / sz].cells.length:=by rw [s _ (Ah h1)];exact Ai _ hsz
      exact m.fy _ _ (hS (t / sz) _ (t%sz) _ (zc h1) (zc I))
     ·have J:i<es.length:=(List.getElem?_eq_some_iff.1 h1).1
      have Q:j<sz:=by rw [<-s x (List.mem_of_getElem? h1)];exact(List.getElem?_eq_some_iff.1 I).1
      have ht:i*sz+j<es.length*sz:=by
       calc i*sz+j<i*sz+sz:=by omega
        _=(i+1)*sz:=by rw [Nat.add_mul,Nat.one_mul]
        _<=es.length*sz:=Nat.mul_le_mul_right sz J
      have q1:(i*sz+j) / sz=i:=by rw [Az i sz,Nat.mul_add_div hsz,Nat.div_eq_of_lt Q,Nat.add_zero]
      have q2:(i*sz+j)%sz=j:=by rw [Az i sz,Nat.mul_add_mod,Nat.mod_eq_of_lt Q]
      refine⟨f i j,?_,hV i x j p h1 I⟩
      rw [As,C5 ht]
      simp only [Option.map_some,q1,q2]
    have T:es.length<=maxLen:=by
     have h1:es.length*1<=es.length*bytes:=Nat.mul_le_mul_left _ a2
     unfold maxLen
     omega
    refine .inl ⟨q,(AnyE.slices_Clone L i0 z sz bytes J F C G H hsz z23 b o es.length c ((AI (es.length*sz)).map fun t=>f (t / sz) (t%sz)) w sm T hl (fun j u Q=>?_) O.one).mono ?_⟩
    ·rw [As,Option.map_eq_some_iff]at Q
     obtain⟨t,ht,rfl⟩:=Q
     have W:=(List.getElem?_eq_some_iff.1 ht).1
     simp only [List.length_range]at W
     rw [C5 W]at ht
     cases ht
     have h1:j / sz<es.length:=by rwa [C4 hsz]
     have I:j%sz<es[j / sz].cells.length:=by rw [s _ (Ah h1)];exact Ai _ hsz
     have:=m.imm _ _ (hS (j / sz) _ (j%sz) _ (zc h1) (zc I))
     rw [Nat.add_assoc,Nat.div_add_mod']at this
     exact this
    ·rintro Y w' ⟨v',rfl,l, -,hb⟩
     exact⟨_,rfl,hF X m hb B l O (one_of l)⟩
  ·cases h
 ·cases h
end
end Go.Dw
