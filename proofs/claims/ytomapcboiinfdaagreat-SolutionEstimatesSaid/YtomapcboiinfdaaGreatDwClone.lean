
import Derived.Test.YtomapcboiinfdaaGreatDwSame
import Derived.Test.YtomapcboiinfdaaGreatDwLift4
import Derived.Shelf.SlicesE.Clone
open Nat renaming div_lt_iff_lt_mul->CG, le_refl->AB, mod_lt->Ab, mul_comm->An, zero_le->AL
open List renaming getElem?_map->Ap, getElem?_range->CH, getElem_mem->Aa, range->AI

namespace Go.Dw
open Go.Proofs Go.Shelf Go.RowKit Go.Lib
def pJ(e:TypeId)(size bytes:Nat):ng:=fun _ args bs=>
 match args,bs with
 | [.d (.lst es)],[]=>if es.length*bytes<=140737488355328∧∀x∈es,x.cells.length=size then some (.ref 0 0,[.arr 0 e es])else none
 |_,_=>none
theorem tJ{P:Program}{H:Hints}{ext:FuncId->Option ng}{f:FuncId}{e:TypeId}{size bytes:Nat}(a:ext f=some (pJ e size bytes)){α:Type}{g:α->PD}(c:∀x,(g x).cells.length=size){l r:List α}(h:oU bytes l=some r):
  EvP P H ext f [.d (.lst (l.map g))] [] (.ref 0 0,[.arr 0 e (r.map g)]):=by
 refine Ev.lib a ?_
 unfold oU at h
 split at h
 ·rename_i i
  cases h
  have b:∀x∈l.map g,x.cells.length=size:=fun x a=>by obtain⟨y, -,rfl⟩:=List.mem_map.1 a;exact c y
  simp only [pJ,List.length_map]
  rw [if_pos ⟨i,b⟩]
 ·cases h
section
variable {P:Program}{ρ:Go.Shelf.Ren}
set_option maxHeartbeats 2000000 in
set_option maxRecDepth 100000 in
theorem vr(L:SlLaysE0.n41 P ρ)(i0:TypeInfo)(z:Value)(size bytes:Nat)(hi:P.info? (ρ.t 23)=some i0)(o:i0.zero=some z)(p:i0.size=size)(q:i0.bytes=bytes)(r:z.cells.size=size)(m:0<size)
  (z23:∀w,(Go.sizeOf (ρ.t 23)).run P w= .ok size w) (a:Addr) (c:Nat) (w:World):
  Calls P (ρ.f 41) #[.slice (some a) 0 c] w fun e w'=>∃v',e= .returned v'∧w'.ownsRow w.heap.size (ρ.t 23) size v' 0 []∧v'≠ .slice none 0 0∧Below w.heap.size w w':=by
 have mixed:=L.mixed;have t4:=L.t4;have a4:=L.a4;have z4:=L.z4;have v4:=L.v4;have t22:=L.t22;have a22:=L.a22;have z22:=L.z22;have v22:=L.v22
 have y:∀(w:World)(a:Option Addr)(n c s l:Nat),(binOp .eql (ρ.t 22) (.slice a n c) (.slice none s l)).run P w= .ok (.bool a.isNone) w:=fun w a n c s l=>Lib.run_eql_slice_nil w _ _ a n c s l L.t22
 have B:∀w,Sem.run P (underlying (ρ.t 22)) w= .ok (TypeDesc.slice (ρ.t 23)) w:=run_underlying t22
 obtain⟨_,_,v⟩:=L.f41
 go_enter v,SlBodyN.n41_ntmps ρ
 go_wp2_with (at_builtin;refine wpList_append_own _ rfl _ _ (ρ.t 22) rfl w.heap.size (ρ.t 23) i0 z size bytes t22 hi o p q r m _ _ _ rfl (World.ownsRow_made w #[] 0 (AB _) (AL _) sm) a 0 c [] rfl sm (by intro j u x;simp at x) (by intro u hu;cases hu) (by unfold maxLen;omega) om sm ?_)
 intro v' C i b g
 go_wp2
 go_ret
 refine⟨v',rfl,by simpa using i,?_,?_⟩
 ·exact g
 ·exact((Below.refl _ w).alloc (AB _) _).grown b sm (by intro k hk;simp [Value.ownBlock]at hk;omega)
theorem sn{E:Prop}(x:¬E){S:mW}{w w':World}(hm:Mem P S (look []) (look []) w)(f:Below w.heap.size w w'){e:TypeId}{sz:Nat}(q:szT P e=some sz){es:List PD}{xs:List Value}{v:Value}
  (how:w'.ownsRow w.heap.size e sz v es.length xs) (hf:Flat S sz es xs) (z:v.oneCell'=true):
  ∃S' r,wx P E S w [] 0 (.ref 0 0) [.arr 0 e es] v w' S' r:=by
 have hblk:∀b,nT v=some b->w.heap.size<=b:=by
  intro b f
  rcases how.2 with⟨rfl, -⟩|⟨g,cap,cur,rfl,y, -⟩
  ·cases f
  ·cases cap with
   |zero=>cases f
   |succ c=>cases f;exact y
 have n:∀ad u,S ad=some u->w'.cell? ad=some u:=fun ad u hu=>by
  have h1:=hm.imm _ _ hu
  have t:=uU h1
  simpa [World.cell?,f.block _ t]using h1
 refine⟨S,[.arr 0 e sz v],rfl,AL _,Sub.refl S,⟨fun ii D m=>?_,fun ii L a=>?_,n,hm.qT,fun ii L b a l o=>?_,fun i j L C b a p _ _=>?_⟩,fun ad u h=>.inl h,(fun k L h=>by cases h),fun k L b a l=>.inr ?_,⟨f.os,f.tape,f.output,f.size,fun b h _=>f.block b h,fun he=>(x he).elim⟩,?_⟩
 ·match ii,m with
  |0,m=>
   cases m
   exact⟨_,rfl,.arr 0 e es sz v xs q (.inl (oE.of how)) hf⟩
 ·match ii,a with
  |0,a=>exact⟨_,rfl⟩
 ·match ii,a with
  |0,a=>
   cases a
   have h1:=hblk b l
   cases hS:S ⟨b,o,none⟩with
   |none=>rfl
   |some u=>
    have:=uU (hm.imm _ _ hS)
    simp at this
    omega
 ·match i,j,a,p with
  |0,0,_,_=>rfl
 ·match k,a with
  |0,a=>cases a;exact hblk b l
 ·exact .ref 0 0 v _ z rfl fun s F B hdr he=>by cases he;exact⟨AB _,fun _=>rfl⟩
theorem pC(L:SlLaysE0.n41 P ρ){i0:TypeInfo}{z:Value}{size bytes:Nat}{f:FuncId}{e:TypeId}{base:tE}(hE:¬base.mono)(hf:ρ.f 41=f)(he:ρ.t 23=e)(s:Enters P f)
  (hi:P.info? e=some i0) (H:i0.zero=some z) (D:i0.size=size) (I:i0.bytes=bytes) (J:z.cells.size=size) (q:0<size) (a7:0<bytes)
  (z23:∀w,(Go.sizeOf e).run P w= .ok size w)
  (args:List RV) (bs:List Box) (r:RV) (N:List Box) (h:pJ e size bytes f args bs=some (r,N)):pk P base f args bs r N:=by
 subst hf he
 have C:szT P (ρ.t 23)=some size:=by unfold szT;rw [hi];simp [D]
 unfold pJ at h
 split at h
 ·rename_i es
  split at h
  ·rename_i hl
   simp only [Option.some.injEq,Prod.mk.injEq]at h
   obtain⟨rfl,rfl⟩:=h
   obtain⟨hl,B⟩:=hl
   intro S w ls vs m F a6 b0 G O
   obtain⟨v0,rfl⟩:∃v0,vs= #[v0]:=by
    obtain⟨k⟩:=vs
    match k,G with
    | [v0],_=>exact⟨v0,rfl⟩
   have a0:=O 0 _ v0 rfl rfl
   obtain rfl:ls=[]:=List.eq_nil_of_length_eq_zero F
   cases a0 with
   |d a0=>
   have one_of:∀{w':World}{v:Value}{n:Nat}{xs:List Value},w'.ownsRow w.heap.size (ρ.t 23) size v n xs->v.oneCell'=true:=by
    intro w' v n xs ho
    rcases ho.2 with⟨rfl, -⟩|⟨g,cap,cur,rfl, -⟩<;>rfl
   cases a0 with
   |nil a c=>cases a with
    |none=>
     refine .inl ⟨s,(AnyE.slices_Clone_nil L 0 c w).mono ?_⟩
     rintro ee w' ⟨rfl,rfl⟩
     exact⟨_,rfl,sn hE m (Below.refl _ _) C (xs:=[]) ⟨sm,.inl ⟨rfl,rfl⟩⟩ (Flat.nil S size) rfl⟩
    |some a=>
     refine .inl ⟨s,(vr L i0 z size bytes hi H D I J q z23 a c w).mono ?_⟩
     rintro ee w' ⟨v',rfl,l, -,Q⟩
     exact⟨_,rfl,sn hE m Q C l (Flat.nil S size) (one_of l)⟩
   |lst _ b o c sz f a9 Y hS hV=>
    cases es with
    |nil=>
     refine .inl ⟨s,(vr L i0 z size bytes hi H D I J q z23 _ c w).mono ?_⟩
     rintro ee w' ⟨v',rfl,l, -,Q⟩
     exact⟨_,rfl,sn hE m Q C l (Flat.nil S size) (one_of l)⟩
    |cons y ys=>
    generalize a8:y::ys=es at*
    have hy:y∈es:=by rw [<-a8];simp
    obtain rfl:sz=size:=by rw [<-Y y hy,B y hy]
    have T:Flat S sz es ((AI (es.length*sz)).map fun t=>f (t / sz) (t%sz)):=by
     refine⟨B,fun u hu=>?_,fun i x j p h1 K=>?_⟩
     ·obtain⟨t,E,rfl⟩:=List.mem_map.1 hu
      have E:=List.mem_range.1 E
      have h1:t / sz<es.length:=by rwa [CG q]
      have K:t%sz<es[t / sz].cells.length:=by rw [B _ (Aa h1)];exact Ab _ q
      exact m.qT _ _ (hS (t / sz) _ (t%sz) _ (zc h1) (zc K))
     ·have hi:i<es.length:=(List.getElem?_eq_some_iff.1 h1).1
      have W:j<sz:=by rw [<-B x (List.mem_of_getElem? h1)];exact(List.getElem?_eq_some_iff.1 K).1
      have E:i*sz+j<es.length*sz:=by
       calc i*sz+j<i*sz+sz:=by omega
        _=(i+1)*sz:=by rw [Nat.add_mul,Nat.one_mul]
        _<=es.length*sz:=Nat.mul_le_mul_right sz hi
      have q1:(i*sz+j) / sz=i:=by rw [An i sz,Nat.mul_add_div q,Nat.div_eq_of_lt W,Nat.add_zero]
      have q2:(i*sz+j)%sz=j:=by rw [An i sz,Nat.mul_add_mod,Nat.mod_eq_of_lt W]
      refine⟨f i j,?_,hV i x j p h1 K⟩
      rw [Ap,CH E]
      simp only [Option.map_some,q1,q2]
    have X:es.length<=maxLen:=by
     have h1:es.length*1<=es.length*bytes:=Nat.mul_le_mul_left _ a7
     unfold maxLen
     omega
    refine .inl ⟨s,(AnyE.slices_Clone L i0 z sz bytes hi H D I J q z23 b o es.length c ((AI (es.length*sz)).map fun t=>f (t / sz) (t%sz)) w sm X hl (fun j u W=>?_) T.one).mono ?_⟩
    ·rw [Ap,Option.map_eq_some_iff]at W
     obtain⟨t,E,rfl⟩:=W
     have a5:=(List.getElem?_eq_some_iff.1 E).1
     simp only [List.length_range]at a5
     rw [CH a5]at E
     cases E
     have h1:j / sz<es.length:=by rwa [CG q]
     have K:j%sz<es[j / sz].cells.length:=by rw [B _ (Aa h1)];exact Ab _ q
     have:=m.imm _ _ (hS (j / sz) _ (j%sz) _ (zc h1) (zc K))
     rw [Nat.add_assoc,Nat.div_add_mod']at this
     exact this
    ·rintro ee w' ⟨v',rfl,l, -,Q⟩
     exact⟨_,rfl,sn hE m Q C l T (one_of l)⟩
  ·cases h
 ·cases h
end
end Go.Dw
