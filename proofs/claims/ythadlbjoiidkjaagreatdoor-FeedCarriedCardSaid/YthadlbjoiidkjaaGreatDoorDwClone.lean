
import Derived.Test.YthadlbjoiidkjaaGreatDoorDwJoin
import Derived.Test.YthadlbjoiidkjaaGreatDoorDwLift4
import Derived.Shelf.SlicesE.Clone

namespace Go.Dw
open Go.Proofs Go.Shelf Go.RowKit Go.Lib
def u3(e:TypeId)(size bytes:Nat):pT:=fun _ args bs=>
 match args,bs with
 | [.d (.lst es)],[]=>if es.length*bytes<=140737488355328∧∀x∈es,x.cells.length=size then some (.ref 0 0,[.arr 0 e es])else none
 |_,_=>none
theorem wq{P:Program}{H:Hints}{ext:FuncId->Option pT}{f:FuncId}{e:TypeId}{size bytes:Nat}(hx:ext f=some (u3 e size bytes)){α:Type}{g:α->PD}(hg:∀x,(g x).cells.length=size){l r:List α}(h:rb bytes l=some r):
  EvP P H ext f [.d (.lst (l.map g))] [] (.ref 0 0,[.arr 0 e (r.map g)]):=by
 refine Ev.lib hx ?_
 unfold rb at h
 split at h
 ·rename_i hl
  cases h
  have h2:∀x∈l.map g,x.cells.length=size:=fun x hx=>by obtain⟨y, -,rfl⟩:=List.mem_map.1 hx;exact hg y
  simp only [u3,List.length_map]
  rw [if_pos ⟨hl,h2⟩]
 ·cases h
section
variable {P:Program}{ρ:Go.Shelf.Ren}
set_option maxHeartbeats 2000000 in
set_option maxRecDepth 100000 in
theorem yc(L:SlLaysE0.n41 P ρ)(i0:TypeInfo)(z:Value)(size bytes:Nat)(hi:P.info? (ρ.t 23)=some i0)(hz0:i0.zero=some z)(hz1:i0.size=size)(hz2:i0.bytes=bytes)(hzs:z.cells.size=size)(hsz:0<size)
  (z23:∀w,(Go.sizeOf (ρ.t 23)).run P w= .ok size w) (a:Addr) (c:Nat) (w:World):
  Calls P (ρ.f 41) #[.slice (some a) 0 c] w fun e w'=>∃v',e= .returned v'∧w'.ownsRow w.heap.size (ρ.t 23) size v' 0 []∧v'≠ .slice none 0 0∧Below w.heap.size w w':=by
 have mixed:=L.mixed;have t4:=L.t4;have a4:=L.a4;have z4:=L.z4;have v4:=L.v4;have t22:=L.t22;have a22:=L.a22;have z22:=L.z22;have v22:=L.v22
 have q22:∀(w:World)(a:Option Addr)(n c n' c':Nat),(binOp .eql (ρ.t 22) (.slice a n c) (.slice none n' c')).run P w= .ok (.bool a.isNone) w:=fun w a n c n' c'=>Lib.run_eql_slice_nil w _ _ a n c n' c' L.t22
 have u22:∀w,Sem.run P (underlying (ρ.t 22)) w= .ok (TypeDesc.slice (ρ.t 23)) w:=run_underlying t22
 obtain⟨_,_,FG⟩:=L.f41
 go_enter FG,SlBodyN.n41_ntmps ρ
 go_wp2_with (at_builtin;refine wpList_append_own _ rfl _ _ (ρ.t 22) rfl w.heap.size (ρ.t 23) i0 z size bytes t22 hi hz0 hz1 hz2 hzs hsz _ _ _ rfl (World.ownsRow_made w #[] 0 (Nat.le_refl _) (Nat.zero_le _) sm) a 0 c [] rfl sm (by intro j u hj;simp at hj) (by intro u hu;cases hu) (by unfold maxLen;omega) za sm ?_)
 intro v' w1 hown hgrow hnil
 go_wp2
 go_ret
 refine⟨v',rfl,by simpa using hown,?_,?_⟩
 ·exact hnil
 ·exact((Below.refl _ w).alloc (Nat.le_refl _) _).grown hgrow sm (by intro k hk;simp [Value.ownBlock]at hk;omega)
theorem vB{E:Prop}(hE:¬E){S:pR}{w w':World}(hm:Mem P S (look []) (look []) w)(hb:Below w.heap.size w w'){e:TypeId}{sz:Nat}(hsz:szT P e=some sz){es:List PD}{xs:List Value}{v:Value}
  (how:w'.ownsRow w.heap.size e sz v es.length xs) (hf:Flat S sz es xs) (ho:v.oneCell'=true):
  ∃S' ls',xl P E S w [] 0 (.ref 0 0) [.arr 0 e es] v w' S' ls':=by
 have hblk:∀b,rk v=some b->w.heap.size<=b:=by
  intro b hb
  rcases how.2 with⟨rfl, -⟩|⟨g,cap,cur,rfl,hg, -⟩
  ·cases hb
  ·cases cap with
   |zero=>cases hb
   |succ c=>cases hb;exact hg
 have himm:∀ad u,S ad=some u->w'.cell? ad=some u:=fun ad u hu=>by
  have h1:=hm.imm _ _ hu
  have h2:=sa h1
  simpa [World.cell?,hb.block _ h2]using h1
 refine⟨S,[.arr 0 e sz v],rfl,Nat.zero_le _,Sub.refl S,⟨fun ii bx hbx=>?_,fun ii L hL=>?_,himm,hm.tJ,fun ii L b hL hbl o=>?_,fun i j L L' b hL hL' _ _=>?_⟩,fun ad u h=>.inl h,(fun k L h=>by cases h),fun k L b hL hbl=>.inr ?_,⟨hb.os,hb.tape,hb.output,hb.size,fun b h _=>hb.block b h,fun he=>(hE he).elim⟩,?_⟩
 ·match ii,hbx with
  |0,hbx=>
   cases hbx
   exact⟨_,rfl,.arr 0 e es sz v xs hsz (.inl (rA.of how)) hf⟩
 ·match ii,hL with
  |0,hL=>exact⟨_,rfl⟩
 ·match ii,hL with
  |0,hL=>
   cases hL
   have h1:=hblk b hbl
   cases hS:S ⟨b,o,none⟩with
   |none=>rfl
   |some u=>
    have:=sa (hm.imm _ _ hS)
    simp at this
    omega
 ·match i,j,hL,hL' with
  |0,0,_,_=>rfl
 ·match k,hL with
  |0,hL=>cases hL;exact hblk b hbl
 ·exact .ref 0 0 v _ ho rfl fun ver' e' sz' hdr he=>by cases he;exact⟨Nat.le_refl _,fun _=>rfl⟩
theorem wu(L:SlLaysE0.n41 P ρ){i0:TypeInfo}{z:Value}{size bytes:Nat}{f:FuncId}{e:TypeId}{base:uT}(hE:¬base.mono)(hf:ρ.f 41=f)(he:ρ.t 23=e)(hent:Enters P f)
  (hi:P.info? e=some i0) (hz0:i0.zero=some z) (hz1:i0.size=size) (hz2:i0.bytes=bytes) (hzs:z.cells.size=size) (hsz:0<size) (hby:0<bytes)
  (z23:∀w,(Go.sizeOf e).run P w= .ok size w)
  (args:List RV) (bs:List Box) (r:RV) (bs':List Box) (h:u3 e size bytes f args bs=some (r,bs')):rG P base f args bs r bs':=by
 subst hf he
 have hs':szT P (ρ.t 23)=some size:=by unfold szT;rw [hi];simp [hz1]
 unfold u3 at h
 split at h
 ·rename_i es
  split at h
  ·rename_i hl
   simp only [Option.some.injEq,Prod.mk.injEq]at h
   obtain⟨rfl,rfl⟩:=h
   obtain⟨hl,hce⟩:=hl
   intro S w ls vs hmem hlen0 hbase hobj hlenv harg
   obtain⟨v0,rfl⟩:∃v0,vs= #[v0]:=by
    obtain⟨k⟩:=vs
    match k,hlenv with
    | [v0],_=>exact⟨v0,rfl⟩
   have a0:=harg 0 _ v0 rfl rfl
   obtain rfl:ls=[]:=List.eq_nil_of_length_eq_zero hlen0
   cases a0 with
   |d a0=>
   have one_of:∀{w':World}{v:Value}{n:Nat}{xs:List Value},w'.ownsRow w.heap.size (ρ.t 23) size v n xs->v.oneCell'=true:=by
    intro w' v n xs ho
    rcases ho.2 with⟨rfl, -⟩|⟨g,cap,cur,rfl, -⟩<;>rfl
   cases a0 with
   |nil a c=>cases a with
    |none=>
     refine .inl ⟨hent,(AnyE.slices_Clone_nil L 0 c w).mono ?_⟩
     rintro ee w' ⟨rfl,rfl⟩
     exact⟨_,rfl,vB hE hmem (Below.refl _ _) hs' (xs:=[]) ⟨sm,.inl ⟨rfl,rfl⟩⟩ (Flat.nil S size) rfl⟩
    |some a=>
     refine .inl ⟨hent,(yc L i0 z size bytes hi hz0 hz1 hz2 hzs hsz z23 a c w).mono ?_⟩
     rintro ee w' ⟨v',rfl,hown, -,hb⟩
     exact⟨_,rfl,vB hE hmem hb hs' hown (Flat.nil S size) (one_of hown)⟩
   |lst _ b o c sz f hcap hsz' hS hV=>
    cases es with
    |nil=>
     refine .inl ⟨hent,(yc L i0 z size bytes hi hz0 hz1 hz2 hzs hsz z23 _ c w).mono ?_⟩
     rintro ee w' ⟨v',rfl,hown, -,hb⟩
     exact⟨_,rfl,vB hE hmem hb hs' hown (Flat.nil S size) (one_of hown)⟩
    |cons y ys=>
    generalize hes:y::ys=es at*
    have hy:y∈es:=by rw [<-hes];simp
    obtain rfl:sz=size:=by rw [<-hsz' y hy,hce y hy]
    have hfl:Flat S sz es ((List.range (es.length*sz)).map fun t=>f (t / sz) (t%sz)):=by
     refine⟨hce,fun u hu=>?_,fun i x j p h1 h2=>?_⟩
     ·obtain⟨t,ht,rfl⟩:=List.mem_map.1 hu
      have ht:=List.mem_range.1 ht
      have h1:t / sz<es.length:=by rwa [Nat.div_lt_iff_lt_mul hsz]
      have h2:t%sz<es[t / sz].cells.length:=by rw [hce _ (List.getElem_mem h1)];exact Nat.mod_lt _ hsz
      exact hmem.tJ _ _ (hS (t / sz) _ (t%sz) _ (zd h1) (zd h2))
     ·have hi:i<es.length:=(List.getElem?_eq_some_iff.1 h1).1
      have hj:j<sz:=by rw [<-hce x (List.mem_of_getElem? h1)];exact(List.getElem?_eq_some_iff.1 h2).1
      have ht:i*sz+j<es.length*sz:=by
       calc i*sz+j<i*sz+sz:=by omega
        _=(i+1)*sz:=by rw [Nat.add_mul,Nat.one_mul]
        _<=es.length*sz:=Nat.mul_le_mul_right sz hi
      have q1:(i*sz+j) / sz=i:=by rw [Nat.mul_comm i sz,Nat.mul_add_div hsz,Nat.div_eq_of_lt hj,Nat.add_zero]
      have q2:(i*sz+j)%sz=j:=by rw [Nat.mul_comm i sz,Nat.mul_add_mod,Nat.mod_eq_of_lt hj]
      refine⟨f i j,?_,hV i x j p h1 h2⟩
      rw [List.getElem?_map,List.getElem?_range ht]
      simp only [Option.map_some,q1,q2]
    have hmax:es.length<=maxLen:=by
     have h1:es.length*1<=es.length*bytes:=Nat.mul_le_mul_left _ hby
     unfold maxLen
     omega
    refine .inl ⟨hent,(AnyE.slices_Clone L i0 z sz bytes hi hz0 hz1 hz2 hzs hsz z23 b o es.length c ((List.range (es.length*sz)).map fun t=>f (t / sz) (t%sz)) w sm hmax hl (fun j u hj=>?_) hfl.one).mono ?_⟩
    ·rw [List.getElem?_map,Option.map_eq_some_iff]at hj
     obtain⟨t,ht,rfl⟩:=hj
     have ht1:=(List.getElem?_eq_some_iff.1 ht).1
     simp only [List.length_range]at ht1
     rw [List.getElem?_range ht1]at ht
     cases ht
     have h1:j / sz<es.length:=by rwa [Nat.div_lt_iff_lt_mul hsz]
     have h2:j%sz<es[j / sz].cells.length:=by rw [hce _ (List.getElem_mem h1)];exact Nat.mod_lt _ hsz
     have:=hmem.imm _ _ (hS (j / sz) _ (j%sz) _ (zd h1) (zd h2))
     rw [Nat.add_assoc,Nat.div_add_mod']at this
     exact this
    ·rintro ee w' ⟨v',rfl,hown, -,hb⟩
     exact⟨_,rfl,vB hE hmem hb hs' hown hfl (one_of hown)⟩
  ·cases h
 ·cases h
end
end Go.Dw
