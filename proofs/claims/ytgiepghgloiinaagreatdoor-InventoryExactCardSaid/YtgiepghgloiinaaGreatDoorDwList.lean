
import Derived.Test.YtgiepghgloiinaaGreatDoorDwBuild
open List renaming getD->Ag, getElem_mem->Ah, replicate->AA
open Nat renaming add_mul->A6, le_refl->AB, mod_lt->Ai, zero_add->AK
open Option.some renaming injEq->AD
open Bool renaming and_eq_true->Ac, false_eq_true->Aj
open Array renaming getElem?_eq_getElem->Ak, getElem?_map->Al, getElem?_range->Am, getElem_of_mem->An, range->Ao
open Go.Sem renaming run_bind->Ap, run_ite->Aq, run_pure->Ar
open Go.Result renaming andThen_ok->Af

namespace Go.Dw
theorem lq{α:Type}(l:List α):∀(n m:Nat),m<n*l.length->(AA n l).flatten[m]? =l[m%l.length]?
 |0,m,h=>by simp at h
 |n+1,m,h=>by
  rw [List.replicate_succ,List.flatten_cons]
  by_cases hm:m<l.length
  ·rw [List.getElem?_append_left hm,Nat.mod_eq_of_lt hm]
  ·rw [List.getElem?_append_right om,lq l n (m-l.length) (by rw [A6]at h;omega)]
   congr 1
   rw [<-Nat.mod_eq_sub_mod om]
theorem ke{α:Type}(l:List α)(n:Nat):(AA n l).flatten.length=n*l.length:=by
 simp
section
variable {P:Program}{X:Ctx}{S:kd}{loc:kH}{s:St}{tm:Array Value}{w:World}
theorem mb(e:TypeId)(k:Nat):∀(n:Nat)(a:List PD),(lD P e k n a).length=n
 |0,_=>rfl
 |n+1,a=>by simp [lD,mb e k n]
theorem ot(e:TypeId)(k:Nat)(hk:kC P e=true∨k=1):∀(n:Nat)(b:List PD),b.length=n*k->(∀p∈b,p.one=true)->∀(i:Nat)x,(lD P e k n b)[i]? =some x->
  x.cells.length=k∧∀j c,x.cells[j]? =some c->b[i*k+j]? =some c
 |0,_,_,_,i,x,f=>by simp [lD]at f
 |n+1,b,hl,h1,i,x,f=>by
  rw [A6,Nat.one_mul]at hl
  cases i with
  |zero=>
   simp only [lD,List.getElem?_cons_zero,AD]at f
   subst f
   by_cases g:kC P e=true
   ·simp only [g,if_true,PD.cells]
    refine⟨so,fun j c a=>?_⟩
    rw [List.getElem?_take]at a
    split at a
    ·simpa using a
    ·cases a
   ·have l:k=1:=hk.resolve_left g
    subst l
    simp only [g]
    obtain⟨p,r,rfl⟩:∃p r,b=p::r:=by
     cases b with
     |nil=>simp at hl
     |cons p r=>exact⟨p,r,rfl⟩
    have m:=h1 p sm
    have hc:p.cells=[p]:=by cases p<;>first|rfl|(simp [PD.one]at m)
    simp only [List.headD_cons,Aj,if_false,hc]
    refine⟨rfl,fun j c a=>?_⟩
    cases j with
    |zero=>simpa using a
    |succ j=>simp at a
  |succ i=>
   simp only [lD,List.getElem?_cons_succ]at f
   obtain⟨o,q⟩:=ot e k hk n (b.drop k) so (fun p m=>h1 p (List.mem_of_mem_drop m)) i x f
   refine⟨o,fun j c a=>?_⟩
   have:=q j c a
   rw [List.getElem?_drop]at this
   rw [<-this]
   congr 1
   rw [A6]
   omega
theorem mR(h:Sim P X S loc s tm w)(t:TypeId)(vs:Array Value)(h1:∀u∈vs,u.oneCell'=true):
  Sim P X (k7 S w.heap.size vs.toList) loc s tm (w.alloc (.cells vs t))∧Sub S (k7 S w.heap.size vs.toList)∧(∀o,S ⟨w.heap.size,o,none⟩=none):=by
 have hS:∀o,S ⟨w.heap.size,o,none⟩=none:=by
  intro o
  cases hS:S ⟨w.heap.size,o,none⟩with
  |none=>rfl
  |some v=>
   have:=World.block_lt_of_cell? w _ (h.imm _ v hS)
   simp at this
 refine⟨?_,lx _ _ _,hS⟩
 refine(h.stepW (Step.alloc w _)).nO w.heap.size vs.toList ?_ (fun v e=>h1 v (by simpa using e)) ?_ ?_
 ·intro j v c
  rw [cell_of_row _ _ _ vs t (0,0) (heap_alloc_new w _)]
  simpa using c
 ·intro id L b hb
  obtain⟨f,a⟩:=h.dom id L b
  have:=(h.lE a b).mY hb
  omega
 ·exact .inl h.frame.size
theorem Sim.pb(h:Sim P X S loc s tm w){id:Nat}(hb:s.boxes id=none){w':World}(k:Step none w w'){e:TypeId}{sz:Nat}(hsz:szT P e=some sz){hdr:Value}{es:List PD}{xs:List Value}
  (how:rowAt w' e sz hdr es.length xs) (hf:Flat S sz es xs) (c:∀g,ku hdr=some g->w.heap.size<=g) (ho:hdr.oneCell'=true):
  ∃loc',Sim P X S loc' { s with boxes:=upd s.boxes id (.arr 0 e es) } tm w'∧R S loc' (.ref id 0) hdr∧kb loc loc':=by
 have a:=h.ky hb
 have f:j3 (loc id) (.arr 0 e sz hdr):=by rw [a];trivial
 refine⟨upd loc id (.arr 0 e sz hdr),?_,?_,kb.upd f⟩
 ·exact h.kl k id _ _ (fun b hc=>by cases hc) (.arr 0 e es sz hdr xs hsz how hf) (fun b hb=>.inr (.inl (c b hb))) f
 ·exact .ref id 0 _ _ ho (jQ _ _ _) (fun j m l i he=>by cases he;exact⟨AB _,fun _=>rfl⟩)
theorem sw(h:Sim P X S loc s tm w){t e:TypeId}{len:Nat}{l:List (Nat×RV)}{pvs:Array (Nat×Value)}{z:Value}{cs:List RV}(he:k9 P t=some e)(hk:szT P e=some (0+1))(I:kZ P e=some z)
  (F:len*(0+1)<=2 ^ 24) (g:z.cells.size=0+1) (hf:oc (fun i=>some (i*(0+1),0+1)) (AA len (kD z).cells).flatten l=some cs) (y:lU l=true) (H:tT S loc l pvs.toList) (k:uu cs=true):
  ∃v' w' S' loc',(Instr.buildSlice t len pvs).run P w= .ok v' w'∧Sim P X S' loc' (s.ups []) tm w'∧R S' loc' (.plit cs) v':=by
 obtain⟨L,z2⟩:=l9 S loc z
 have b:(kD z).cells.length=0+1:=by rw [<-L];exact g
 have B:((Ao (len*(0+1))).map (z.cells[· %z.cells.size]!)).size=(AA len (kD z).cells).flatten.length:=by
  rw [ke,b];simp
 have v:∀(i:Nat)c x,(AA len (kD z).cells).flatten[i]? =some c->((Ao (len*(0+1))).map (z.cells[· %z.cells.size]!))[i]? =some x->R S loc c x:=by
  intro i c x hi p
  have a:i<len*(0+1):=by
   have:=(List.getElem?_eq_some_iff.1 hi).1
   rw [ke,b]at this
   exact this
  rw [lq _ _ _ (by rw [b];exact a),b]at hi
  rw [Al,Am,if_pos a]at p
  simp only [Option.map_some,AD,g]at p
  have hm:i%(0+1)<z.cells.size:=by rw [g];exact Ai _ om
  have G:z.cells[i%(0+1)]? =some x:=by
   rw [Ak hm, <-p]
   simp [hm]
  exact z2 _ c x hi G
 obtain⟨vs,g1,g2,g3,g4,_⟩:=mN l pvs.toList _ cs _ hf y H B v
 rw [ke,b]at g3
 simp only [uu,Ac,Bool.not_eq_true',List.all_eq_true]at k
 have m:∀x∈vs,x.oneCell'=true:=by
  intro x p
  obtain⟨i,hi,r⟩:=An p
  have a:i<cs.length:=by omega
  have D:=g4 i cs[i] x (zc a) (by rw [Ak hi,r])
  have hc:=k.2 cs[i] (Ah a)
  generalize cs[i]=c at D hc
  cases c<;>first|(cases hc;done)|skip
  cases D with|ptr _ _ _ _ ho _ _=>exact ho
 have C:0<cs.length:=by cases cs with|nil=>simp at k|cons=>simp
 have o:(Instr.buildSlice t len pvs).run P w= .ok (.slice (some ⟨w.heap.size,0,none⟩) len len) (w.alloc (.cells vs e)):=by
  obtain⟨i,hi,u⟩:=k8 I
  have E:¬len*(0+1)=0:=by omega
  have q:¬(2 ^ 24<len*(0+1)):=by omega
  simp only [Instr.buildSlice,run_underlying (kV he),kg hk,Ap,Af,Aq,gt_iff_lt,q,if_false,E,zeroValue,typeInfo,run_program,hi,Ar,u,g1,newRow,run_newObj,World.alloc_eq]
 obtain⟨n1,J,K⟩:=mR h e vs m
 refine⟨_,_,_,loc,o,n1,?_⟩
 have f:∀(j:Nat)x,cs[j]? =some x->vs.toList[j]? =some (vs.toList.getD j default):=fun j x n=>by
  have a:=(List.getElem?_eq_some_iff.1 n).1
  have:j<vs.toList.length:=by simp;omega
  simp [Ag,zc this]
 have:=R.plit (S:=k7 S w.heap.size vs.toList) (loc:=loc) cs w.heap.size 0 len (fun j=>vs.toList.getD j default) om
  (fun j x n=>by rw [AK,mL K (f j x n)])
  (fun j x n=>(g4 j x _ n (by rw [<-Array.getElem?_toList];exact f j x n)).mono J (kb.refl loc))
 rw [g3,AK,Nat.mul_one]at this
 exact this
theorem qe(h:Sim P X S loc s tm w){mt:Bool}{id:Nat}{t:TypeId}{len:Nat}{l:List (Nat×RV)}{pvs:Array (Nat×Value)}{v:RV}{u:Ups}{r:List Nat}
  (hl:lO P mt id t len l s.boxes=some ((v,u),r,true)) (hp:tT S loc l pvs.toList):
  ∃v' w' S' loc',(Instr.buildSlice t len pvs).run P w= .ok v' w'∧Sim P X S' loc' (s.ups u) tm w'∧R S' loc' v v':=by
 unfold lO at hl
 rcases he:k9 P t with _|e
 ·simp only [he]at hl;exact fE s.boxes hl
 simp only [he]at hl
 rcases hk:szT P e with _|_|k
 ·simp only [hk]at hl;exact fE s.boxes hl
 ·simp only [hk]at hl;exact fE s.boxes hl
 rcases hz:kZ P e with _|z
 ·simp only [hk,hz]at hl;exact fE s.boxes hl
 simp only [hk,hz]at hl
 by_cases hc:len*(k+1)<=2 ^ 24∧z.cells.size=k+1∧(kC P e=true∨k=0)
 rotate_left
 ·rw [if_neg hc]at hl;exact fE s.boxes hl
 rw [if_pos hc]at hl
 obtain⟨b4,G,b5⟩:=hc
 rcases hf:oc (fun i=>some (i*(k+1),k+1)) (AA len (kD z).cells).flatten l with _|cs
 ·simp only [hf]at hl;exact fE s.boxes hl
 simp only [hf]at hl
 by_cases o:(mt&&uu cs)=true
 ·rw [if_pos o]at hl
  obtain⟨T, -,F⟩:=M.j0 (b:=s.boxes) hl
  cases T
  simp only [Bool.true_eq,Ac]at F
  obtain⟨F,h7⟩:=F
  obtain rfl:=of_decide_eq_true h7
  exact sw h he hk hz b4 G hf F hp (by simp only [Ac]at o;exact o.2)
 rw [if_neg o]at hl
 obtain⟨⟨B,u1⟩,r1,r2,h1,h2,_⟩:=M.bind_some hl
 have J:(lU l&&B.all PD.one)=true∧((s.boxes id=none∧v= .ref id 0∧u=u1++[(id,.arr 0 e (lD P e (k+1) len B))])∨(v= .d (.lst (lD P e (k+1) len B))∧u=u1)):=by
  cases a5:(mt&& !sd cs)with
  |true=>
   simp only [a5,if_true]at h2
   obtain⟨_,r3,r4,h3,h4,_⟩:=M.bind_some h2
   obtain⟨hb,_,_⟩:=M.kQ h3
   obtain⟨T, -,F⟩:=M.j0 h4
   cases T
   exact⟨F.symm,.inl ⟨hb,rfl,rfl⟩⟩
  |false=>
   simp only [a5,Aj,if_false]at h2
   obtain⟨T, -,F⟩:=M.j0 (b:=s.boxes) h2
   cases T
   exact⟨F.symm,.inr ⟨rfl,rfl⟩⟩
 obtain⟨W,b0⟩:=J
 simp only [Ac]at W
 obtain⟨c3,c4⟩:=W
 have H:∀p∈B,p.one=true:=fun p hp=>List.all_eq_true.1 c4 p hp
 obtain⟨z1,z2⟩:=l9 S loc z
 have E:(kD z).cells.length=k+1:=by rw [<-z1];exact G
 have c5:((Ao (len*(k+1))).map (z.cells[· %z.cells.size]!)).size=(AA len (kD z).cells).flatten.length:=by
  rw [ke,E];simp
 have c2:∀(i:Nat)c x,(AA len (kD z).cells).flatten[i]? =some c->((Ao (len*(k+1))).map (z.cells[· %z.cells.size]!))[i]? =some x->R S loc c x:=by
  intro i c x hi q
  have a:i<len*(k+1):=by
   have:=(List.getElem?_eq_some_iff.1 hi).1
   rw [ke,E]at this
   exact this
  rw [lq _ _ _ (by rw [E];exact a),E]at hi
  rw [Al,Am,if_pos a]at q
  simp only [Option.map_some,AD,G]at q
  have hm:i%(k+1)<z.cells.size:=by rw [G];exact Ai _ om
  have hg:z.cells[i%(k+1)]? =some x:=by
   rw [Ak hm, <-q]
   simp [hm]
  exact z2 _ c x hi hg
 obtain⟨vs,g1,g2,g3,g4,_⟩:=mN l pvs.toList _ cs _ hf c3 hp c5 c2
 rw [ke,E]at g3
 obtain⟨p1,p2,p3,p4⟩:=vV h1
 obtain⟨Q,b2,U,b1,hle,c0⟩:=h.oq u1 p1 (fun x q=>.inl (p2 x q))
 have a9:∀(i:Nat)p x,B[i]? =some p->vs[i]? =some x->V Q p x:=by
  intro i p x hi q
  have a:i<cs.length:=by rw [<-p3];exact(List.getElem?_eq_some_iff.1 hi).1
  exact p4 S loc Q b1 c0 i cs[i] p x (zc a) hi (g4 i _ x (zc a) q)
 have C:vs.size=B.length:=by rw [g2,p3]
 have D:∀x∈vs,x.oneCell'=true:=by
  intro x q
  obtain⟨i,hi,N⟩:=An q
  have a:i<B.length:=by rw [<-C];exact hi
  exact((a9 i B[i] x (zc a) (by rw [Ak hi,N])).mA (H _ (Ah a))).1
 have o:B.length=len*(k+1):=by rw [p3,g3]
 have Y:=ot (P:=P) e (k+1) (b5.imp (fun h=>h) (fun h=>om)) len B o H
 have m:Flat Q (k+1) (lD P e (k+1) len B) vs.toList:=by
  refine⟨fun x q=>?_,fun x q=>D x (by simpa using q),fun i x j c hi hj=>?_⟩
  ·obtain⟨i,hi,N⟩:=List.getElem_of_mem q
   exact(Y i x (by rw [zc hi,N])).1
  ·have:=(Y i x hi).2 j c hj
   have a:=(List.getElem?_eq_some_iff.1 this).1
   refine⟨vs[i*(k+1)+j],?_,a9 _ c _ this (Ak om)⟩
   simp [C,a]
 have I:(Instr.buildSlice t len pvs).run P w= .ok (.slice (some ⟨w.heap.size,0,none⟩) len len) (w.alloc (.cells vs e)):=by
  obtain⟨i,hi,c1⟩:=k8 hz
  have e0:∀f:Nat->Value,(Ao 0).map f= #[]:=fun f=>by apply Array.ext';simp
  by_cases h0:len*(k+1)=0
  ·have K:Instr.fill (fun i=>some (i*(k+1),k+1)) #[] pvs.toList=some vs:=by
    rw [h0,e0]at g1
    exact g1
   have L:¬(2 ^ 24<0):=by omega
   simp only [Instr.buildSlice,run_underlying (kV he),kg hk,Ap,Af,Aq,gt_iff_lt,h0,L,if_false,if_true,e0,Ar,K,newRow,run_newObj,World.alloc_eq]
  ·have L:¬(2 ^ 24<len*(k+1)):=by omega
   simp only [Instr.buildSlice,run_underlying (kV he),kg hk,Ap,Af,Aq,gt_iff_lt,L,if_false,h0,zeroValue,typeInfo,run_program,hi,Ar,c1,g1,newRow,run_newObj,World.alloc_eq]
 rcases b0 with⟨hb,rfl,rfl⟩|⟨rfl,rfl⟩
 ·by_cases a4:id∈u1.map (·.1)
  ·obtain⟨x,q,c6⟩:=List.mem_map.1 a4
   obtain⟨ver,e',c7,O⟩:=p2 x q
   rw [c6]at O
   rw [hb]at O
   cases O
  ·have b3:(s.ups u1).boxes id=none:=by rw [lL u1 s id a4];exact hb
   have n:=mb (P:=P) e (k+1) len B
   have how:(w.alloc (.cells vs e)).ownsRow 0 e (k+1) (.slice (some ⟨w.heap.size,0,none⟩) len len) (lD P e (k+1) len B).length vs.toList:=by
    rw [n]
    refine⟨by simp [C,o],.inr ⟨w.heap.size,len,vs,rfl,Nat.zero_le _,heap_alloc_new w _,AB _,?_,by rw [C,o],?_⟩⟩
    ·have:len*1<=len*(k+1):=Nat.mul_le_mul_left _ om
     simp only [maxLen];omega
    ·apply List.take_of_length_le;simp [C,o]
   obtain⟨loc',F,h7,_⟩:=U.pb b3 (Step.alloc w _) hk (hdr:= .slice (some ⟨w.heap.size,0,none⟩) len len) (.inl (.of how)) m (fun g hg=>by have:=nB hg;cases this;exact AB _) rfl
   exact⟨_,_,Q,loc',I,by rw [mU];exact F,h7⟩
 ·obtain⟨n1,n2,n3⟩:=mR U e vs D
  refine⟨_,_,_,b2,I,n1,.d ?_⟩
  have n:=mb (P:=P) e (k+1) len B
  have:=V.lst (S:=k7 Q w.heap.size vs.toList) (lD P e (k+1) len B) w.heap.size 0 len (k+1) (fun i j=>vs.toList.getD (i*(k+1)+j) default) (by rw [n];exact AB _) m.len
   (fun i x j c hi hj => by
    obtain⟨y,hy,_⟩:=m.cell i x j c hi hj
    rw [AK,mL n3 hy]
    simp [Ag,hy])
   (fun i x j c hi hj => by
    obtain⟨y,hy,hv⟩:=m.cell i x j c hi hj
    have:=hv.mono n2
    simpa [Ag,hy]using this)
  rw [n]at this
  exact this
end
end Go.Dw
