
import Derived.Test.YtomapcboiinfdaaGreatDwBuild
open List renaming getD->A9, getElem_mem->Aa, replicate->AA
open Nat renaming add_mul->A2, le_refl->AB, mod_lt->Ab, zero_add->AK
open Option.some renaming injEq->AD
open Bool renaming and_eq_true->A5, false_eq_true->Ac
open Array renaming getElem?_eq_getElem->Ad, getElem?_map->Ae, getElem?_range->Af, getElem_of_mem->Ag, range->Ah
open Go.Sem renaming run_bind->Ai, run_ite->Aj, run_pure->Ak
open Go.Result renaming andThen_ok->A8

namespace Go.Dw
theorem oh{α:Type}(l:List α):∀(n m:Nat),m<n*l.length->(AA n l).flatten[m]? =l[m%l.length]?
 |0,m,h=>by simp at h
 |n+1,m,h=>by
  rw [List.replicate_succ,List.flatten_cons]
  by_cases hm:m<l.length
  ·rw [List.getElem?_append_left hm,Nat.mod_eq_of_lt hm]
  ·rw [List.getElem?_append_right om,oh l n (m-l.length) (by rw [A2]at h;omega)]
   congr 1
   rw [<-Nat.mod_eq_sub_mod om]
theorem nj{α:Type}(l:List α)(n:Nat):(AA n l).flatten.length=n*l.length:=by
 simp
section
variable {P:Program}{X:Ctx}{S:mW}{loc:nB}{s:St}{tm:Array Value}{w:World}
theorem oF(e:TypeId)(k:Nat):∀(n:Nat)(a:List PD),(nZ P e k n a).length=n
 |0,_=>rfl
 |n+1,a=>by simp [nZ,oF e k n]
theorem rf(e:TypeId)(k:Nat)(hk:nv P e=true∨k=1):∀(n:Nat)(b:List PD),b.length=n*k->(∀p∈b,p.one=true)->∀(i:Nat)x,(nZ P e k n b)[i]? =some x->
  x.cells.length=k∧∀j c,x.cells[j]? =some c->b[i*k+j]? =some c
 |0,_,_,_,i,x,f=>by simp [nZ]at f
 |n+1,b,o,h1,i,x,f=>by
  rw [A2,Nat.one_mul]at o
  cases i with
  |zero=>
   simp only [nZ,List.getElem?_cons_zero,AD]at f
   subst f
   by_cases g:nv P e=true
   ·simp only [g,if_true,PD.cells]
    refine⟨so,fun j c a=>?_⟩
    rw [List.getElem?_take]at a
    split at a
    ·simpa using a
    ·cases a
   ·have l:k=1:=hk.resolve_left g
    subst l
    simp only [g]
    obtain⟨p,r,rfl⟩:∃p r,b=p::r:=by
     cases b with
     |nil=>simp at o
     |cons p r=>exact⟨p,r,rfl⟩
    have m:=h1 p sm
    have u:p.cells=[p]:=by cases p<;>first|rfl|(simp [PD.one]at m)
    simp only [List.headD_cons,Ac,if_false,u]
    refine⟨rfl,fun j c a=>?_⟩
    cases j with
    |zero=>simpa using a
    |succ j=>simp at a
  |succ i=>
   simp only [nZ,List.getElem?_cons_succ]at f
   obtain⟨q,t⟩:=rf e k hk n (b.drop k) so (fun p m=>h1 p (List.mem_of_mem_drop m)) i x f
   refine⟨q,fun j c a=>?_⟩
   have:=t j c a
   rw [List.getElem?_drop]at this
   rw [<-this]
   congr 1
   rw [A2]
   omega
theorem qM(h:Sim P X S loc s tm w)(t:TypeId)(vs:Array Value)(h1:∀u∈vs,u.oneCell'=true):
  Sim P X (n5 S w.heap.size vs.toList) loc s tm (w.alloc (.cells vs t))∧Sub S (n5 S w.heap.size vs.toList)∧(∀o,S ⟨w.heap.size,o,none⟩=none):=by
 have hS:∀o,S ⟨w.heap.size,o,none⟩=none:=by
  intro o
  cases hS:S ⟨w.heap.size,o,none⟩with
  |none=>rfl
  |some v=>
   have:=World.block_lt_of_cell? w _ (h.imm _ v hS)
   simp at this
 refine⟨?_,oK _ _ _,hS⟩
 refine(h.stepW (Step.alloc w _)).rj w.heap.size vs.toList ?_ (fun v f=>h1 v (by simpa using f)) ?_ ?_
 ·intro j v e
  rw [cell_of_row _ _ _ vs t (0,0) (heap_alloc_new w _)]
  simpa using e
 ·intro id L b c
  obtain⟨g,a⟩:=h.dom id L b
  have:=(h.ot a b).pz c
  omega
 ·exact .inl h.frame.size
theorem Sim.sb(h:Sim P X S loc s tm w){id:Nat}(i:s.boxes id=none){w':World}(o:Step none w w'){e:TypeId}{sz:Nat}(j:szT P e=some sz){hdr:Value}{es:List PD}{xs:List Value}
  (how:rowAt w' e sz hdr es.length xs) (hf:Flat S sz es xs) (c:∀g,nT hdr=some g->w.heap.size<=g) (n:hdr.oneCell'=true):
  ∃loc',Sim P X S loc' { s with boxes:=upd s.boxes id (.arr 0 e es) } tm w'∧R S loc' (.ref id 0) hdr∧mZ loc loc':=by
 have a:=h.nu i
 have f:ni (loc id) (.arr 0 e sz hdr):=by rw [a];trivial
 refine⟨upd loc id (.arr 0 e sz hdr),?_,?_,mZ.upd f⟩
 ·exact h.nH o id _ _ (fun b m=>by cases m) (.arr 0 e es sz hdr xs j how hf) (fun b i=>.inr (.inl (c b i))) f
 ·exact .ref id 0 _ _ n (mU _ _ _) (fun l q p k he=>by cases he;exact⟨AB _,fun _=>rfl⟩)
theorem vo(h:Sim P X S loc s tm w){t e:TypeId}{len:Nat}{l:List (Nat×RV)}{pvs:Array (Nat×Value)}{z:Value}{cs:List RV}(he:od P t=some e)(hk:szT P e=some (0+1))(K:n0 P e=some z)
  (G:len*(0+1)<=2 ^ 24) (g:z.cells.size=0+1) (hf:rU (fun i=>some (i*(0+1),0+1)) (AA len (nC z).cells).flatten l=some cs) (y:oG l=true) (J:xi S loc l pvs.toList) (k:wN cs=true):
  ∃v' w' S' loc',(Instr.buildSlice t len pvs).run P w= .ok v' w'∧Sim P X S' loc' (s.ups []) tm w'∧R S' loc' (.plit cs) v':=by
 obtain⟨O,z2⟩:=py S loc z
 have b:(nC z).cells.length=0+1:=by rw [<-O];exact g
 have B:((Ah (len*(0+1))).map (z.cells[· %z.cells.size]!)).size=(AA len (nC z).cells).flatten.length:=by
  rw [nj,b];simp
 have v:∀(i:Nat)c x,(AA len (nC z).cells).flatten[i]? =some c->((Ah (len*(0+1))).map (z.cells[· %z.cells.size]!))[i]? =some x->R S loc c x:=by
  intro i c x hi p
  have a:i<len*(0+1):=by
   have:=(List.getElem?_eq_some_iff.1 hi).1
   rw [nj,b]at this
   exact this
  rw [oh _ _ _ (by rw [b];exact a),b]at hi
  rw [Ae,Af,if_pos a]at p
  simp only [Option.map_some,AD,g]at p
  have hm:i%(0+1)<z.cells.size:=by rw [g];exact Ab _ om
  have H:z.cells[i%(0+1)]? =some x:=by
   rw [Ad hm, <-p]
   simp [hm]
  exact z2 _ c x hi H
 obtain⟨vs,g1,g2,g3,g4,_⟩:=qa l pvs.toList _ cs _ hf y J B v
 rw [nj,b]at g3
 simp only [wN,A5,Bool.not_eq_true',List.all_eq_true]at k
 have m:∀x∈vs,x.oneCell'=true:=by
  intro x p
  obtain⟨i,hi,r⟩:=Ag p
  have a:i<cs.length:=by omega
  have E:=g4 i cs[i] x (zc a) (by rw [Ad hi,r])
  have C:=k.2 cs[i] (Aa a)
  generalize cs[i]=c at E C
  cases c<;>first|(cases C;done)|skip
  cases E with|ptr _ _ _ _ I _ _=>exact I
 have D:0<cs.length:=by cases cs with|nil=>simp at k|cons=>simp
 have o:(Instr.buildSlice t len pvs).run P w= .ok (.slice (some ⟨w.heap.size,0,none⟩) len len) (w.alloc (.cells vs e)):=by
  obtain⟨i,hi,u⟩:=oc K
  have F:¬len*(0+1)=0:=by omega
  have q:¬(2 ^ 24<len*(0+1)):=by omega
  simp only [Instr.buildSlice,run_underlying (nQ he),mV hk,Ai,A8,Aj,gt_iff_lt,q,if_false,F,zeroValue,typeInfo,run_program,hi,Ak,u,g1,newRow,run_newObj,World.alloc_eq]
 obtain⟨n1,L,N⟩:=qM h e vs m
 refine⟨_,_,_,loc,o,n1,?_⟩
 have f:∀(j:Nat)x,cs[j]? =some x->vs.toList[j]? =some (vs.toList.getD j default):=fun j x n=>by
  have a:=(List.getElem?_eq_some_iff.1 n).1
  have:j<vs.toList.length:=by simp;omega
  simp [A9,zc this]
 have:=R.plit (S:=n5 S w.heap.size vs.toList) (loc:=loc) cs w.heap.size 0 len (fun j=>vs.toList.getD j default) om
  (fun j x n=>by rw [AK,qC N (f j x n)])
  (fun j x n=>(g4 j x _ n (by rw [<-Array.getElem?_toList];exact f j x n)).mono L (mZ.refl loc))
 rw [g3,AK,Nat.mul_one]at this
 exact this
theorem tH(h:Sim P X S loc s tm w){mt:Bool}{id:Nat}{t:TypeId}{len:Nat}{l:List (Nat×RV)}{pvs:Array (Nat×Value)}{v:RV}{u:Ups}{r:List Nat}
  (a:oq P mt id t len l s.boxes=some ((v,u),r,true)) (hp:xi S loc l pvs.toList):
  ∃v' w' S' loc',(Instr.buildSlice t len pvs).run P w= .ok v' w'∧Sim P X S' loc' (s.ups u) tm w'∧R S' loc' v v':=by
 unfold oq at a
 rcases he:od P t with _|e
 ·simp only [he]at a;exact fE s.boxes a
 simp only [he]at a
 rcases hk:szT P e with _|_|k
 ·simp only [hk]at a;exact fE s.boxes a
 ·simp only [hk]at a;exact fE s.boxes a
 rcases hz:n0 P e with _|z
 ·simp only [hk,hz]at a;exact fE s.boxes a
 simp only [hk,hz]at a
 by_cases hc:len*(k+1)<=2 ^ 24∧z.cells.size=k+1∧(nv P e=true∨k=0)
 rotate_left
 ·rw [if_neg hc]at a;exact fE s.boxes a
 rw [if_pos hc]at a
 obtain⟨b3,H,b4⟩:=hc
 rcases hf:rU (fun i=>some (i*(k+1),k+1)) (AA len (nC z).cells).flatten l with _|cs
 ·simp only [hf]at a;exact fE s.boxes a
 simp only [hf]at a
 by_cases q:(mt&&wN cs)=true
 ·rw [if_pos q]at a
  obtain⟨T, -,G⟩:=M.mP (b:=s.boxes) a
  cases T
  simp only [Bool.true_eq,A5]at G
  obtain⟨G,h7⟩:=G
  obtain rfl:=of_decide_eq_true h7
  exact vo h he hk hz b3 H hf G hp (by simp only [A5]at q;exact q.2)
 rw [if_neg q]at a
 obtain⟨⟨C,u1⟩,r1,r2,h1,h2,_⟩:=M.bind_some a
 have K:(oG l&&C.all PD.one)=true∧((s.boxes id=none∧v= .ref id 0∧u=u1++[(id,.arr 0 e (nZ P e (k+1) len C))])∨(v= .d (.lst (nZ P e (k+1) len C))∧u=u1)):=by
  cases a7:(mt&& !uT cs)with
  |true=>
   simp only [a7,if_true]at h2
   obtain⟨_,r3,r4,h3,h4,_⟩:=M.bind_some h2
   obtain⟨hb,_,_⟩:=M.nJ h3
   obtain⟨T, -,G⟩:=M.mP h4
   cases T
   exact⟨G.symm,.inl ⟨hb,rfl,rfl⟩⟩
  |false=>
   simp only [a7,Ac,if_false]at h2
   obtain⟨T, -,G⟩:=M.mP (b:=s.boxes) h2
   cases T
   exact⟨G.symm,.inr ⟨rfl,rfl⟩⟩
 obtain⟨Y,a9⟩:=K
 simp only [A5]at Y
 obtain⟨c1,c2⟩:=Y
 have I:∀p∈C,p.one=true:=fun p hp=>List.all_eq_true.1 c2 p hp
 obtain⟨z1,z2⟩:=py S loc z
 have F:(nC z).cells.length=k+1:=by rw [<-z1];exact H
 have c3:((Ah (len*(k+1))).map (z.cells[· %z.cells.size]!)).size=(AA len (nC z).cells).flatten.length:=by
  rw [nj,F];simp
 have c0:∀(i:Nat)c x,(AA len (nC z).cells).flatten[i]? =some c->((Ah (len*(k+1))).map (z.cells[· %z.cells.size]!))[i]? =some x->R S loc c x:=by
  intro i c x hi B
  have m:i<len*(k+1):=by
   have:=(List.getElem?_eq_some_iff.1 hi).1
   rw [nj,F]at this
   exact this
  rw [oh _ _ _ (by rw [F];exact m),F]at hi
  rw [Ae,Af,if_pos m]at B
  simp only [Option.map_some,AD,H]at B
  have hm:i%(k+1)<z.cells.size:=by rw [H];exact Ab _ om
  have hg:z.cells[i%(k+1)]? =some x:=by
   rw [Ad hm, <-B]
   simp [hm]
  exact z2 _ c x hi hg
 obtain⟨vs,g1,g2,g3,g4,_⟩:=qa l pvs.toList _ cs _ hf c1 hp c3 c0
 rw [nj,F]at g3
 obtain⟨p1,p2,p3,p4⟩:=xN h1
 obtain⟨S1,b1,W,b0,hle,b5⟩:=h.re u1 p1 (fun x B=>.inl (p2 x B))
 have a8:∀(i:Nat)p x,C[i]? =some p->vs[i]? =some x->V S1 p x:=by
  intro i p x hi B
  have m:i<cs.length:=by rw [<-p3];exact(List.getElem?_eq_some_iff.1 hi).1
  exact p4 S loc S1 b0 b5 i cs[i] p x (zc m) hi (g4 i _ x (zc m) B)
 have D:vs.size=C.length:=by rw [g2,p3]
 have E:∀x∈vs,x.oneCell'=true:=by
  intro x B
  obtain⟨i,hi,O⟩:=Ag B
  have m:i<C.length:=by rw [<-D];exact hi
  exact((a8 i C[i] x (zc m) (by rw [Ad hi,O])).pR (I _ (Aa m))).1
 have q:C.length=len*(k+1):=by rw [p3,g3]
 have a5:=rf (P:=P) e (k+1) (b4.imp (fun h=>h) (fun h=>om)) len C q I
 have n:Flat S1 (k+1) (nZ P e (k+1) len C) vs.toList:=by
  refine⟨fun x B=>?_,fun x B=>E x (by simpa using B),fun i x j c hi hj=>?_⟩
  ·obtain⟨i,hi,O⟩:=List.getElem_of_mem B
   exact(a5 i x (by rw [zc hi,O])).1
  ·have:=(a5 i x hi).2 j c hj
   have m:=(List.getElem?_eq_some_iff.1 this).1
   refine⟨vs[i*(k+1)+j],?_,a8 _ c _ this (Ad om)⟩
   simp [D,m]
 have J:(Instr.buildSlice t len pvs).run P w= .ok (.slice (some ⟨w.heap.size,0,none⟩) len len) (w.alloc (.cells vs e)):=by
  obtain⟨i,hi,b6⟩:=oc hz
  have e0:∀f:Nat->Value,(Ah 0).map f= #[]:=fun f=>by apply Array.ext';simp
  by_cases h0:len*(k+1)=0
  ·have L:Instr.fill (fun i=>some (i*(k+1),k+1)) #[] pvs.toList=some vs:=by
    rw [h0,e0]at g1
    exact g1
   have N:¬(2 ^ 24<0):=by omega
   simp only [Instr.buildSlice,run_underlying (nQ he),mV hk,Ai,A8,Aj,gt_iff_lt,h0,N,if_false,if_true,e0,Ak,L,newRow,run_newObj,World.alloc_eq]
  ·have N:¬(2 ^ 24<len*(k+1)):=by omega
   simp only [Instr.buildSlice,run_underlying (nQ he),mV hk,Ai,A8,Aj,gt_iff_lt,N,if_false,h0,zeroValue,typeInfo,run_program,hi,Ak,b6,g1,newRow,run_newObj,World.alloc_eq]
 rcases a9 with⟨hb,rfl,rfl⟩|⟨rfl,rfl⟩
 ·by_cases a6:id∈u1.map (·.1)
  ·obtain⟨x,B,c4⟩:=List.mem_map.1 a6
   obtain⟨ver,e',c5,Q⟩:=p2 x B
   rw [c4]at Q
   rw [hb]at Q
   cases Q
  ·have b2:(s.ups u1).boxes id=none:=by rw [oj u1 s id a6];exact hb
   have o:=oF (P:=P) e (k+1) len C
   have how:(w.alloc (.cells vs e)).ownsRow 0 e (k+1) (.slice (some ⟨w.heap.size,0,none⟩) len len) (nZ P e (k+1) len C).length vs.toList:=by
    rw [o]
    refine⟨by simp [D,q],.inr ⟨w.heap.size,len,vs,rfl,Nat.zero_le _,heap_alloc_new w _,AB _,?_,by rw [D,q],?_⟩⟩
    ·have:len*1<=len*(k+1):=Nat.mul_le_mul_left _ om
     simp only [maxLen];omega
    ·apply List.take_of_length_le;simp [D,q]
   obtain⟨loc',G,h7,_⟩:=W.sb b2 (Step.alloc w _) hk (hdr:= .slice (some ⟨w.heap.size,0,none⟩) len len) (.inl (.of how)) n (fun g hg=>by have:=pX hg;cases this;exact AB _) rfl
   exact⟨_,_,S1,loc',J,by rw [qg];exact G,h7⟩
 ·obtain⟨n1,n2,n3⟩:=qM W e vs E
  refine⟨_,_,_,b1,J,n1,.d ?_⟩
  have o:=oF (P:=P) e (k+1) len C
  have:=V.lst (S:=n5 S1 w.heap.size vs.toList) (nZ P e (k+1) len C) w.heap.size 0 len (k+1) (fun i j=>vs.toList.getD (i*(k+1)+j) default) (by rw [o];exact AB _) n.len
   (fun i x j c hi hj => by
    obtain⟨y,hy,_⟩:=n.cell i x j c hi hj
    rw [AK,qC n3 hy]
    simp [A9,hy])
   (fun i x j c hi hj => by
    obtain⟨y,hy,hv⟩:=n.cell i x j c hi hj
    have:=hv.mono n2
    simpa [A9,hy]using this)
  rw [o]at this
  exact this
end
end Go.Dw
