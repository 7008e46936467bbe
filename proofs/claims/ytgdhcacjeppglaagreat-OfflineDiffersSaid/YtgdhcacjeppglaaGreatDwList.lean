
import Derived.Test.YtgdhcacjeppglaaGreatDwBuild
open List renaming getD->Ag, getElem_mem->Ah, replicate->AA
open Nat renaming add_mul->A6, le_refl->AB, mod_lt->Ai, zero_add->AK
open Option.some renaming injEq->AD
open Bool renaming and_eq_true->Ac, false_eq_true->Aj
open Array renaming getElem?_eq_getElem->Ak, getElem?_map->Al, getElem?_range->Am, getElem_of_mem->An, range->Ao
open Go.Sem renaming run_bind->Ap, run_ite->Aq, run_pure->Ar
open Go.Result renaming andThen_ok->Af

namespace Go.Dw
theorem de{α:Type}(l:List α):∀(n m:Nat),m<n*l.length->(AA n l).flatten[m]? =l[m%l.length]?
 |0,m,h=>by simp at h
 |n+1,m,h=>by
  rw [List.replicate_succ,List.flatten_cons]
  by_cases hm:m<l.length
  ·rw [List.getElem?_append_left hm,Nat.mod_eq_of_lt hm]
  ·rw [List.getElem?_append_right om,de l n (m-l.length) (by rw [A6]at h;omega)]
   congr 1
   rw [<-Nat.mod_eq_sub_mod om]
theorem cn{α:Type}(l:List α)(n:Nat):(AA n l).flatten.length=n*l.length:=by
 simp
section
variable {P:Program}{X:Ctx}{S:cp}{loc:cJ}{s:St}{tm:Array Value}{w:World}
theorem dP(e:TypeId)(k:Nat):∀(n:Nat)(a:List PD),(dj P e k n a).length=n
 |0,_=>rfl
 |n+1,a=>by simp [dj,dP e k n]
theorem gg(e:TypeId)(k:Nat)(hk:cM P e=true∨k=1):∀(n:Nat)(b:List PD),b.length=n*k->(∀p∈b,p.one=true)->∀(i:Nat)x,(dj P e k n b)[i]? =some x->
  x.cells.length=k∧∀j c,x.cells[j]? =some c->b[i*k+j]? =some c
 |0,_,_,_,i,x,f=>by simp [dj]at f
 |n+1,b,hl,h1,i,x,f=>by
  rw [A6,Nat.one_mul]at hl
  cases i with
  |zero=>
   simp only [dj,List.getElem?_cons_zero,AD]at f
   subst f
   by_cases g:cM P e=true
   ·simp only [g,if_true,PD.cells]
    refine⟨so,fun j c a=>?_⟩
    rw [List.getElem?_take]at a
    split at a
    ·simpa using a
    ·cases a
   ·have l:k=1:=hk.resolve_left g
    subst l
    simp only [g]
    obtain⟨p,r,rfl⟩:∃p r,b=p::r:=by
     cases b with
     |nil=>simp at hl
     |cons p r=>exact⟨p,r,rfl⟩
    have m:=h1 p sm
    have hc:p.cells=[p]:=by cases p<;>first|rfl|(simp [PD.one]at m)
    simp only [List.headD_cons,Aj,if_false,hc]
    refine⟨rfl,fun j c a=>?_⟩
    cases j with
    |zero=>simpa using a
    |succ j=>simp at a
  |succ i=>
   simp only [dj,List.getElem?_cons_succ]at f
   obtain⟨o,q⟩:=gg e k hk n (b.drop k) so (fun p m=>h1 p (List.mem_of_mem_drop m)) i x f
   refine⟨o,fun j c a=>?_⟩
   have:=q j c a
   rw [List.getElem?_drop]at this
   rw [<-this]
   congr 1
   rw [A6]
   omega
theorem eF(h:Sim P X S loc s tm w)(t:TypeId)(vs:Array Value)(h1:∀u∈vs,u.oneCell'=true):
  Sim P X (dg S w.heap.size vs.toList) loc s tm (w.alloc (.cells vs t))∧Sub S (dg S w.heap.size vs.toList)∧(∀o,S ⟨w.heap.size,o,none⟩=none):=by
 have hS:∀o,S ⟨w.heap.size,o,none⟩=none:=by
  intro o
  cases hS:S ⟨w.heap.size,o,none⟩with
  |none=>rfl
  |some v=>
   have:=World.block_lt_of_cell? w _ (h.imm _ v hS)
   simp at this
 refine⟨?_,dA _ _ _,hS⟩
 refine(h.stepW (Step.alloc w _)).fB w.heap.size vs.toList ?_ (fun v e=>h1 v (by simpa using e)) ?_ ?_
 ·intro j v c
  rw [cell_of_row _ _ _ vs t (0,0) (heap_alloc_new w _)]
  simpa using c
 ·intro id L b hb
  obtain⟨f,a⟩:=h.dom id L b
  have:=(h.dq a b).eO hb
  omega
 ·exact .inl h.frame.size
theorem Sim.gQ(h:Sim P X S loc s tm w){id:Nat}(hb:s.boxes id=none){w':World}(k:Step none w w'){e:TypeId}{sz:Nat}(hsz:szT P e=some sz){hdr:Value}{es:List PD}{xs:List Value}
  (how:rowAt w' e sz hdr es.length xs) (hf:Flat S sz es xs) (c:∀g,cA hdr=some g->w.heap.size<=g) (ho:hdr.oneCell'=true):
  ∃loc',Sim P X S loc' { s with boxes:=upd s.boxes id (.arr 0 e es) } tm w'∧R S loc' (.ref id 0) hdr∧cm loc loc':=by
 have a:=h.cE hb
 have f:cj (loc id) (.arr 0 e sz hdr):=by rw [a];trivial
 refine⟨upd loc id (.arr 0 e sz hdr),?_,?_,cm.upd f⟩
 ·exact h.cw k id _ _ (fun b hc=>by cases hc) (.arr 0 e es sz hdr xs hsz how hf) (fun b hb=>.inr (.inl (c b hb))) f
 ·exact .ref id 0 _ _ ho (cf _ _ _) (fun j m l i he=>by cases he;exact⟨AB _,fun _=>rfl⟩)
theorem j5(h:Sim P X S loc s tm w){t e:TypeId}{len:Nat}{l:List (Nat×RV)}{pvs:Array (Nat×Value)}{z:Value}{cs:List RV}(he:dm P t=some e)(hk:szT P e=some (0+1))(J:df P e=some z)
  (G:len*(0+1)<=2 ^ 24) (g:z.cells.size=0+1) (hf:fS (fun i=>some (i*(0+1),0+1)) (AA len (cH z).cells).flatten l=some cs) (C:dG l=true) (I:kS S loc l pvs.toList) (m:lq cs=true):
  ∃v' w' S' loc',(Instr.buildSlice t len pvs).run P w= .ok v' w'∧Sim P X S' loc' (s.ups []) tm w'∧R S' loc' (.plit cs) v':=by
 obtain⟨N,z2⟩:=dO S loc z
 have b:(cH z).cells.length=0+1:=by rw [<-N];exact g
 have D:((Ao (len*(0+1))).map (z.cells[· %z.cells.size]!)).size=(AA len (cH z).cells).flatten.length:=by
  rw [cn,b];simp
 have B:∀(i:Nat)c x,(AA len (cH z).cells).flatten[i]? =some c->((Ao (len*(0+1))).map (z.cells[· %z.cells.size]!))[i]? =some x->R S loc c x:=by
  intro i c x k q
  have a:i<len*(0+1):=by
   have:=(List.getElem?_eq_some_iff.1 k).1
   rw [cn,b]at this
   exact this
  rw [de _ _ _ (by rw [b];exact a),b]at k
  rw [Al,Am,if_pos a]at q
  simp only [Option.map_some,AD,g]at q
  have hm:i%(0+1)<z.cells.size:=by rw [g];exact Ai _ om
  have H:z.cells[i%(0+1)]? =some x:=by
   rw [Ak hm, <-q]
   simp [hm]
  exact z2 _ c x k H
 obtain⟨vs,g1,g2,g3,g4,_⟩:=eB l pvs.toList _ cs _ hf C I D B
 rw [cn,b]at g3
 simp only [lq,Ac,Bool.not_eq_true',List.all_eq_true]at m
 have n:∀x∈vs,x.oneCell'=true:=by
  intro x q
  obtain⟨i,k,u⟩:=An q
  have a:i<cs.length:=by omega
  have y:=g4 i cs[i] x (zc a) (by rw [Ak k,u])
  have hc:=m.2 cs[i] (Ah a)
  generalize cs[i]=c at y hc
  cases c<;>first|(cases hc;done)|skip
  ·cases y with|ptr _ _ _ _ ho _ _=>exact ho
  ·cases y with|bnd _ _ _ _=>rfl
 have E:0<cs.length:=by cases cs with|nil=>simp at m|cons=>simp
 have p:(Instr.buildSlice t len pvs).run P w= .ok (.slice (some ⟨w.heap.size,0,none⟩) len len) (w.alloc (.cells vs e)):=by
  obtain⟨i,k,v⟩:=c8 J
  have F:¬len*(0+1)=0:=by omega
  have r:¬(2 ^ 24<len*(0+1)):=by omega
  simp only [Instr.buildSlice,run_underlying (cW he),ct hk,Ap,Af,Aq,gt_iff_lt,r,if_false,F,zeroValue,typeInfo,run_program,k,Ar,v,g1,newRow,run_newObj,World.alloc_eq]
 obtain⟨n1,K,L⟩:=eF h e vs n
 refine⟨_,_,_,loc,p,n1,?_⟩
 have f:∀(j:Nat)x,cs[j]? =some x->vs.toList[j]? =some (vs.toList.getD j default):=fun j x o=>by
  have a:=(List.getElem?_eq_some_iff.1 o).1
  have:j<vs.toList.length:=by simp;omega
  simp [Ag,zc this]
 have:=R.plit (S:=dg S w.heap.size vs.toList) (loc:=loc) cs w.heap.size 0 len (fun j=>vs.toList.getD j default) om
  (fun j x o=>by rw [AK,fg L (f j x o)])
  (fun j x o=>(g4 j x _ o (by rw [<-Array.getElem?_toList];exact f j x o)).mono K (cm.refl loc))
 rw [g3,AK,Nat.mul_one]at this
 exact this
theorem iF(h:Sim P X S loc s tm w){mt:Bool}{id:Nat}{t:TypeId}{len:Nat}{l:List (Nat×RV)}{pvs:Array (Nat×Value)}{v:RV}{u:Ups}{r:List Nat}
  (hl:dC P mt id t len l s.boxes=some ((v,u),r,true)) (hp:kS S loc l pvs.toList):
  ∃v' w' S' loc',(Instr.buildSlice t len pvs).run P w= .ok v' w'∧Sim P X S' loc' (s.ups u) tm w'∧R S' loc' v v':=by
 unfold dC at hl
 rcases he:dm P t with _|e
 ·simp only [he]at hl;exact fE s.boxes hl
 simp only [he]at hl
 rcases hk:szT P e with _|_|k
 ·simp only [hk]at hl;exact fE s.boxes hl
 ·simp only [hk]at hl;exact fE s.boxes hl
 rcases hz:df P e with _|z
 ·simp only [hk,hz]at hl;exact fE s.boxes hl
 simp only [hk,hz]at hl
 by_cases hc:len*(k+1)<=2 ^ 24∧z.cells.size=k+1∧(cM P e=true∨k=0)
 rotate_left
 ·rw [if_neg hc]at hl;exact fE s.boxes hl
 rw [if_pos hc]at hl
 obtain⟨a8,H,a9⟩:=hc
 rcases hf:fS (fun i=>some (i*(k+1),k+1)) (AA len (cH z).cells).flatten l with _|cs
 ·simp only [hf]at hl;exact fE s.boxes hl
 simp only [hf]at hl
 by_cases q:(mt&&lq cs)=true
 ·rw [if_pos q]at hl
  obtain⟨U, -,G⟩:=M.cg (b:=s.boxes) hl
  cases U
  simp only [Bool.true_eq,Ac]at G
  obtain⟨G,h7⟩:=G
  obtain rfl:=of_decide_eq_true h7
  exact j5 h he hk hz a8 H hf G hp (by simp only [Ac]at q;exact q.2)
 rw [if_neg q]at hl
 obtain⟨⟨C,u1⟩,r1,r2,h1,h2,_⟩:=M.bind_some hl
 have K:(dG l&&C.all PD.one)=true∧((s.boxes id=none∧v= .ref id 0∧u=u1++[(id,.arr 0 e (dj P e (k+1) len C))])∨(v= .d (.lst (dj P e (k+1) len C))∧u=u1)):=by
  cases a2:(mt&& !jQ cs)with
  |true=>
   simp only [a2,if_true]at h2
   obtain⟨_,r3,r4,h3,h4,_⟩:=M.bind_some h2
   obtain⟨hb,_,_⟩:=M.cU h3
   obtain⟨U, -,G⟩:=M.cg h4
   cases U
   exact⟨G.symm,.inl ⟨hb,rfl,rfl⟩⟩
  |false=>
   simp only [a2,Aj,if_false]at h2
   obtain⟨U, -,G⟩:=M.cg (b:=s.boxes) h2
   cases U
   exact⟨G.symm,.inr ⟨rfl,rfl⟩⟩
 obtain⟨Y,a4⟩:=K
 simp only [Ac]at Y
 obtain⟨b3,b4⟩:=Y
 have I:∀p∈C,p.one=true:=fun p hp=>List.all_eq_true.1 b4 p hp
 obtain⟨z1,z2⟩:=dO S loc z
 have F:(cH z).cells.length=k+1:=by rw [<-z1];exact H
 have b5:((Ao (len*(k+1))).map (z.cells[· %z.cells.size]!)).size=(AA len (cH z).cells).flatten.length:=by
  rw [cn,F];simp
 have b2:∀(i:Nat)c x,(AA len (cH z).cells).flatten[i]? =some c->((Ao (len*(k+1))).map (z.cells[· %z.cells.size]!))[i]? =some x->R S loc c x:=by
  intro i c x o B
  have a:i<len*(k+1):=by
   have:=(List.getElem?_eq_some_iff.1 o).1
   rw [cn,F]at this
   exact this
  rw [de _ _ _ (by rw [F];exact a),F]at o
  rw [Al,Am,if_pos a]at B
  simp only [Option.map_some,AD,H]at B
  have hm:i%(k+1)<z.cells.size:=by rw [H];exact Ai _ om
  have hg:z.cells[i%(k+1)]? =some x:=by
   rw [Ak hm, <-B]
   simp [hm]
  exact z2 _ c x o hg
 obtain⟨vs,g1,g2,g3,g4,_⟩:=eB l pvs.toList _ cs _ hf b3 hp b5 b2
 rw [cn,F]at g3
 obtain⟨p1,p2,p3,p4⟩:=mA h1
 obtain⟨T,a6,W,a5,hle,b0⟩:=h.gf u1 p1 (fun x B=>.inl (p2 x B))
 have a3:∀(i:Nat)p x,C[i]? =some p->vs[i]? =some x->V T p x:=by
  intro i p x o B
  have a:i<cs.length:=by rw [<-p3];exact(List.getElem?_eq_some_iff.1 o).1
  exact p4 S loc T a5 b0 i cs[i] p x (zc a) o (g4 i _ x (zc a) B)
 have D:vs.size=C.length:=by rw [g2,p3]
 have E:∀x∈vs,x.oneCell'=true:=by
  intro x B
  obtain⟨i,o,O⟩:=An B
  have a:i<C.length:=by rw [<-D];exact o
  exact((a3 i C[i] x (zc a) (by rw [Ak o,O])).eo (I _ (Ah a))).1
 have q:C.length=len*(k+1):=by rw [p3,g3]
 have a0:=gg (P:=P) e (k+1) (a9.imp (fun h=>h) (fun h=>om)) len C q I
 have m:Flat T (k+1) (dj P e (k+1) len C) vs.toList:=by
  refine⟨fun x B=>?_,fun x B=>E x (by simpa using B),fun i x j c o hj=>?_⟩
  ·obtain⟨i,o,O⟩:=List.getElem_of_mem B
   exact(a0 i x (by rw [zc o,O])).1
  ·have:=(a0 i x o).2 j c hj
   have a:=(List.getElem?_eq_some_iff.1 this).1
   refine⟨vs[i*(k+1)+j],?_,a3 _ c _ this (Ak om)⟩
   simp [D,a]
 have J:(Instr.buildSlice t len pvs).run P w= .ok (.slice (some ⟨w.heap.size,0,none⟩) len len) (w.alloc (.cells vs e)):=by
  obtain⟨i,o,b1⟩:=c8 hz
  have e0:∀f:Nat->Value,(Ao 0).map f= #[]:=fun f=>by apply Array.ext';simp
  by_cases h0:len*(k+1)=0
  ·have L:Instr.fill (fun i=>some (i*(k+1),k+1)) #[] pvs.toList=some vs:=by
    rw [h0,e0]at g1
    exact g1
   have N:¬(2 ^ 24<0):=by omega
   simp only [Instr.buildSlice,run_underlying (cW he),ct hk,Ap,Af,Aq,gt_iff_lt,h0,N,if_false,if_true,e0,Ar,L,newRow,run_newObj,World.alloc_eq]
  ·have N:¬(2 ^ 24<len*(k+1)):=by omega
   simp only [Instr.buildSlice,run_underlying (cW he),ct hk,Ap,Af,Aq,gt_iff_lt,N,if_false,h0,zeroValue,typeInfo,run_program,o,Ar,b1,g1,newRow,run_newObj,World.alloc_eq]
 rcases a4 with⟨hb,rfl,rfl⟩|⟨rfl,rfl⟩
 ·by_cases a1:id∈u1.map (·.1)
  ·obtain⟨x,B,b6⟩:=List.mem_map.1 a1
   obtain⟨ver,e',b7,Q⟩:=p2 x B
   rw [b6]at Q
   rw [hb]at Q
   cases Q
  ·have a7:(s.ups u1).boxes id=none:=by rw [dy u1 s id a1];exact hb
   have n:=dP (P:=P) e (k+1) len C
   have how:(w.alloc (.cells vs e)).ownsRow 0 e (k+1) (.slice (some ⟨w.heap.size,0,none⟩) len len) (dj P e (k+1) len C).length vs.toList:=by
    rw [n]
    refine⟨by simp [D,q],.inr ⟨w.heap.size,len,vs,rfl,Nat.zero_le _,heap_alloc_new w _,AB _,?_,by rw [D,q],?_⟩⟩
    ·have:len*1<=len*(k+1):=Nat.mul_le_mul_left _ om
     simp only [maxLen];omega
    ·apply List.take_of_length_le;simp [D,q]
   obtain⟨loc',G,h7,_⟩:=W.gQ a7 (Step.alloc w _) hk (hdr:= .slice (some ⟨w.heap.size,0,none⟩) len len) (.inl (.of how)) m (fun g hg=>by have:=fh hg;cases this;exact AB _) rfl
   exact⟨_,_,T,loc',J,by rw [eL];exact G,h7⟩
 ·obtain⟨n1,n2,n3⟩:=eF W e vs E
  refine⟨_,_,_,a6,J,n1,.d ?_⟩
  have n:=dP (P:=P) e (k+1) len C
  have:=V.lst (S:=dg T w.heap.size vs.toList) (dj P e (k+1) len C) w.heap.size 0 len (k+1) (fun i j=>vs.toList.getD (i*(k+1)+j) default) (by rw [n];exact AB _) m.len
   (fun i x j c o hj => by
    obtain⟨y,hy,_⟩:=m.cell i x j c o hj
    rw [AK,fg n3 hy]
    simp [Ag,hy])
   (fun i x j c o hj => by
    obtain⟨y,hy,hv⟩:=m.cell i x j c o hj
    have:=hv.mono n2
    simpa [Ag,hy]using this)
  rw [n]at this
  exact this
end
end Go.Dw
