
import Derived.Test.YthadlbjoiidkjaaGreatDoorDwBuild

namespace Go.Dw
theorem sl{α:Type}(l:List α):∀(n m:Nat),m<n*l.length->(List.replicate n l).flatten[m]? =l[m%l.length]?
 |0,m,h=>by simp at h
 |n+1,m,h=>by
  rw [List.replicate_succ,List.flatten_cons]
  by_cases hm:m<l.length
  ·rw [List.getElem?_append_left hm,Nat.mod_eq_of_lt hm]
  ·rw [List.getElem?_append_right za,sl l n (m-l.length) (by rw [Nat.add_mul]at h;omega)]
   congr 1
   rw [<-Nat.mod_eq_sub_mod za]
theorem qH{α:Type}(l:List α)(n:Nat):(List.replicate n l).flatten.length=n*l.length:=by
 simp
section
variable {P:Program}{X:Ctx}{S:pR}{loc:qe}{s:St}{tm:Array Value}{w:World}
theorem rE(e:TypeId)(k:Nat):∀(n:Nat)(ps:List PD),(qN P e k n ps).length=n
 |0,_=>rfl
 |n+1,ps=>by simp [qN,rE e k n]
theorem uB(e:TypeId)(k:Nat)(hk:qg P e=true∨k=1):∀(n:Nat)(ps:List PD),ps.length=n*k->(∀p∈ps,p.one=true)->∀(i:Nat)x,(qN P e k n ps)[i]? =some x->
  x.cells.length=k∧∀j c,x.cells[j]? =some c->ps[i*k+j]? =some c
 |0,_,_,_,i,x,hx=>by simp [qN]at hx
 |n+1,ps,hl,h1,i,x,hx=>by
  rw [Nat.add_mul,Nat.one_mul]at hl
  cases i with
  |zero=>
   simp only [qN,List.getElem?_cons_zero,Option.some.injEq]at hx
   subst hx
   by_cases ha:qg P e=true
   ·simp only [ha,if_true,PD.cells]
    refine⟨so,fun j c hj=>?_⟩
    rw [List.getElem?_take]at hj
    split at hj
    ·simpa using hj
    ·cases hj
   ·have hk1:k=1:=hk.resolve_left ha
    subst hk1
    simp only [ha]
    obtain⟨p,r,rfl⟩:∃p r,ps=p::r:=by
     cases ps with
     |nil=>simp at hl
     |cons p r=>exact⟨p,r,rfl⟩
    have hp:=h1 p sm
    have hc:p.cells=[p]:=by cases p<;>first|rfl|(simp [PD.one]at hp)
    simp only [List.headD_cons,Bool.false_eq_true,if_false,hc]
    refine⟨rfl,fun j c hj=>?_⟩
    cases j with
    |zero=>simpa using hj
    |succ j=>simp at hj
  |succ i=>
   simp only [qN,List.getElem?_cons_succ]at hx
   obtain⟨h2,h3⟩:=uB e k hk n (ps.drop k) so (fun p hp=>h1 p (List.mem_of_mem_drop hp)) i x hx
   refine⟨h2,fun j c hj=>?_⟩
   have:=h3 j c hj
   rw [List.getElem?_drop]at this
   rw [<-this]
   congr 1
   rw [Nat.add_mul]
   omega
theorem w9(h:Sim P X S loc s tm w)(t:TypeId)(vs:Array Value)(h1:∀u∈vs,u.oneCell'=true):
  Sim P X (qL S w.heap.size vs.toList) loc s tm (w.alloc (.cells vs t))∧Sub S (qL S w.heap.size vs.toList)∧(∀o,S ⟨w.heap.size,o,none⟩=none):=by
 have hS:∀o,S ⟨w.heap.size,o,none⟩=none:=by
  intro o
  cases hS:S ⟨w.heap.size,o,none⟩with
  |none=>rfl
  |some v=>
   have:=World.block_lt_of_cell? w _ (h.imm _ v hS)
   simp at this
 refine⟨?_,rn _ _ _,hS⟩
 refine(h.stepW (Step.alloc w _)).wD w.heap.size vs.toList ?_ (fun v hv=>h1 v (by simpa using hv)) ?_ ?_
 ·intro j v hj
  rw [cell_of_row _ _ _ vs t (0,0) (heap_alloc_new w _)]
  simpa using hj
 ·intro id L hL hb
  obtain⟨bx,hbx⟩:=h.dom id L hL
  have:=(h.rO hbx hL).sR hb
  omega
 ·exact .inl h.frame.size
theorem Sim.vn(h:Sim P X S loc s tm w){id:Nat}(hb:s.boxes id=none){w':World}(hs:Step none w w'){e:TypeId}{sz:Nat}(hsz:szT P e=some sz){hdr:Value}{es:List PD}{xs:List Value}
  (how:rowAt w' e sz hdr es.length xs) (hf:Flat S sz es xs) (hnew:∀g,rk hdr=some g->w.heap.size<=g) (ho:hdr.oneCell'=true):
  ∃loc',Sim P X S loc' { s with boxes:=upd s.boxes id (.arr 0 e es) } tm w'∧R S loc' (.ref id 0) hdr∧qa loc loc':=by
 have hloc:=h.qf hb
 have hst:qp (loc id) (.arr 0 e sz hdr):=by rw [hloc];trivial
 refine⟨upd loc id (.arr 0 e sz hdr),?_,?_,qa.upd hst⟩
 ·exact h.sf hs id _ _ (fun b hc=>by cases hc) (.arr 0 e es sz hdr xs hsz how hf) (fun b hb=>.inr (.inl (hnew b hb))) hst
 ·exact .ref id 0 _ _ ho (pW _ _ _) (fun ver' e' sz' hdr' he=>by cases he;exact⟨Nat.le_refl _,fun _=>rfl⟩)
theorem wo(h:Sim P X S loc s tm w){mt:Bool}{id:Nat}{t:TypeId}{len:Nat}{l:List (Nat×RV)}{pvs:Array (Nat×Value)}{v:RV}{u:Ups}{r:List Nat}
  (hl:rp P mt id t len l s.boxes=some ((v,u),r,true)) (hp:Parts S loc l pvs.toList):
  ∃v' w' S' loc',(Instr.buildSlice t len pvs).run P w= .ok v' w'∧Sim P X S' loc' (s.ups u) tm w'∧R S' loc' v v':=by
 unfold rp at hl
 rcases he:rf P t with _|e
 ·simp only [he]at hl;exact fE s.boxes hl
 simp only [he]at hl
 rcases hk:szT P e with _|_|k
 ·simp only [hk]at hl;exact fE s.boxes hl
 ·simp only [hk]at hl;exact fE s.boxes hl
 rcases hz:qQ P e with _|z
 ·simp only [hk,hz]at hl;exact fE s.boxes hl
 simp only [hk,hz]at hl
 by_cases hc:len*(k+1)<=2 ^ 24∧z.cells.size=k+1∧(qg P e=true∨k=0)
 rotate_left
 ·rw [if_neg hc]at hl;exact fE s.boxes hl
 rw [if_pos hc]at hl
 obtain⟨hc1,hc2,hc3⟩:=hc
 rcases hf:vO (fun i=>some (i*(k+1),k+1)) (List.replicate len (qm z).cells).flatten l with _|cs
 ·simp only [hf]at hl;exact fE s.boxes hl
 simp only [hf]at hl
 obtain⟨⟨ps,u1⟩,r1,r2,h1,h2,_⟩:=M.bind_some hl
 have hcond:(tf l&&ps.all PD.one)=true∧((s.boxes id=none∧v= .ref id 0∧u=u1++[(id,.arr 0 e (qN P e (k+1) len ps))])∨(v= .d (.lst (qN P e (k+1) len ps))∧u=u1)):=by
  cases hmt:(mt&& !xL cs)with
  |true=>
   simp only [hmt,if_true]at h2
   obtain⟨_,r3,r4,h3,h4,_⟩:=M.bind_some h2
   obtain⟨hb,_,_⟩:=M.qo h3
   obtain⟨h5, -,h6⟩:=M.pN h4
   cases h5
   exact⟨h6.symm,.inl ⟨hb,rfl,rfl⟩⟩
  |false=>
   simp only [hmt,Bool.false_eq_true,if_false]at h2
   obtain⟨h5, -,h6⟩:=M.pN (b:=s.boxes) h2
   cases h5
   exact⟨h6.symm,.inr ⟨rfl,rfl⟩⟩
 obtain⟨hcd,hres⟩:=hcond
 simp only [Bool.and_eq_true]at hcd
 obtain⟨hs1,hs2⟩:=hcd
 have hone:∀p∈ps,p.one=true:=fun p hp=>List.all_eq_true.1 hs2 p hp
 obtain⟨z1,z2⟩:=tY S loc z
 have hzl:(qm z).cells.length=k+1:=by rw [<-z1];exact hc2
 have hv0:((Array.range (len*(k+1))).map (z.cells[· %z.cells.size]!)).size=(List.replicate len (qm z).cells).flatten.length:=by
  rw [qH,hzl];simp
 have hr0:∀(i:Nat)c x,(List.replicate len (qm z).cells).flatten[i]? =some c->((Array.range (len*(k+1))).map (z.cells[· %z.cells.size]!))[i]? =some x->R S loc c x:=by
  intro i c x hi hx
  have hlt:i<len*(k+1):=by
   have:=(List.getElem?_eq_some_iff.1 hi).1
   rw [qH,hzl]at this
   exact this
  rw [sl _ _ _ (by rw [hzl];exact hlt),hzl]at hi
  rw [Array.getElem?_map,Array.getElem?_range,if_pos hlt]at hx
  simp only [Option.map_some,Option.some.injEq,hc2]at hx
  have hm:i%(k+1)<z.cells.size:=by rw [hc2];exact Nat.mod_lt _ za
  have hg:z.cells[i%(k+1)]? =some x:=by
   rw [Array.getElem?_eq_getElem hm, <-hx]
   simp [hm]
  exact z2 _ c x hi hg
 obtain⟨vs,g1,g2,g3,g4,_⟩:=uz l pvs.toList _ cs _ hf hs1 hp hv0 hr0
 rw [qH,hzl]at g3
 obtain⟨p1,p2,p3,p4⟩:=An h1
 obtain⟨S1,loc1,hS1,hsub,hle,hfz⟩:=h.uA u1 p1 (fun x hx=>.inl (p2 x hx))
 have hps:∀(i:Nat)p x,ps[i]? =some p->vs[i]? =some x->V S1 p x:=by
  intro i p x hi hx
  have hlt:i<cs.length:=by rw [<-p3];exact(List.getElem?_eq_some_iff.1 hi).1
  exact p4 S loc S1 hsub hfz i cs[i] p x (zd hlt) hi (g4 i _ x (zd hlt) hx)
 have hvl:vs.size=ps.length:=by rw [g2,p3]
 have hvone:∀x∈vs,x.oneCell'=true:=by
  intro x hx
  obtain⟨i,hi,hie⟩:=Array.getElem_of_mem hx
  have hlt:i<ps.length:=by rw [<-hvl];exact hi
  exact((hps i ps[i] x (zd hlt) (by rw [Array.getElem?_eq_getElem hi,hie])).uJ (hone _ (List.getElem_mem hlt))).1
 have hpl:ps.length=len*(k+1):=by rw [p3,g3]
 have hgg:=uB (P:=P) e (k+1) (hc3.imp (fun h=>h) (fun h=>za)) len ps hpl hone
 have hflat:Flat S1 (k+1) (qN P e (k+1) len ps) vs.toList:=by
  refine⟨fun x hx=>?_,fun x hx=>hvone x (by simpa using hx),fun i x j c hi hj=>?_⟩
  ·obtain⟨i,hi,hie⟩:=List.getElem_of_mem hx
   exact(hgg i x (by rw [zd hi,hie])).1
  ·have:=(hgg i x hi).2 j c hj
   have hlt:=(List.getElem?_eq_some_iff.1 this).1
   refine⟨vs[i*(k+1)+j],?_,hps _ c _ this (Array.getElem?_eq_getElem za)⟩
   simp [hvl,hlt]
 have hrun:(Instr.buildSlice t len pvs).run P w= .ok (.slice (some ⟨w.heap.size,0,none⟩) len len) (w.alloc (.cells vs e)):=by
  obtain⟨i,hi,hiz⟩:=ry hz
  have e0:∀f:Nat->Value,(Array.range 0).map f= #[]:=fun f=>by apply Array.ext';simp
  by_cases h0:len*(k+1)=0
  ·have hfill:Instr.fill (fun i=>some (i*(k+1),k+1)) #[] pvs.toList=some vs:=by
    rw [h0,e0]at g1
    exact g1
   have hgt:¬(2 ^ 24<0):=by omega
   simp only [Instr.buildSlice,run_underlying (qU he),pS hk,Sem.run_bind,Result.andThen_ok,Sem.run_ite,gt_iff_lt,h0,hgt,if_false,if_true,e0,Sem.run_pure,hfill,newRow,run_newObj,World.alloc_eq]
  ·have hgt:¬(2 ^ 24<len*(k+1)):=by omega
   simp only [Instr.buildSlice,run_underlying (qU he),pS hk,Sem.run_bind,Result.andThen_ok,Sem.run_ite,gt_iff_lt,hgt,if_false,h0,zeroValue,typeInfo,run_program,hi,Sem.run_pure,hiz,g1,newRow,run_newObj,World.alloc_eq]
 rcases hres with⟨hb,rfl,rfl⟩|⟨rfl,rfl⟩
 ·by_cases hin:id∈u1.map (·.1)
  ·obtain⟨x,hx,hxi⟩:=List.mem_map.1 hin
   obtain⟨ver,e',es',hx2⟩:=p2 x hx
   rw [hxi]at hx2
   rw [hb]at hx2
   cases hx2
  ·have hb':(s.ups u1).boxes id=none:=by rw [re u1 s id hin];exact hb
   have hglen:=rE (P:=P) e (k+1) len ps
   have how:(w.alloc (.cells vs e)).ownsRow 0 e (k+1) (.slice (some ⟨w.heap.size,0,none⟩) len len) (qN P e (k+1) len ps).length vs.toList:=by
    rw [hglen]
    refine⟨by simp [hvl,hpl],.inr ⟨w.heap.size,len,vs,rfl,Nat.zero_le _,heap_alloc_new w _,Nat.le_refl _,?_,by rw [hvl,hpl],?_⟩⟩
    ·have:len*1<=len*(k+1):=Nat.mul_le_mul_left _ za
     simp only [maxLen];omega
    ·apply List.take_of_length_le;simp [hvl,hpl]
   obtain⟨loc',h6,h7,_⟩:=hS1.vn hb' (Step.alloc w _) hk (hdr:= .slice (some ⟨w.heap.size,0,none⟩) len len) (.inl (.of how)) hflat (fun g hg=>by have:=rT hg;cases this;exact Nat.le_refl _) rfl
   exact⟨_,_,S1,loc',hrun,by rw [tL];exact h6,h7⟩
 ·obtain⟨n1,n2,n3⟩:=w9 hS1 e vs hvone
  refine⟨_,_,_,loc1,hrun,n1,.d ?_⟩
  have hglen:=rE (P:=P) e (k+1) len ps
  have:=V.lst (S:=qL S1 w.heap.size vs.toList) (qN P e (k+1) len ps) w.heap.size 0 len (k+1) (fun i j=>vs.toList.getD (i*(k+1)+j) default) (by rw [hglen];exact Nat.le_refl _) hflat.len
   (fun i x j c hi hj => by
    obtain⟨y,hy,_⟩:=hflat.cell i x j c hi hj
    rw [Nat.zero_add,uf n3 hy]
    simp [List.getD,hy])
   (fun i x j c hi hj => by
    obtain⟨y,hy,hv⟩:=hflat.cell i x j c hi hj
    have:=hv.mono n2
    simpa [List.getD,hy]using this)
  rw [hglen]at this
  exact this
end
end Go.Dw
