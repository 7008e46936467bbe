
import Derived.Test.YtfmoipelhfkdkaaGreatDoorDwBuild
open List renaming getD->EI, getElem_mem->EJ, replicate->B2
open Nat renaming add_mul->D9, le_refl->DI, mod_lt->EK, zero_add->DQ
open Option.some renaming injEq->DJ
open Bool renaming and_eq_true->EE, false_eq_true->EL
open Array renaming getElem?_eq_getElem->EM, getElem?_map->EO, getElem?_range->EP, getElem_of_mem->ER, range->ES
open Go.Sem renaming run_bind->ET, run_ite->EU, run_pure->EV
open Go.Result renaming andThen_ok->EH

namespace Go.Dw
theorem tM{α:Type}(l:List α):∀(n m:Nat),m<n*l.length->(B2 n l).flatten[m]? =l[m%l.length]?
 |0,m,h=>by simp at h
 |n+1,m,h=>by
  rw [List.replicate_succ,List.flatten_cons]
  by_cases hm:m<l.length
  ·rw [List.getElem?_append_left hm,Nat.mod_eq_of_lt hm]
  ·rw [List.getElem?_append_right za,tM l n (m-l.length) (by rw [D9]at h;omega)]
   congr 1
   rw [<-Nat.mod_eq_sub_mod za]
theorem sc{α:Type}(l:List α)(n:Nat):(B2 n l).flatten.length=n*l.length:=by
 simp
section
variable {P:Program}{X:Ctx}{S:rP}{loc:ss}{s:St}{tm:Array Value}{w:World}
theorem uf(e:TypeId)(k:Nat):∀(n:Nat)(ps:List PD),(tz P e k n ps).length=n
 |0,_=>rfl
 |n+1,ps=>by simp [tz,uf e k n]
theorem wG(e:TypeId)(k:Nat)(hk:sw P e=true∨k=1):∀(n:Nat)(ps:List PD),ps.length=n*k->(∀p∈ps,p.one=true)->∀(i:Nat)x,(tz P e k n ps)[i]? =some x->
  x.cells.length=k∧∀j c,x.cells[j]? =some c->ps[i*k+j]? =some c
 |0,_,_,_,i,x,g=>by simp [tz]at g
 |n+1,ps,hl,h1,i,x,g=>by
  rw [D9,Nat.one_mul]at hl
  cases i with
  |zero=>
   simp only [tz,List.getElem?_cons_zero,DJ]at g
   subst g
   by_cases q:sw P e=true
   ·simp only [q,if_true,PD.cells]
    refine⟨so,fun j c f=>?_⟩
    rw [List.getElem?_take]at f
    split at f
    ·simpa using f
    ·cases f
   ·have u:k=1:=hk.resolve_left q
    subst u
    simp only [q]
    obtain⟨p,r,rfl⟩:∃p r,ps=p::r:=by
     cases ps with
     |nil=>simp at hl
     |cons p r=>exact⟨p,r,rfl⟩
    have hp:=h1 p zc
    have hc:p.cells=[p]:=by cases p<;>first|rfl|(simp [PD.one]at hp)
    simp only [List.headD_cons,EL,if_false,hc]
    refine⟨rfl,fun j c f=>?_⟩
    cases j with
    |zero=>simpa using f
    |succ j=>simp at f
  |succ i=>
   simp only [tz,List.getElem?_cons_succ]at g
   obtain⟨C,D⟩:=wG e k hk n (ps.drop k) so (fun p hp=>h1 p (List.mem_of_mem_drop hp)) i x g
   refine⟨C,fun j c f=>?_⟩
   have:=D j c f
   rw [List.getElem?_drop]at this
   rw [<-this]
   congr 1
   rw [D9]
   omega
theorem wo(h:Sim P X S loc s tm w)(t:TypeId)(vs:Array Value)(h1:∀u∈vs,u.oneCell'=true):
  Sim P X (tE S w.heap.size vs.toList) loc s tm (w.alloc (.cells vs t))∧Sub S (tE S w.heap.size vs.toList)∧(∀o,S ⟨w.heap.size,o,none⟩=none):=by
 have hS:∀o,S ⟨w.heap.size,o,none⟩=none:=by
  intro o
  cases hS:S ⟨w.heap.size,o,none⟩with
  |none=>rfl
  |some v=>
   have:=World.block_lt_of_cell? w _ (h.imm _ v hS)
   simp at this
 refine⟨?_,uk _ _ _,hS⟩
 refine(h.stepW (Step.alloc w _)).wI w.heap.size vs.toList ?_ (fun v r=>h1 v (by simpa using r)) ?_ ?_
 ·intro j v q
  rw [cell_of_row _ _ _ vs t (0,0) (heap_alloc_new w _)]
  simpa using q
 ·intro id L g k
  obtain⟨C,f⟩:=h.dom id L g
  have:=(h.tN f g).uW k
  omega
 ·exact .inl h.frame.size
theorem Sim.xr(h:Sim P X S loc s tm w){id:Nat}(q:s.boxes id=none){w':World}(hs:Step none w w'){e:TypeId}{sz:Nat}(r:szT P e=some sz){hdr:Value}{es:List PD}{xs:List Value}
  (how:rowAt w' e sz hdr es.length xs) (hf:Flat S sz es xs) (j:∀g,tp hdr=some g->w.heap.size<=g) (ho:hdr.oneCell'=true):
  ∃loc',Sim P X S loc' { s with boxes:=upd s.boxes id (.arr 0 e es) } tm w'∧R S loc' (.ref id 0) hdr∧rT loc loc':=by
 have f:=h.si q
 have k:sb (loc id) (.arr 0 e sz hdr):=by rw [f];trivial
 refine⟨upd loc id (.arr 0 e sz hdr),?_,?_,rT.upd k⟩
 ·exact h.sW hs id _ _ (fun b hc=>by cases hc) (.arr 0 e es sz hdr xs r how hf) (fun b q=>.inr (.inl (j b q))) k
 ·exact .ref id 0 _ _ ho (rK _ _ _) (fun C E D u he=>by cases he;exact⟨DI _,fun _=>rfl⟩)
theorem Ad(h:Sim P X S loc s tm w){t e:TypeId}{len:Nat}{l:List (Nat×RV)}{pvs:Array (Nat×Value)}{z:Value}{cs:List RV}(he:sD P t=some e)(hk:szT P e=some (0+1))(U:sr P e=some z)
  (Q:len*(0+1)<=2 ^ 24) (q:z.cells.size=0+1) (hf:uN (fun i=>some (i*(0+1),0+1)) (B2 len (sn z).cells).flatten l=some cs) (J:tU l=true) (hp:BK S loc l pvs.toList) (r:Bh cs=true):
  ∃v' w' S' loc',(Instr.buildSlice t len pvs).run P w= .ok v' w'∧Sim P X S' loc' (s.ups []) tm w'∧R S' loc' (.plit cs) v':=by
 obtain⟨z1,z2⟩:=uT S loc z
 have g:(sn z).cells.length=0+1:=by rw [<-z1];exact q
 have K:((ES (len*(0+1))).map (z.cells[· %z.cells.size]!)).size=(B2 len (sn z).cells).flatten.length:=by
  rw [sc,g];simp
 have I:∀(i:Nat)c x,(B2 len (sn z).cells).flatten[i]? =some c->((ES (len*(0+1))).map (z.cells[· %z.cells.size]!))[i]? =some x->R S loc c x:=by
  intro i c x hi E
  have f:i<len*(0+1):=by
   have:=(List.getElem?_eq_some_iff.1 hi).1
   rw [sc,g]at this
   exact this
  rw [tM _ _ _ (by rw [g];exact f),g]at hi
  rw [EO,EP,if_pos f]at E
  simp only [Option.map_some,DJ,q]at E
  have hm:i%(0+1)<z.cells.size:=by rw [q];exact EK _ za
  have T:z.cells[i%(0+1)]? =some x:=by
   rw [EM hm, <-E]
   simp [hm]
  exact z2 _ c x hi T
 obtain⟨vs,g1,g2,g3,g4,_⟩:=vH l pvs.toList _ cs _ hf J hp K I
 rw [sc,g]at g3
 simp only [Bh,EE,Bool.not_eq_true',List.all_eq_true]at r
 have u:∀x∈vs,x.oneCell'=true:=by
  intro x E
  obtain⟨i,hi,G⟩:=ER E
  have f:i<cs.length:=by omega
  have N:=g4 i cs[i] x (zf f) (by rw [EM hi,G])
  have hc:=r.2 cs[i] (EJ f)
  generalize cs[i]=c at N hc
  cases c<;>first|(cases hc;done)|skip
  cases N with|ptr _ _ _ _ ho _ _=>exact ho
 have L:0<cs.length:=by cases cs with|nil=>simp at r|cons=>simp
 have D:(Instr.buildSlice t len pvs).run P w= .ok (.slice (some ⟨w.heap.size,0,none⟩) len len) (w.alloc (.cells vs e)):=by
  obtain⟨i,hi,H⟩:=tJ U
  have O:¬len*(0+1)=0:=by omega
  have F:¬(2 ^ 24<len*(0+1)):=by omega
  simp only [Instr.buildSlice,run_underlying (tj he),rQ hk,ET,EH,EU,gt_iff_lt,F,if_false,O,zeroValue,typeInfo,run_program,hi,EV,H,g1,newRow,run_newObj,World.alloc_eq]
 obtain⟨n1,W,Y⟩:=wo h e vs u
 refine⟨_,_,_,loc,D,n1,?_⟩
 have k:∀(j:Nat)x,cs[j]? =some x->vs.toList[j]? =some (vs.toList.getD j default):=fun j x C=>by
  have f:=(List.getElem?_eq_some_iff.1 C).1
  have:j<vs.toList.length:=by simp;omega
  simp [EI,zf this]
 have:=R.plit (S:=tE S w.heap.size vs.toList) (loc:=loc) cs w.heap.size 0 len (fun j=>vs.toList.getD j default) za
  (fun j x C=>by rw [DQ,we Y (k j x C)])
  (fun j x C=>(g4 j x _ C (by rw [<-Array.getElem?_toList];exact k j x C)).mono W (rT.refl loc))
 rw [g3,DQ,Nat.mul_one]at this
 exact this
theorem yp(h:Sim P X S loc s tm w){mt:Bool}{id:Nat}{t:TypeId}{len:Nat}{l:List (Nat×RV)}{pvs:Array (Nat×Value)}{v:RV}{u:Ups}{r:List Nat}
  (hl:tR P mt id t len l s.boxes=some ((v,u),r,true)) (hp:BK S loc l pvs.toList):
  ∃v' w' S' loc',(Instr.buildSlice t len pvs).run P w= .ok v' w'∧Sim P X S' loc' (s.ups u) tm w'∧R S' loc' v v':=by
 unfold tR at hl
 rcases he:sD P t with _|e
 ·simp only [he]at hl;exact fE s.boxes hl
 simp only [he]at hl
 rcases hk:szT P e with _|_|k
 ·simp only [hk]at hl;exact fE s.boxes hl
 ·simp only [hk]at hl;exact fE s.boxes hl
 rcases hz:sr P e with _|z
 ·simp only [hk,hz]at hl;exact fE s.boxes hl
 simp only [hk,hz]at hl
 by_cases hc:len*(k+1)<=2 ^ 24∧z.cells.size=k+1∧(sw P e=true∨k=0)
 rotate_left
 ·rw [if_neg hc]at hl;exact fE s.boxes hl
 rw [if_pos hc]at hl
 obtain⟨c0,K,c1⟩:=hc
 rcases hf:uN (fun i=>some (i*(k+1),k+1)) (B2 len (sn z).cells).flatten l with _|cs
 ·simp only [hf]at hl;exact fE s.boxes hl
 simp only [hf]at hl
 by_cases E:(mt&&Bh cs)=true
 ·rw [if_pos E]at hl
  obtain⟨Y, -,J⟩:=M.rE (b:=s.boxes) hl
  cases Y
  simp only [Bool.true_eq,EE]at J
  obtain⟨J,h7⟩:=J
  obtain rfl:=of_decide_eq_true h7
  exact Ad h he hk hz c0 K hf J hp (by simp only [EE]at E;exact E.2)
 rw [if_neg E]at hl
 obtain⟨⟨ps,u1⟩,r1,r2,h1,h2,_⟩:=M.bind_some hl
 have O:(tU l&&ps.all PD.one)=true∧((s.boxes id=none∧v= .ref id 0∧u=u1++[(id,.arr 0 e (tz P e (k+1) len ps))])∨(v= .d (.lst (tz P e (k+1) len ps))∧u=u1)):=by
  cases b1:(mt&& !zN cs)with
  |true=>
   simp only [b1,if_true]at h2
   obtain⟨_,r3,r4,h3,h4,_⟩:=M.bind_some h2
   obtain⟨hb,_,_⟩:=M.sZ h3
   obtain⟨Y, -,J⟩:=M.rE h4
   cases Y
   exact⟨J.symm,.inl ⟨hb,rfl,rfl⟩⟩
  |false=>
   simp only [b1,EL,if_false]at h2
   obtain⟨Y, -,J⟩:=M.rE (b:=s.boxes) h2
   cases Y
   exact⟨J.symm,.inr ⟨rfl,rfl⟩⟩
 obtain⟨a6,b3⟩:=O
 simp only [EE]at a6
 obtain⟨c5,c6⟩:=a6
 have L:∀p∈ps,p.one=true:=fun p hp=>List.all_eq_true.1 c6 p hp
 obtain⟨z1,z2⟩:=uT S loc z
 have I:(sn z).cells.length=k+1:=by rw [<-z1];exact K
 have c7:((ES (len*(k+1))).map (z.cells[· %z.cells.size]!)).size=(B2 len (sn z).cells).flatten.length:=by
  rw [sc,I];simp
 have c4:∀(i:Nat)c x,(B2 len (sn z).cells).flatten[i]? =some c->((ES (len*(k+1))).map (z.cells[· %z.cells.size]!))[i]? =some x->R S loc c x:=by
  intro i c x hi F
  have q:i<len*(k+1):=by
   have:=(List.getElem?_eq_some_iff.1 hi).1
   rw [sc,I]at this
   exact this
  rw [tM _ _ _ (by rw [I];exact q),I]at hi
  rw [EO,EP,if_pos q]at F
  simp only [Option.map_some,DJ,K]at F
  have hm:i%(k+1)<z.cells.size:=by rw [K];exact EK _ za
  have hg:z.cells[i%(k+1)]? =some x:=by
   rw [EM hm, <-F]
   simp [hm]
  exact z2 _ c x hi hg
 obtain⟨vs,g1,g2,g3,g4,_⟩:=vH l pvs.toList _ cs _ hf c5 hp c7 c4
 rw [sc,I]at g3
 obtain⟨p1,p2,p3,p4⟩:=Ce h1
 obtain⟨S1,b5,a5,b4,hle,c2⟩:=h.wF u1 p1 (fun x F=>.inl (p2 x F))
 have b2:∀(i:Nat)p x,ps[i]? =some p->vs[i]? =some x->V S1 p x:=by
  intro i p x hi F
  have q:i<cs.length:=by rw [<-p3];exact(List.getElem?_eq_some_iff.1 hi).1
  exact p4 S loc S1 b4 c2 i cs[i] p x (zf q) hi (g4 i _ x (zf q) F)
 have G:vs.size=ps.length:=by rw [g2,p3]
 have H:∀x∈vs,x.oneCell'=true:=by
  intro x F
  obtain⟨i,hi,U⟩:=ER F
  have q:i<ps.length:=by rw [<-G];exact hi
  exact((b2 i ps[i] x (zf q) (by rw [EM hi,U])).vv (L _ (EJ q))).1
 have E:ps.length=len*(k+1):=by rw [p3,g3]
 have a9:=wG (P:=P) e (k+1) (c1.imp (fun h=>h) (fun h=>za)) len ps E L
 have C:Flat S1 (k+1) (tz P e (k+1) len ps) vs.toList:=by
  refine⟨fun x F=>?_,fun x F=>H x (by simpa using F),fun i x j c hi hj=>?_⟩
  ·obtain⟨i,hi,U⟩:=List.getElem_of_mem F
   exact(a9 i x (by rw [zf hi,U])).1
  ·have:=(a9 i x hi).2 j c hj
   have q:=(List.getElem?_eq_some_iff.1 this).1
   refine⟨vs[i*(k+1)+j],?_,b2 _ c _ this (EM za)⟩
   simp [G,q]
 have N:(Instr.buildSlice t len pvs).run P w= .ok (.slice (some ⟨w.heap.size,0,none⟩) len len) (w.alloc (.cells vs e)):=by
  obtain⟨i,hi,c3⟩:=tJ hz
  have e0:∀f:Nat->Value,(ES 0).map f= #[]:=fun f=>by apply Array.ext';simp
  by_cases h0:len*(k+1)=0
  ·have Q:Instr.fill (fun i=>some (i*(k+1),k+1)) #[] pvs.toList=some vs:=by
    rw [h0,e0]at g1
    exact g1
   have T:¬(2 ^ 24<0):=by omega
   simp only [Instr.buildSlice,run_underlying (tj he),rQ hk,ET,EH,EU,gt_iff_lt,h0,T,if_false,if_true,e0,EV,Q,newRow,run_newObj,World.alloc_eq]
  ·have T:¬(2 ^ 24<len*(k+1)):=by omega
   simp only [Instr.buildSlice,run_underlying (tj he),rQ hk,ET,EH,EU,gt_iff_lt,T,if_false,h0,zeroValue,typeInfo,run_program,hi,EV,c3,g1,newRow,run_newObj,World.alloc_eq]
 rcases b3 with⟨hb,rfl,rfl⟩|⟨rfl,rfl⟩
 ·by_cases b0:id∈u1.map (·.1)
  ·obtain⟨x,F,c8⟩:=List.mem_map.1 b0
   obtain⟨ver,e',d0,W⟩:=p2 x F
   rw [c8]at W
   rw [hb]at W
   cases W
  ·have b6:(s.ups u1).boxes id=none:=by rw [tP u1 s id b0];exact hb
   have D:=uf (P:=P) e (k+1) len ps
   have how:(w.alloc (.cells vs e)).ownsRow 0 e (k+1) (.slice (some ⟨w.heap.size,0,none⟩) len len) (tz P e (k+1) len ps).length vs.toList:=by
    rw [D]
    refine⟨by simp [G,E],.inr ⟨w.heap.size,len,vs,rfl,Nat.zero_le _,heap_alloc_new w _,DI _,?_,by rw [G,E],?_⟩⟩
    ·have:len*1<=len*(k+1):=Nat.mul_le_mul_left _ za
     simp only [maxLen];omega
    ·apply List.take_of_length_le;simp [G,E]
   obtain⟨loc',J,h7,_⟩:=a5.xr b6 (Step.alloc w _) hk (hdr:= .slice (some ⟨w.heap.size,0,none⟩) len len) (.inl (.of how)) C (fun g hg=>by have:=vC hg;cases this;exact DI _) rfl
   exact⟨_,_,S1,loc',N,by rw [vM];exact J,h7⟩
 ·obtain⟨n1,n2,n3⟩:=wo a5 e vs H
  refine⟨_,_,_,b5,N,n1,.d ?_⟩
  have D:=uf (P:=P) e (k+1) len ps
  have:=V.lst (S:=tE S1 w.heap.size vs.toList) (tz P e (k+1) len ps) w.heap.size 0 len (k+1) (fun i j=>vs.toList.getD (i*(k+1)+j) default) (by rw [D];exact DI _) C.len
   (fun i x j c hi hj => by
    obtain⟨y,hy,_⟩:=C.cell i x j c hi hj
    rw [DQ,we n3 hy]
    simp [EI,hy])
   (fun i x j c hi hj => by
    obtain⟨y,hy,hv⟩:=C.cell i x j c hi hj
    have:=hv.mono n2
    simpa [EI,hy]using this)
  rw [D]at this
  exact this
end
end Go.Dw
