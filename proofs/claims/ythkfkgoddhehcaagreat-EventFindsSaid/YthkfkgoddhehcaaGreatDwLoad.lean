
import Derived.Test.YthkfkgoddhehcaaGreatDwPure
open List renaming getElem?_drop->EF, getElem?_take->EG, range->EH
open Nat renaming lt_of_le_of_lt->EI, zero_add->EJ, zero_le->EK

namespace Go.Dw
theorem uC(b o j:Nat):(⟨b,o,none⟩:Addr).add j=⟨b,o+j,none⟩:=by unfold Addr.add;split<;>simp_all
section
variable {P:Program}{X:Ctx}{S:tG}{loc:ui}{s:St}{tm:Array Value}{w:World}
theorem Sim.wh(h:Sim P X S loc s tm w){id:Nat}{a:Box}(g:s.boxes id=some a){L:Loc}(f:loc id=some L):xa P S loc w a L:=by
 obtain⟨j,h1,c⟩:=h.boxes id a g
 rw [f]at h1
 cases h1
 exact c
theorem Sim.Cx(h:Sim P X S loc s tm w){id off:Nat}{cs:List RV}{v:Value}(f:s.boxes id=some (.var cs))(j:R S loc (.ptr id off) v):
  ∃b t vs,loc id=some (.var b)∧v= .pointer (some ⟨b,off,none⟩)∧w.heap[b]? =some (.cells vs t (0,0))∧vs.size=cs.length∧
   ∀(i:Nat)c u,cs[i]? =some c->vs[i]? =some u->R S loc c u:=by
 cases j with
 |ptr _ _ _ L _ a k=>
  have:=h.wh f a
  cases this with
  |var _ b t vs hw g hc=>exact⟨b,t,vs,a,(k b).1 rfl,hw,g,hc⟩
theorem Sim.xK(h:Sim P X S loc s tm w){id ver:Nat}{e:TypeId}{es:List PD}{v:Value}(f:s.boxes id=some (.arr ver e es))(g:R S loc (.ref id ver) v):
  ∃sz xs,loc id=some (.arr ver e sz v)∧szT P e=some sz∧rowAt w e sz v es.length xs∧Flat S sz es xs:=by
 cases g with
 |ref _ _ _ L _ c j=>
  have:=h.wh f c
  cases this with
  |arr _ _ _ sz hdr xs a how hf=>
   have:=(j ver e sz hdr .arr).2 rfl
   subst this
   exact⟨sz,xs,c,a,how,hf⟩
theorem Sim.Du(h:Sim P X S loc s tm w){id ver i o:Nat}{e:TypeId}{es:List PD}{v:Value}(k:s.boxes id=some (.arr ver e es))(l:R S loc (.elt id ver i o) v):
  ∃sz xs g n c,loc id=some (.arr ver e sz (.slice (some ⟨g,0,none⟩) n c))∧v= .pointer (some ⟨g,i*sz+o,none⟩)∧szT P e=some sz∧
   rowAt w e sz (.slice (some ⟨g,0,none⟩) n c) es.length xs∧Flat S sz es xs:=by
 cases l with
 |elt _ _ _ _ _ L _ f p=>
  have:=h.wh k f
  cases this with
  |arr _ _ _ sz hdr xs a how hf=>
   obtain⟨g,n,c,h1,j⟩:=(p ver e sz hdr .arr).2 rfl
   subst h1
   exact⟨sz,xs,g,n,c,f,j,a,how,hf⟩
theorem Sim.Cq(h:Sim P X S loc s tm w){id ver:Nat}{e e2:TypeId}{ess:List (List PD)}{a:Option (Nat×RV)}{v:Value}(l:s.boxes id=some (.nest ver e e2 ess a))(p:R S loc (.ref id ver) v):
  ∃xs bs k,loc id=some (.nest ver e 1 v bs)∧szT P e=some 1∧szT P e2=some (k+1)∧rowAt w e 1 v ess.length xs∧NCs P S loc w (ncs e2 ess a) xs bs∧((tM v).toList++bs).Nodup∧∀i rv,a=some (i,rv)->i<ess.length:=by
 cases p with
 |ref _ _ _ L _ j q=>
  have:=h.wh l j
  cases this with
  |nest _ _ _ _ _ hdr xs bs g f how hc c hi=>
   have:=(q ver e 1 hdr .nest).2 rfl
   subst this
   obtain⟨k,hk⟩:=f
   exact⟨xs,bs,k,j,g,hk,how,hc,c,hi⟩
theorem Sim.D2(h:Sim P X S loc s tm w){id ver i o:Nat}{e e2:TypeId}{ess:List (List PD)}{a:Option (Nat×RV)}{v:Value}(r:s.boxes id=some (.nest ver e e2 ess a))(t:R S loc (.elt id ver i o) v):
  ∃xs bs k g n c,loc id=some (.nest ver e 1 (.slice (some ⟨g,0,none⟩) n c) bs)∧v= .pointer (some ⟨g,i+o,none⟩)∧szT P e=some 1∧szT P e2=some (k+1)∧
   rowAt w e 1 (.slice (some ⟨g,0,none⟩) n c) ess.length xs∧NCs P S loc w (ncs e2 ess a) xs bs∧((tM (.slice (some ⟨g,0,none⟩) n c)).toList++bs).Nodup∧∀i rv,a=some (i,rv)->i<ess.length:=by
 cases t with
 |elt _ _ _ _ _ L _ p u=>
  have:=h.wh r p
  cases this with
  |nest _ _ _ _ _ hdr xs bs l j how hc f hi=>
   obtain⟨g,n,c,h1,q⟩:=(u ver e 1 hdr .nest).2 rfl
   subst h1
   obtain⟨k,hk⟩:=j
   exact⟨xs,bs,k,g,n,c,p,by rw [q,Nat.mul_one],l,hk,how,hc,f,hi⟩
theorem Sim.Ae(h:Sim P X S loc s tm w){id ver lo hi:Nat}{e:TypeId}{es:List PD}{v:Value}(k:s.boxes id=some (.arr ver e es))(l:R S loc (.view id ver lo hi) v):
  ∃sz xs hdr,loc id=some (.arr ver e sz hdr)∧szT P e=some sz∧rowAt w e sz hdr es.length xs∧Flat S sz es xs∧v.oneCell'=true∧
   ((lo=hi∧∃a,v= .slice a 0 0)∨∃g n c,hdr= .slice (some ⟨g,0,none⟩) n c∧lo<=hi∧hi<=c∧v= .slice (some ⟨g,lo*sz,none⟩) (hi-lo) (c-lo)):=by
 cases l with
 |view _ _ _ _ _ L ho j p=>
  have:=h.wh k j
  cases this with
  |arr _ _ _ sz hdr xs f how hf=>exact⟨sz,xs,hdr,j,f,how,hf,ho,(p ver e sz hdr rfl).2 rfl⟩
theorem xS{t:TypeId}{a:Bool}{n:Nat}(h:wy P t=some (a,n)):(∃d,P.underlying t=some d)∧szT P t=some n∧ue P t=a:=by
 unfold wy at h
 split at h<;>simp only [Option.some.injEq,Prod.mk.injEq,reduceCtorEq]at h
 rename_i d m c hm
 obtain⟨rfl,rfl⟩:=h
 exact⟨⟨d,c⟩,hm,rfl⟩
theorem AP{t:TypeId}{n:Nat}(hk:wy P t=some (true,n)){ad:Addr}{vs:List Value}(f:vs.length=n)(h:∀(j:Nat)v,vs[j]? =some v->w.cell? (ad.add j)=some v):
  (loadVar t ad).run P w= .ok (.agg vs.toArray) w:=by
 obtain⟨⟨d,c⟩,g,a⟩:=xS hk
 subst f
 simp only [loadVar,Sem.run_bind,wB t c,a,Result.andThen_ok,if_true,tQ g,run_loadCells_list w ad vs h,Sem.run_pure]
theorem xd{t:TypeId}{n:Nat}(hk:wy P t=some (false,n)){ad:Addr}{v:Value}(h:w.cell? ad=some v):
  (loadVar t ad).run P w= .ok v w:=by
 obtain⟨⟨d,c⟩,f,a⟩:=xS hk
 simp [loadVar,wB t c,a,h]
theorem AQ{t:TypeId}{cs:List PD}{b:tY}{v:RV}{u:Ups}{r:List Nat}(hp:wC P t cs b=some ((v,u),r,true)){ad:Addr}{f:Nat->Value}
  (hc:∀(j:Nat)c,cs[j]? =some c->w.cell? (ad.add j)=some (f j)) (y:∀(j:Nat)c,cs[j]? =some c->V S c (f j)):
  ∃v',(loadVar t ad).run P w= .ok v' w∧R S loc v v'∧u=[]:=by
 unfold wC at hp
 rcases hk:wy P t with _|⟨z,n⟩
 ·rw [hk]at hp;exact fE _ hp
 rw [hk]at hp
 cases z
 rotate_left
 ·obtain⟨h1,rfl,x⟩:=ua hp
  cases h1
  have B:n<=cs.length:=of_decide_eq_true x.symm
  refine⟨.agg ((EH n).map f).toArray,AP hk zb ?_,?_,rfl⟩
  ·intro j v a
   rw [List.getElem?_map]at a
   cases l:(EH n)[j]? with
   |none=>simp [l]at a
   |some k=>
    simp only [l,Option.map_some,Option.some.injEq]at a
    subst a
    obtain⟨g,he⟩:=List.getElem?_eq_some_iff.1 l
    simp at g he
    subst he
    exact hc j _ (ze za)
  ·refine .d (.agg _ _ so λi p v h1 q=>?_)
   rw [EG]at h1
   split at h1
   ·rename_i hi
    simp [hi]at q
    subst q
    exact y i p h1
   ·cases h1
 ·cases cs with
  |nil=>exact fE _ hp
  |cons c rest=>
   obtain⟨h1,rfl,x⟩:=tR hp
   cases h1
   refine⟨f 0,xd hk ?_,.d (y 0 c rfl),rfl⟩
   have:=hc 0 c rfl
   rwa [Addr.add_zero']at this
theorem CY{t:TypeId}{cs:List RV}{off:Nat}{b:tY}{v:RV}{u:Ups}{r:List Nat}(hp:wk P t cs off b=some ((v,u),r,true)){f:Nat}{vs:Array Value}{ty:TypeId}
  (hw:w.heap[f]? =some (.cells vs ty (0,0))) (z:vs.size=cs.length) (p:∀(i:Nat)c x,cs[i]? =some c->vs[i]? =some x->R S loc c x):
  ∃v',(loadVar t ⟨f,off,none⟩).run P w= .ok v' w∧R S loc v v'∧u=[]:=by
 have a:∀j,w.cell? ⟨f,j,none⟩=vs[j]? :=λj=>cell_of_row w f j vs ty (0,0) hw
 unfold wk at hp
 rcases hk:wy P t with _|⟨B,n⟩
 ·rw [hk]at hp;exact fE _ hp
 rw [hk]at hp
 cases B
 rotate_left
 ·obtain⟨h1,rfl,l⟩:=ua hp
  cases h1
  have C:off+n<=cs.length:=of_decide_eq_true l.symm
  refine⟨.agg ((vs.toList.drop off).take n).toArray,AP hk so ?_,?_,rfl⟩
  ·intro j v g
   rw [uC,a]
   rw [EG]at g
   split at g
   ·simpa using g
   ·cases g
  ·refine xe so λi c x h1 y=>?_
   rw [EG]at h1
   split at h1
   ·rename_i hi
    rw [EF]at h1
    refine p (off+i) c x h1 ?_
    simpa [EG,hi]using y
   ·cases h1
 ·cases hc:cs[off]? with
  |none=>simp only [hc]at hp;exact fE _ hp
  |some c=>
   simp only [hc]at hp
   obtain⟨h1,rfl,l⟩:=tR hp
   cases h1
   have k:off<vs.size:=by rw [z];exact(List.getElem?_eq_some_iff.1 hc).1
   have q:vs[off]? =some vs[off]:=Array.getElem?_eq_getElem k
   exact⟨vs[off],xd hk (by rw [a,q]),p off v _ hc q,rfl⟩
theorem AR{t:TypeId}{cs:List RV}{off:Nat}{b:tY}{v:RV}{u:Ups}{r:List Nat}(hp:wk P t cs off b=some ((v,u),r,true)){vs:Array Value}
  (y:vs.size=cs.length) (p:∀(i:Nat)c x,cs[i]? =some c->vs[i]? =some x->R S loc c x):
  ∃v',(part t vs off).run P w= .ok v' w∧R S loc v v'∧u=[]:=by
 unfold wk at hp
 rcases hk:wy P t with _|⟨z,n⟩
 ·rw [hk]at hp;exact fE _ hp
 rw [hk]at hp
 obtain⟨⟨d,l⟩,g,k⟩:=xS hk
 cases z
 rotate_left
 ·obtain⟨h1,rfl,j⟩:=ua hp
  cases h1
  have B:off+n<=cs.length:=of_decide_eq_true j.symm
  refine⟨.agg (vs.extract off (off+n)),by simp [part,wB t l,k,tQ g],?_,rfl⟩
  refine xe so λi c x h1 a=>?_
  rw [EG]at h1
  split at h1
  ·rename_i hi
   rw [EF]at h1
   refine p (off+i) c x h1 ?_
   rw [Array.getElem?_extract]at a
   split at a
   ·exact a
   ·cases a
  ·cases h1
 ·cases hc:cs[off]? with
  |none=>simp only [hc]at hp;exact fE _ hp
  |some c=>
   simp only [hc]at hp
   obtain⟨h1,rfl,j⟩:=tR hp
   cases h1
   have f:off<vs.size:=by rw [y];exact(List.getElem?_eq_some_iff.1 hc).1
   have q:vs[off]? =some vs[off]:=Array.getElem?_eq_getElem f
   refine⟨vs[off],?_,p off v _ hc q,rfl⟩
   simp [part,wB t l,k,q]
theorem yy(h:Sim P X S loc s tm w){t:TypeId}{x v:RV}{u:Ups}{r:List Nat}{T:Value}(y:wg P t x s.boxes=some ((v,u),r,true))(G:R S loc x T):
  ∃v',(Instr.loadAt t T).run P w= .ok v' w∧R S loc v v'∧u=[]:=by
 cases x with
 |cptr cs=>
  replace y:wC P t cs s.boxes=some ((v,u),r,true):=y
  cases G with
  |cptr _ b o f hS hV=>
   obtain⟨v',h1,q⟩:=AQ (P:=P) (S:=S) (loc:=loc) (w:=w) y (ad:=⟨b,o,none⟩) (f:=f) (λj c D=>by rw [uC];exact h.imm _ _ (hS j c D)) hV
   exact⟨v',by simpa [Instr.loadAt,Instr.sureAddr]using h1,q⟩
 |ptr id off=>
  obtain⟨J,r1,r2,h1,q,_⟩:=M.bind_some y
  obtain⟨I,_,_⟩:=M.get_some h1
  cases J with
  |var cs=>
   obtain⟨b,ty,vs,E,rfl,hw,hlen,O⟩:=h.Cx I G
   obtain⟨v',F,H⟩:=CY (P:=P) (S:=S) (loc:=loc) (w:=w) q hw hlen O
   exact⟨v',by simpa [Instr.loadAt,Instr.sureAddr]using F,H⟩
  |arr _ _ _=>exact fE _ q
  |dead=>exact fE _ q
  |nest _ _ _ _ _=>exact fE _ q
 |elt id ver i o=>
  obtain⟨J,r1,r2,h1,q,_⟩:=M.bind_some y
  obtain⟨I,_,_⟩:=M.get_some h1
  cases J with
  |arr B e es=>
   by_cases z:ver=B
   rotate_left
   ·simp only [z,if_false]at q;exact fE _ q
   simp only [z,if_true]at q
   subst z
   obtain⟨sz,xs,g,n,c,E,rfl,N,how,hf⟩:=h.Du I G
   cases C:es[i]? with
   |none=>simp only [C]at q;exact fE _ q
   |some el=>
    simp only [C]at q
    have l:=(how.wj (List.getElem?_eq_some_iff.1 C |>.1 |> EI (EK _))).cells (g:=g) rfl
    have key:∀(j:Nat)x,(el.cells.drop o)[j]? =some x->∃u,xs[i*sz+(o+j)]? =some u∧V S x u:=by
     intro j x D
     rw [EF]at D
     exact hf.cell i el (o+j) x C D
    obtain⟨v',F,H⟩:=AQ (P:=P) (S:=S) (loc:=loc) (w:=w) q (ad:=⟨g,i*sz+o,none⟩) (f:=λj=>xs.getD (i*sz+(o+j)) default)
     (λj c D => by
      obtain⟨u,hu,_⟩:=key j c D
      have:=l _ u hu
      rw [uC]at this⊢
      simp only [EJ]at this
      rw [show i*sz+o+j=i*sz+(o+j)from by omega,this]
      simp [hu])
     (λj c D => by
      obtain⟨u,hu,O⟩:=key j c D
      simpa [hu]using O)
    exact⟨v',by simpa [Instr.loadAt,Instr.sureAddr]using F,H⟩
  |var _=>exact fE _ q
  |dead=>exact fE _ q
  |nest B e e2 ess hh=>
   rcases hh with _|⟨j,rv⟩
   ·exact fE _ q
   by_cases hc:ver=B∧i=j∧o=0
   rotate_left
   ·simp only [if_neg hc]at q;exact fE _ q
   simp only [if_pos hc]at q
   obtain⟨rfl,rfl,rfl⟩:=hc
   rcases hk:wy P t with _|⟨_|_,n⟩
   ·simp only [hk]at q;exact fE _ q
   rotate_left
   ·simp only [hk]at q;exact fE _ q
   simp only [hk]at q
   obtain⟨F, -, -⟩:=M.tB q
   cases F
   obtain⟨xs,bs,k,g,n',c,E,rfl,N,a6,how,L,a5,K⟩:=h.D2 I G
   have hi:=K i v rfl
   obtain⟨v',b,W,bs2,H,Y,h6,h7⟩:=L.split (Bw (e2:=e2) (ess:=ess) (rv:=v) hi)
   cases h6 with
   |val _ _ hr h1=>
    have l:=(how.wj (EI (EK _) hi)).cells (g:=g) rfl i v' Y
    rw [uC]at l
    simp only [EJ]at l
    have:=xd (P:=P) (w:=w) hk (ad:=⟨g,i,none⟩) (v:=v') l
    exact⟨v',by simpa [Instr.loadAt,Instr.sureAddr]using this,hr,rfl⟩
 |d p=>exact fE s.boxes y
 |undef=>exact fE s.boxes y
 |junk=>exact fE s.boxes y
 |tC=>exact fE s.boxes y
 |agg cs=>exact fE s.boxes y
 |tup cs=>exact fE s.boxes y
 |ref a b=>exact fE s.boxes y
 |view a b c d=>exact fE s.boxes y
 |clo a b=>exact fE s.boxes y
 |err _=>exact fE s.boxes y
 |ifc _ _=>exact fE s.boxes y
 |plit _=>exact fE s.boxes y
 |pcp c=>
  rcases hk:wy P t with _|⟨_|_,n⟩
  ·simp only [wg,hk]at y;exact fE s.boxes y
  rotate_left
  ·simp only [wg,hk]at y;exact fE s.boxes y
  simp only [wg,hk]at y
  obtain⟨F, -, -⟩:=M.tB y
  cases F
  cases G with
  |pcp _ b o Q hS hV=>
   have:=xd (P:=P) (w:=w) hk (ad:=⟨b,o,none⟩) (v:=Q) (h.imm _ _ hS)
   exact⟨Q,by simpa [Instr.loadAt,Instr.sureAddr]using this,hV,rfl⟩
end
end Go.Dw
