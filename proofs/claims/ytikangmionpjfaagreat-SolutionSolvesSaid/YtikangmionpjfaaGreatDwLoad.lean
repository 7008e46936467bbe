
import Derived.Test.YtikangmionpjfaaGreatDwPure
open List renaming getElem?_drop->CA, getElem?_take->CB, range->CC
open Nat renaming lt_of_le_of_lt->CD, zero_add->CF, zero_le->CG

namespace Go.Dw
theorem qg(b o j:Nat):(⟨b,o,none⟩:Addr).add j=⟨b,o+j,none⟩:=by unfold Addr.add;split<;>simp_all
section
variable {P:Program}{X:Ctx}{S:pr}{loc:pY}{s:St}{tm:Array Value}{w:World}
theorem Sim.qW(h:Sim P X S loc s tm w){id:Nat}{a:Box}(g:s.boxes id=some a){L:Loc}(f:loc id=some L):ta P S loc w a L:=by
 obtain⟨j,h1,c⟩:=h.boxes id a g
 rw [f]at h1
 cases h1
 exact c
theorem Sim.zX(h:Sim P X S loc s tm w){id off:Nat}{cs:List RV}{v:Value}(f:s.boxes id=some (.var cs))(j:R S loc (.ptr id off) v):
  ∃b t vs,loc id=some (.var b)∧v= .pointer (some ⟨b,off,none⟩)∧w.heap[b]? =some (.cells vs t (0,0))∧vs.size=cs.length∧
   ∀(i:Nat)c u,cs[i]? =some c->vs[i]? =some u->R S loc c u:=by
 cases j with
 |ptr _ _ _ L _ a k=>
  have:=h.qW f a
  cases this with
  |var _ b t vs hw g hc=>exact⟨b,t,vs,a,(k b).1 rfl,hw,g,hc⟩
theorem Sim.tT(h:Sim P X S loc s tm w){id ver:Nat}{e:TypeId}{es:List PD}{v:Value}(f:s.boxes id=some (.arr ver e es))(g:R S loc (.ref id ver) v):
  ∃sz xs,loc id=some (.arr ver e sz v)∧szT P e=some sz∧rowAt w e sz v es.length xs∧Flat S sz es xs:=by
 cases g with
 |ref _ _ _ L _ c j=>
  have:=h.qW f c
  cases this with
  |arr _ _ _ sz hdr xs a how hf=>
   have:=(j ver e sz hdr .arr).2 rfl
   subst this
   exact⟨sz,xs,c,a,how,hf⟩
theorem Sim.A3(h:Sim P X S loc s tm w){id ver i o:Nat}{e:TypeId}{es:List PD}{v:Value}(k:s.boxes id=some (.arr ver e es))(l:R S loc (.elt id ver i o) v):
  ∃sz xs g n c,loc id=some (.arr ver e sz (.slice (some ⟨g,0,none⟩) n c))∧v= .pointer (some ⟨g,i*sz+o,none⟩)∧szT P e=some sz∧
   rowAt w e sz (.slice (some ⟨g,0,none⟩) n c) es.length xs∧Flat S sz es xs:=by
 cases l with
 |elt _ _ _ _ _ L _ f p=>
  have:=h.qW k f
  cases this with
  |arr _ _ _ sz hdr xs a how hf=>
   obtain⟨g,n,c,h1,j⟩:=(p ver e sz hdr .arr).2 rfl
   subst h1
   exact⟨sz,xs,g,n,c,f,j,a,how,hf⟩
theorem Sim.Bw(h:Sim P X S loc s tm w){id ver i o:Nat}{e:TypeId}{es:List PD}{rv:RV}{v:Value}(g:s.boxes id=some (.hole ver e es i o rv))(a:R S loc (.ref id ver) v):
  ∃sz xs u,loc id=some (.arr ver e sz v)∧szT P e=some sz∧rowAt w e sz v es.length xs∧xl S sz es xs i o∧i<es.length∧o<sz∧xs[i*sz+o]? =some u∧R S loc rv u:=by
 cases a with
 |ref _ _ _ L _ f j=>
  have:=h.qW g f
  cases this with
  |hole _ _ _ _ _ _ sz hdr xs u c how hf hi ho hu a=>
   have:=(j ver e sz hdr .arr).2 rfl
   subst this
   exact⟨sz,xs,u,f,c,how,hf,hi,ho,hu,a⟩
theorem Sim.zD(h:Sim P X S loc s tm w){id ver i o j q:Nat}{e:TypeId}{es:List PD}{rv:RV}{v:Value}(p:s.boxes id=some (.hole ver e es j q rv))(a:R S loc (.elt id ver i o) v):
  ∃sz xs u g n c,loc id=some (.arr ver e sz (.slice (some ⟨g,0,none⟩) n c))∧v= .pointer (some ⟨g,i*sz+o,none⟩)∧szT P e=some sz∧
   rowAt w e sz (.slice (some ⟨g,0,none⟩) n c) es.length xs∧xl S sz es xs j q∧j<es.length∧q<sz∧xs[j*sz+q]? =some u∧R S loc rv u:=by
 cases a with
 |elt _ _ _ _ _ L _ k r=>
  have:=h.qW p k
  cases this with
  |hole _ _ _ _ _ _ sz hdr xs u f how hf hi ho hu a=>
   obtain⟨g,n,c,h1,l⟩:=(r ver e sz hdr .arr).2 rfl
   subst h1
   exact⟨sz,xs,u,g,n,c,k,l,f,how,hf,hi,ho,hu,a⟩
theorem Sim.zN(h:Sim P X S loc s tm w){id ver:Nat}{e e2:TypeId}{ess:List (List PD)}{a:Option (Nat×RV)}{v:Value}(l:s.boxes id=some (.nest ver e e2 ess a))(p:R S loc (.ref id ver) v):
  ∃xs bs k,loc id=some (.nest ver e 1 v bs)∧szT P e=some 1∧szT P e2=some (k+1)∧rowAt w e 1 v ess.length xs∧NCs P S loc w (ncs e2 ess a) xs bs∧((pB v).toList++bs).Nodup∧∀i rv,a=some (i,rv)->i<ess.length:=by
 cases p with
 |ref _ _ _ L _ j q=>
  have:=h.qW l j
  cases this with
  |nest _ _ _ _ _ hdr xs bs g f how hc c hi=>
   have:=(q ver e 1 hdr .nest).2 rfl
   subst this
   obtain⟨k,hk⟩:=f
   exact⟨xs,bs,k,j,g,hk,how,hc,c,hi⟩
theorem Sim.BA(h:Sim P X S loc s tm w){id ver i o:Nat}{e e2:TypeId}{ess:List (List PD)}{a:Option (Nat×RV)}{v:Value}(r:s.boxes id=some (.nest ver e e2 ess a))(t:R S loc (.elt id ver i o) v):
  ∃xs bs k g n c,loc id=some (.nest ver e 1 (.slice (some ⟨g,0,none⟩) n c) bs)∧v= .pointer (some ⟨g,i+o,none⟩)∧szT P e=some 1∧szT P e2=some (k+1)∧
   rowAt w e 1 (.slice (some ⟨g,0,none⟩) n c) ess.length xs∧NCs P S loc w (ncs e2 ess a) xs bs∧((pB (.slice (some ⟨g,0,none⟩) n c)).toList++bs).Nodup∧∀i rv,a=some (i,rv)->i<ess.length:=by
 cases t with
 |elt _ _ _ _ _ L _ p u=>
  have:=h.qW r p
  cases this with
  |nest _ _ _ _ _ hdr xs bs l j how hc f hi=>
   obtain⟨g,n,c,h1,q⟩:=(u ver e 1 hdr .nest).2 rfl
   subst h1
   obtain⟨k,hk⟩:=j
   exact⟨xs,bs,k,g,n,c,p,by rw [q,Nat.mul_one],l,hk,how,hc,f,hi⟩
theorem Sim.wV(h:Sim P X S loc s tm w){id ver lo hi:Nat}{e:TypeId}{es:List PD}{v:Value}(k:s.boxes id=some (.arr ver e es))(l:R S loc (.view id ver lo hi) v):
  ∃sz xs hdr,loc id=some (.arr ver e sz hdr)∧szT P e=some sz∧rowAt w e sz hdr es.length xs∧Flat S sz es xs∧v.oneCell'=true∧
   ((lo=hi∧∃a,v= .slice a 0 0)∨∃g n c,hdr= .slice (some ⟨g,0,none⟩) n c∧lo<=hi∧hi<=c∧v= .slice (some ⟨g,lo*sz,none⟩) (hi-lo) (c-lo)):=by
 cases l with
 |view _ _ _ _ _ L ho j p=>
  have:=h.qW k j
  cases this with
  |arr _ _ _ sz hdr xs f how hf=>exact⟨sz,xs,hdr,j,f,how,hf,ho,(p ver e sz hdr rfl).2 rfl⟩
theorem uG{t:TypeId}{a:Bool}{n:Nat}(h:rY P t=some (a,n)):(∃d,P.underlying t=some d)∧szT P t=some n∧pW P t=a:=by
 unfold rY at h
 split at h<;>simp only [Option.some.injEq,Prod.mk.injEq,reduceCtorEq]at h
 rename_i d m c hm
 obtain⟨rfl,rfl⟩:=h
 exact⟨⟨d,c⟩,hm,rfl⟩
theorem xz{t:TypeId}{n:Nat}(hk:rY P t=some (true,n)){ad:Addr}{vs:List Value}(f:vs.length=n)(h:∀(j:Nat)v,vs[j]? =some v->w.cell? (ad.add j)=some v):
  (loadVar t ad).run P w= .ok (.agg vs.toArray) w:=by
 obtain⟨⟨d,c⟩,g,a⟩:=uG hk
 subst f
 simp only [loadVar,Sem.run_bind,sj t c,a,Result.andThen_ok,if_true,pC g,run_loadCells_list w ad vs h,Sem.run_pure]
theorem sI{t:TypeId}{n:Nat}(hk:rY P t=some (false,n)){ad:Addr}{v:Value}(h:w.cell? ad=some v):
  (loadVar t ad).run P w= .ok v w:=by
 obtain⟨⟨d,c⟩,f,a⟩:=uG hk
 simp [loadVar,sj t c,a,h]
theorem xA{t:TypeId}{cs:List PD}{b:pP}{v:RV}{u:Ups}{r:List Nat}(hp:sa P t cs b=some ((v,u),r,true)){ad:Addr}{f:Nat->Value}
  (hc:∀(j:Nat)c,cs[j]? =some c->w.cell? (ad.add j)=some (f j)) (y:∀(j:Nat)c,cs[j]? =some c->V S c (f j)):
  ∃v',(loadVar t ad).run P w= .ok v' w∧R S loc v v'∧u=[]:=by
 unfold sa at hp
 rcases hk:rY P t with _|⟨z,n⟩
 ·rw [hk]at hp;exact fE _ hp
 rw [hk]at hp
 cases z
 rotate_left
 ·obtain⟨h1,rfl,x⟩:=pQ hp
  cases h1
  have B:n<=cs.length:=of_decide_eq_true x.symm
  refine⟨.agg ((CC n).map f).toArray,xz hk sm ?_,?_,rfl⟩
  ·intro j v a
   rw [List.getElem?_map]at a
   cases l:(CC n)[j]? with
   |none=>simp [l]at a
   |some k=>
    simp only [l,Option.map_some,Option.some.injEq]at a
    subst a
    obtain⟨g,he⟩:=List.getElem?_eq_some_iff.1 l
    simp at g he
    subst he
    exact hc j _ (zd za)
  ·refine .d (.agg _ _ so fun i p v h1 q=>?_)
   rw [CB]at h1
   split at h1
   ·rename_i hi
    simp [hi]at q
    subst q
    exact y i p h1
   ·cases h1
 ·cases cs with
  |nil=>exact fE _ hp
  |cons c rest=>
   obtain⟨h1,rfl,x⟩:=pw hp
   cases h1
   refine⟨f 0,sI hk ?_,.d (y 0 c rfl),rfl⟩
   have:=hc 0 c rfl
   rwa [Addr.add_zero']at this
theorem AD{t:TypeId}{cs:List RV}{off:Nat}{b:pP}{v:RV}{u:Ups}{r:List Nat}(hp:sd P t cs off b=some ((v,u),r,true)){f:Nat}{vs:Array Value}{ty:TypeId}
  (hw:w.heap[f]? =some (.cells vs ty (0,0))) (z:vs.size=cs.length) (p:∀(i:Nat)c x,cs[i]? =some c->vs[i]? =some x->R S loc c x):
  ∃v',(loadVar t ⟨f,off,none⟩).run P w= .ok v' w∧R S loc v v'∧u=[]:=by
 have a:∀j,w.cell? ⟨f,j,none⟩=vs[j]? :=fun j=>cell_of_row w f j vs ty (0,0) hw
 unfold sd at hp
 rcases hk:rY P t with _|⟨B,n⟩
 ·rw [hk]at hp;exact fE _ hp
 rw [hk]at hp
 cases B
 rotate_left
 ·obtain⟨h1,rfl,l⟩:=pQ hp
  cases h1
  have C:off+n<=cs.length:=of_decide_eq_true l.symm
  refine⟨.agg ((vs.toList.drop off).take n).toArray,xz hk so ?_,?_,rfl⟩
  ·intro j v g
   rw [qg,a]
   rw [CB]at g
   split at g
   ·simpa using g
   ·cases g
  ·refine tM so fun i c x h1 y=>?_
   rw [CB]at h1
   split at h1
   ·rename_i hi
    rw [CA]at h1
    refine p (off+i) c x h1 ?_
    simpa [CB,hi]using y
   ·cases h1
 ·cases hc:cs[off]? with
  |none=>simp only [hc]at hp;exact fE _ hp
  |some c=>
   simp only [hc]at hp
   obtain⟨h1,rfl,l⟩:=pw hp
   cases h1
   have k:off<vs.size:=by rw [z];exact(List.getElem?_eq_some_iff.1 hc).1
   have q:vs[off]? =some vs[off]:=Array.getElem?_eq_getElem k
   exact⟨vs[off],sI hk (by rw [a,q]),p off v _ hc q,rfl⟩
theorem xB{t:TypeId}{cs:List RV}{off:Nat}{b:pP}{v:RV}{u:Ups}{r:List Nat}(hp:sd P t cs off b=some ((v,u),r,true)){vs:Array Value}
  (y:vs.size=cs.length) (p:∀(i:Nat)c x,cs[i]? =some c->vs[i]? =some x->R S loc c x):
  ∃v',(part t vs off).run P w= .ok v' w∧R S loc v v'∧u=[]:=by
 unfold sd at hp
 rcases hk:rY P t with _|⟨z,n⟩
 ·rw [hk]at hp;exact fE _ hp
 rw [hk]at hp
 obtain⟨⟨d,l⟩,g,k⟩:=uG hk
 cases z
 rotate_left
 ·obtain⟨h1,rfl,j⟩:=pQ hp
  cases h1
  have B:off+n<=cs.length:=of_decide_eq_true j.symm
  refine⟨.agg (vs.extract off (off+n)),by simp [part,sj t l,k,pC g],?_,rfl⟩
  refine tM so fun i c x h1 a=>?_
  rw [CB]at h1
  split at h1
  ·rename_i hi
   rw [CA]at h1
   refine p (off+i) c x h1 ?_
   rw [Array.getElem?_extract]at a
   split at a
   ·exact a
   ·cases a
  ·cases h1
 ·cases hc:cs[off]? with
  |none=>simp only [hc]at hp;exact fE _ hp
  |some c=>
   simp only [hc]at hp
   obtain⟨h1,rfl,j⟩:=pw hp
   cases h1
   have f:off<vs.size:=by rw [y];exact(List.getElem?_eq_some_iff.1 hc).1
   have q:vs[off]? =some vs[off]:=Array.getElem?_eq_getElem f
   refine⟨vs[off],?_,p off v _ hc q,rfl⟩
   simp [part,sj t l,k,q]
theorem vq(h:Sim P X S loc s tm w){t:TypeId}{x v:RV}{u:Ups}{r:List Nat}{Y:Value}(z:si P t x s.boxes=some ((v,u),r,true))(H:R S loc x Y):
  ∃v',(Instr.loadAt t Y).run P w= .ok v' w∧R S loc v v'∧u=[]:=by
 cases x with
 |cptr cs=>
  replace z:sa P t cs s.boxes=some ((v,u),r,true):=z
  cases H with
  |cptr _ b o f hS hV=>
   obtain⟨v',h1,y⟩:=xA (P:=P) (S:=S) (loc:=loc) (w:=w) z (ad:=⟨b,o,none⟩) (f:=f) (fun j c G=>by rw [qg];exact h.imm _ _ (hS j c G)) hV
   exact⟨v',by simpa [Instr.loadAt,Instr.sureAddr]using h1,y⟩
 |ptr id off=>
  obtain⟨L,r1,r2,h1,y,_⟩:=M.bind_some z
  obtain⟨I,_,_⟩:=M.get_some h1
  cases L with
  |var cs=>
   obtain⟨b,ty,vs,C,rfl,hw,hlen,T⟩:=h.zX I H
   obtain⟨v',E,K⟩:=AD (P:=P) (S:=S) (loc:=loc) (w:=w) y hw hlen T
   exact⟨v',by simpa [Instr.loadAt,Instr.sureAddr]using E,K⟩
  |arr _ _ _=>exact fE _ y
  |dead=>exact fE _ y
  |map _ _ _=>exact fE _ y
  |nest _ _ _ _ _=>exact fE _ y
  |hole _ _ _ _ _ _=>exact fE _ y
 |elt id ver i o=>
  obtain⟨L,r1,r2,h1,y,_⟩:=M.bind_some z
  obtain⟨I,_,_⟩:=M.get_some h1
  cases L with
  |arr B e es=>
   by_cases D:ver=B
   rotate_left
   ·simp only [D,if_false]at y;exact fE _ y
   simp only [D,if_true]at y
   subst D
   obtain⟨sz,xs,g,n,c,C,rfl,J,how,hf⟩:=h.A3 I H
   cases F:es[i]? with
   |none=>simp only [F]at y;exact fE _ y
   |some el=>
    simp only [F]at y
    have l:=(how.rz (List.getElem?_eq_some_iff.1 F |>.1 |> CD (CG _))).cells (g:=g) rfl
    have key:∀(j:Nat)x,(el.cells.drop o)[j]? =some x->∃u,xs[i*sz+(o+j)]? =some u∧V S x u:=by
     intro j x G
     rw [CA]at G
     exact hf.cell i el (o+j) x F G
    obtain⟨v',E,K⟩:=xA (P:=P) (S:=S) (loc:=loc) (w:=w) y (ad:=⟨g,i*sz+o,none⟩) (f:=fun j=>xs.getD (i*sz+(o+j)) default)
     (fun j c G => by
      obtain⟨u,hu,_⟩:=key j c G
      have:=l _ u hu
      rw [qg]at this⊢
      simp only [CF]at this
      rw [show i*sz+o+j=i*sz+(o+j)from by omega,this]
      simp [hu])
     (fun j c G => by
      obtain⟨u,hu,T⟩:=key j c G
      simpa [hu]using T)
    exact⟨v',by simpa [Instr.loadAt,Instr.sureAddr]using E,K⟩
  |var _=>exact fE _ y
  |dead=>exact fE _ y
  |map _ _ _=>exact fE _ y
  |hole B e es j q rv=>
   by_cases hc:ver=B∧i=j∧o=q
   rotate_left
   ·simp only [if_neg hc]at y;exact fE _ y
   simp only [if_pos hc]at y
   obtain⟨rfl,rfl,rfl⟩:=hc
   rcases hk:rY P t with _|⟨_|_,n⟩
   ·simp only [hk]at y;exact fE _ y
   rotate_left
   ·simp only [hk]at y;exact fE _ y
   simp only [hk]at y
   obtain⟨E, -, -⟩:=M.pj y
   cases E
   obtain⟨sz,xs,u,g,n',c,C,rfl,J,how,hf,hi,ho,hu,Q⟩:=h.zD I H
   have l:=(how.rz (CD (CG _) hi)).cells (g:=g) rfl _ u hu
   rw [qg]at l
   simp only [CF]at l
   have:=sI (P:=P) (w:=w) hk (ad:=⟨g,i*sz+o,none⟩) (v:=u) l
   exact⟨u,by simpa [Instr.loadAt,Instr.sureAddr]using this,Q,rfl⟩
  |nest B e e2 ess hh=>
   rcases hh with _|⟨j,rv⟩
   ·exact fE _ y
   by_cases hc:ver=B∧i=j∧o=0
   rotate_left
   ·simp only [if_neg hc]at y;exact fE _ y
   simp only [if_pos hc]at y
   obtain⟨rfl,rfl,rfl⟩:=hc
   rcases hk:rY P t with _|⟨_|_,n⟩
   ·simp only [hk]at y;exact fE _ y
   rotate_left
   ·simp only [hk]at y;exact fE _ y
   simp only [hk]at y
   obtain⟨E, -, -⟩:=M.pj y
   cases E
   obtain⟨xs,bs,k,g,n',c,C,rfl,J,a7,how,O,a6,N⟩:=h.BA I H
   have hi:=N i v rfl
   obtain⟨v',b,a5,bs2,K,h5,h6,h7⟩:=O.split (yy (e2:=e2) (ess:=ess) (rv:=v) hi)
   cases h6 with
   |val _ _ Q h1=>
    have l:=(how.rz (CD (CG _) hi)).cells (g:=g) rfl i v' h5
    rw [qg]at l
    simp only [CF]at l
    have:=sI (P:=P) (w:=w) hk (ad:=⟨g,i,none⟩) (v:=v') l
    exact⟨v',by simpa [Instr.loadAt,Instr.sureAddr]using this,Q,rfl⟩
 |d p=>exact fE s.boxes z
 |undef=>exact fE s.boxes z
 |junk=>exact fE s.boxes z
 |px=>exact fE s.boxes z
 |agg cs=>exact fE s.boxes z
 |tup cs=>exact fE s.boxes z
 |ref a b=>exact fE s.boxes z
 |view a b c d=>exact fE s.boxes z
 |clo a b=>exact fE s.boxes z
 |fview _ _ _=>exact fE s.boxes z
 |err _=>exact fE s.boxes z
 |dfull _=>exact fE s.boxes z
 |ifc _ _=>exact fE s.boxes z
 |plit _=>exact fE s.boxes z
 |pcp c=>
  rcases hk:rY P t with _|⟨_|_,n⟩
  ·simp only [si,hk]at z;exact fE s.boxes z
  rotate_left
  ·simp only [si,hk]at z;exact fE s.boxes z
  simp only [si,hk]at z
  obtain⟨E, -, -⟩:=M.pj z
  cases E
  cases H with
  |pcp _ b o W hS hV=>
   have:=sI (P:=P) (w:=w) hk (ad:=⟨b,o,none⟩) (v:=W) (h.imm _ _ hS)
   exact⟨W,by simpa [Instr.loadAt,Instr.sureAddr]using this,hV,rfl⟩
end
end Go.Dw
