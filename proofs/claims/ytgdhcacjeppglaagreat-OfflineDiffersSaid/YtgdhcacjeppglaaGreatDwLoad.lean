
import Derived.Test.YtgdhcacjeppglaaGreatDwPure
open List renaming getElem?_drop->AG, getElem?_take->AH, range->AI
open Nat renaming lt_of_le_of_lt->AJ, zero_add->AK, zero_le->AL

namespace Go.Dw
theorem cV(b o j:Nat):(⟨b,o,none⟩:Addr).add j=⟨b,o+j,none⟩:=by unfold Addr.add;split<;>simp_all
section
variable {P:Program}{X:Ctx}{S:cp}{loc:cJ}{s:St}{tm:Array Value}{w:World}
theorem Sim.dq(h:Sim P X S loc s tm w){id:Nat}{a:Box}(hb:s.boxes id=some a){L:Loc}(c:loc id=some L):eh P S loc w a L:=by
 obtain⟨e,h1,b⟩:=h.boxes id a hb
 rw [c]at h1
 cases h1
 exact b
theorem Sim.l8(h:Sim P X S loc s tm w){id off:Nat}{cs:List RV}{v:Value}(hb:s.boxes id=some (.var cs))(e:R S loc (.ptr id off) v):
  ∃b t vs,loc id=some (.var b)∧v= .pointer (some ⟨b,off,none⟩)∧w.heap[b]? =some (.cells vs t (0,0))∧vs.size=cs.length∧
   ∀(i:Nat)c u,cs[i]? =some c->vs[i]? =some u->R S loc c u:=by
 cases e with
 |ptr _ _ _ L _ a f=>
  have:=h.dq hb a
  cases this with
  |var _ b t vs hw hl hc=>exact⟨b,t,vs,a,(f b).1 rfl,hw,hl,hc⟩
theorem Sim.fm(h:Sim P X S loc s tm w){id ver:Nat}{e:TypeId}{es:List PD}{v:Value}(hb:s.boxes id=some (.arr ver e es))(b:R S loc (.ref id ver) v):
  ∃sz xs,loc id=some (.arr ver e sz v)∧szT P e=some sz∧rowAt w e sz v es.length xs∧Flat S sz es xs:=by
 cases b with
 |ref _ _ _ L _ a c=>
  have:=h.dq hb a
  cases this with
  |arr _ _ _ sz hdr xs hsz how hf=>
   have:=(c ver e sz hdr .arr).2 rfl
   subst this
   exact⟨sz,xs,a,hsz,how,hf⟩
theorem Sim.nk(h:Sim P X S loc s tm w){id ver i o:Nat}{e:TypeId}{es:List PD}{v:Value}(hb:s.boxes id=some (.arr ver e es))(f:R S loc (.elt id ver i o) v):
  ∃sz xs g n c,loc id=some (.arr ver e sz (.slice (some ⟨g,0,none⟩) n c))∧v= .pointer (some ⟨g,i*sz+o,none⟩)∧szT P e=some sz∧
   rowAt w e sz (.slice (some ⟨g,0,none⟩) n c) es.length xs∧Flat S sz es xs:=by
 cases f with
 |elt _ _ _ _ _ L _ a j=>
  have:=h.dq hb a
  cases this with
  |arr _ _ _ sz hdr xs hsz how hf=>
   obtain⟨g,n,c,h1,b⟩:=(j ver e sz hdr .arr).2 rfl
   subst h1
   exact⟨sz,xs,g,n,c,a,b,hsz,how,hf⟩
theorem Sim.nT(h:Sim P X S loc s tm w){id ver i o:Nat}{e:TypeId}{es:List PD}{rv:RV}{v:Value}(hb:s.boxes id=some (.hole ver e es i o rv))(a:R S loc (.ref id ver) v):
  ∃sz xs u,loc id=some (.arr ver e sz v)∧szT P e=some sz∧rowAt w e sz v es.length xs∧jt S sz es xs i o∧i<es.length∧o<sz∧xs[i*sz+o]? =some u∧R S loc rv u:=by
 cases a with
 |ref _ _ _ L _ b f=>
  have:=h.dq hb b
  cases this with
  |hole _ _ _ _ _ _ sz hdr xs u hsz how hf c ho hu a=>
   have:=(f ver e sz hdr .arr).2 rfl
   subst this
   exact⟨sz,xs,u,b,hsz,how,hf,c,ho,hu,a⟩
theorem Sim.lJ(h:Sim P X S loc s tm w){id ver i o j q:Nat}{e:TypeId}{es:List PD}{rv:RV}{v:Value}(hb:s.boxes id=some (.hole ver e es j q rv))(a:R S loc (.elt id ver i o) v):
  ∃sz xs u g n c,loc id=some (.arr ver e sz (.slice (some ⟨g,0,none⟩) n c))∧v= .pointer (some ⟨g,i*sz+o,none⟩)∧szT P e=some sz∧
   rowAt w e sz (.slice (some ⟨g,0,none⟩) n c) es.length xs∧jt S sz es xs j q∧j<es.length∧q<sz∧xs[j*sz+q]? =some u∧R S loc rv u:=by
 cases a with
 |elt _ _ _ _ _ L _ b l=>
  have:=h.dq hb b
  cases this with
  |hole _ _ _ _ _ _ sz hdr xs u hsz how hf k ho hu a=>
   obtain⟨g,n,c,h1,f⟩:=(l ver e sz hdr .arr).2 rfl
   subst h1
   exact⟨sz,xs,u,g,n,c,b,f,hsz,how,hf,k,ho,hu,a⟩
theorem Sim.lD(h:Sim P X S loc s tm w){id ver o:Nat}{e e2:TypeId}{es:List PD}{ts:List (Nat×TypeId)}{c:Option (Nat×RV)}{v:Value}(hb:s.boxes id=some (.deep ver e es o e2 ts c))(f:R S loc (.ref id ver) v):
  ∃sz xs bs a,loc id=some (.nest ver e sz v bs)∧fO P S loc w e es o e2 ts c sz v xs bs a:=by
 cases f with
 |ref _ _ _ L _ b g=>
  have:=h.dq hb b
  cases this with
  |deep _ _ _ _ _ _ _ sz hdr xs bs a hd=>
   have:=(g ver e sz hdr .nest).2 rfl
   subst this
   exact⟨sz,xs,bs,a,b,hd⟩
theorem Sim.lE(h:Sim P X S loc s tm w){id ver i q o:Nat}{e e2:TypeId}{es:List PD}{ts:List (Nat×TypeId)}{f:Option (Nat×RV)}{v:Value}(hb:s.boxes id=some (.deep ver e es o e2 ts f))(k:R S loc (.elt id ver i q) v):
  ∃sz xs bs a g n c,loc id=some (.nest ver e sz (.slice (some ⟨g,0,none⟩) n c) bs)∧v= .pointer (some ⟨g,i*sz+q,none⟩)∧fO P S loc w e es o e2 ts f sz (.slice (some ⟨g,0,none⟩) n c) xs bs a:=by
 cases k with
 |elt _ _ _ _ _ L _ b l=>
  have:=h.dq hb b
  cases this with
  |deep _ _ _ _ _ _ _ sz hdr xs bs a hd=>
   obtain⟨g,n,c,h1,j⟩:=(l ver e sz hdr .nest).2 rfl
   subst h1
   exact⟨sz,xs,bs,a,g,n,c,b,j,hd⟩
theorem Sim.lT(h:Sim P X S loc s tm w){id ver:Nat}{e e2:TypeId}{ess:List (List PD)}{a:Option (Nat×RV)}{v:Value}(hb:s.boxes id=some (.nest ver e e2 ess a))(j:R S loc (.ref id ver) v):
  ∃xs bs k,loc id=some (.nest ver e 1 v bs)∧szT P e=some 1∧szT P e2=some (k+1)∧rowAt w e 1 v ess.length xs∧NCs P S loc w (ncs e2 ess a) xs bs∧((cA v).toList++bs).Nodup∧∀i rv,a=some (i,rv)->i<ess.length:=by
 cases j with
 |ref _ _ _ L _ f l=>
  have:=h.dq hb f
  cases this with
  |nest _ _ _ _ _ hdr xs bs hsz c how hc b g=>
   have:=(l ver e 1 hdr .nest).2 rfl
   subst this
   obtain⟨k,hk⟩:=c
   exact⟨xs,bs,k,f,hsz,hk,how,hc,b,g⟩
theorem Sim.nX(h:Sim P X S loc s tm w){id ver i o:Nat}{e e2:TypeId}{ess:List (List PD)}{a:Option (Nat×RV)}{v:Value}(hb:s.boxes id=some (.nest ver e e2 ess a))(p:R S loc (.elt id ver i o) v):
  ∃xs bs k g n c,loc id=some (.nest ver e 1 (.slice (some ⟨g,0,none⟩) n c) bs)∧v= .pointer (some ⟨g,i+o,none⟩)∧szT P e=some 1∧szT P e2=some (k+1)∧
   rowAt w e 1 (.slice (some ⟨g,0,none⟩) n c) ess.length xs∧NCs P S loc w (ncs e2 ess a) xs bs∧((cA (.slice (some ⟨g,0,none⟩) n c)).toList++bs).Nodup∧∀i rv,a=some (i,rv)->i<ess.length:=by
 cases p with
 |elt _ _ _ _ _ L _ j q=>
  have:=h.dq hb j
  cases this with
  |nest _ _ _ _ _ hdr xs bs hsz f how hc b m=>
   obtain⟨g,n,c,h1,l⟩:=(q ver e 1 hdr .nest).2 rfl
   subst h1
   obtain⟨k,hk⟩:=f
   exact⟨xs,bs,k,g,n,c,j,by rw [l,Nat.mul_one],hsz,hk,how,hc,b,m⟩
theorem Sim.iW(h:Sim P X S loc s tm w){id ver b f:Nat}{e:TypeId}{es:List PD}{v:Value}(hb:s.boxes id=some (.arr ver e es))(j:R S loc (.view id ver b f) v):
  ∃sz xs hdr,loc id=some (.arr ver e sz hdr)∧szT P e=some sz∧rowAt w e sz hdr es.length xs∧Flat S sz es xs∧v.oneCell'=true∧
   ((b=f∧∃a,v= .slice a 0 0)∨∃g n c,hdr= .slice (some ⟨g,0,none⟩) n c∧b<=f∧f<=c∧v= .slice (some ⟨g,b*sz,none⟩) (f-b) (c-b)):=by
 cases j with
 |view _ _ _ _ _ L ho i k=>
  have:=h.dq hb i
  cases this with
  |arr _ _ _ sz hdr xs hsz how hf=>exact⟨sz,xs,hdr,i,hsz,how,hf,ho,(k ver e sz hdr .arr).2 rfl⟩
theorem gl{t:TypeId}{a:Bool}{n:Nat}(h:dQ P t=some (a,n)):(∃d,P.underlying t=some d)∧szT P t=some n∧cM P t=a:=by
 unfold dQ at h
 split at h<;>simp only [Option.some.injEq,Prod.mk.injEq,reduceCtorEq]at h
 rename_i d m hd hm
 obtain⟨rfl,rfl⟩:=h
 exact⟨⟨d,hd⟩,hm,rfl⟩
theorem jI{t:TypeId}{n:Nat}(hk:dQ P t=some (true,n)){ad:Addr}{vs:List Value}(hl:vs.length=n)(h:∀(j:Nat)v,vs[j]? =some v->w.cell? (ad.add j)=some v):
  (loadVar t ad).run P w= .ok (.agg vs.toArray) w:=by
 obtain⟨⟨d,hd⟩,b,a⟩:=gl hk
 subst hl
 simp only [loadVar,Sem.run_bind,eC t hd,a,Result.andThen_ok,if_true,ct b,run_loadCells_list w ad vs h,Sem.run_pure]
theorem eb{t:TypeId}{n:Nat}(hk:dQ P t=some (false,n)){ad:Addr}{v:Value}(h:w.cell? ad=some v):
  (loadVar t ad).run P w= .ok v w:=by
 obtain⟨⟨d,hd⟩,b,a⟩:=gl hk
 simp [loadVar,eC t hd,a,h]
theorem gR{t:TypeId}{cs:List PD}{b:cI}{v:RV}{u:Ups}{r:List Nat}(a:ep P t cs b=some ((v,u),r,true)){ad:Addr}{f:Nat->Value}
  (hc:∀(j:Nat)c,cs[j]? =some c->w.cell? (ad.add j)=some (f j)) (q:∀(j:Nat)c,cs[j]? =some c->V S c (f j)):
  ∃v',(loadVar t ad).run P w= .ok v' w∧R S loc v v'∧u=[]:=by
 unfold ep at a
 rcases hk:dQ P t with _|⟨y,n⟩
 ·rw [hk]at a;exact fE _ a
 rw [hk]at a
 cases y
 rotate_left
 ·obtain⟨h1,rfl,o⟩:=cy a
  cases h1
  have z:n<=cs.length:=of_decide_eq_true o.symm
  refine⟨.agg ((AI n).map f).toArray,jI hk sm ?_,?_,rfl⟩
  ·intro j v e
   rw [List.getElem?_map]at e
   cases l:(AI n)[j]? with
   |none=>simp [l]at e
   |some k=>
    simp only [l,Option.map_some,Option.some.injEq]at e
    subst e
    obtain⟨g,he⟩:=List.getElem?_eq_some_iff.1 l
    simp at g he
    subst he
    exact hc j _ (zc om)
  ·refine .d (.agg _ _ so fun i p v h1 m=>?_)
   rw [AH]at h1
   split at h1
   ·rename_i x
    simp [x]at m
    subst m
    exact q i p h1
   ·cases h1
 ·cases cs with
  |nil=>exact fE _ a
  |cons c rest=>
   obtain⟨h1,rfl,o⟩:=ch a
   cases h1
   refine⟨f 0,eb hk ?_,.d (q 0 c rfl),rfl⟩
   have:=hc 0 c rfl
   rwa [Addr.add_zero']at this
theorem mF{t:TypeId}{cs:List RV}{off:Nat}{b:cI}{v:RV}{u:Ups}{r:List Nat}(e:er P t cs off b=some ((v,u),r,true)){f:Nat}{vs:Array Value}{ty:TypeId}
  (hw:w.heap[f]? =some (.cells vs ty (0,0))) (hl:vs.size=cs.length) (m:∀(i:Nat)c x,cs[i]? =some c->vs[i]? =some x->R S loc c x):
  ∃v',(loadVar t ⟨f,off,none⟩).run P w= .ok v' w∧R S loc v v'∧u=[]:=by
 have a:∀j,w.cell? ⟨f,j,none⟩=vs[j]? :=fun j=>cell_of_row w f j vs ty (0,0) hw
 unfold er at e
 rcases hk:dQ P t with _|⟨y,n⟩
 ·rw [hk]at e;exact fE _ e
 rw [hk]at e
 cases y
 rotate_left
 ·obtain⟨h1,rfl,l⟩:=cy e
  cases h1
  have z:off+n<=cs.length:=of_decide_eq_true l.symm
  refine⟨.agg ((vs.toList.drop off).take n).toArray,jI hk so ?_,?_,rfl⟩
  ·intro j v g
   rw [cV,a]
   rw [AH]at g
   split at g
   ·simpa using g
   ·cases g
  ·refine fC so fun i c x h1 p=>?_
   rw [AH]at h1
   split at h1
   ·rename_i q
    rw [AG]at h1
    refine m (off+i) c x h1 ?_
    simpa [AH,q]using p
   ·cases h1
 ·cases hc:cs[off]? with
  |none=>simp only [hc]at e;exact fE _ e
  |some c=>
   simp only [hc]at e
   obtain⟨h1,rfl,l⟩:=ch e
   cases h1
   have k:off<vs.size:=by rw [hl];exact(List.getElem?_eq_some_iff.1 hc).1
   have o:vs[off]? =some vs[off]:=Array.getElem?_eq_getElem k
   exact⟨vs[off],eb hk (by rw [a,o]),m off v _ hc o,rfl⟩
theorem jK{t:TypeId}{cs:List RV}{off:Nat}{b:cI}{v:RV}{u:Ups}{r:List Nat}(a:er P t cs off b=some ((v,u),r,true)){vs:Array Value}
  (hl:vs.size=cs.length) (k:∀(i:Nat)c x,cs[i]? =some c->vs[i]? =some x->R S loc c x):
  ∃v',(part t vs off).run P w= .ok v' w∧R S loc v v'∧u=[]:=by
 unfold er at a
 rcases hk:dQ P t with _|⟨m,n⟩
 ·rw [hk]at a;exact fE _ a
 rw [hk]at a
 obtain⟨⟨d,hd⟩,hsz,j⟩:=gl hk
 cases m
 rotate_left
 ·obtain⟨h1,rfl,g⟩:=cy a
  cases h1
  have p:off+n<=cs.length:=of_decide_eq_true g.symm
  refine⟨.agg (vs.extract off (off+n)),by simp [part,eC t hd,j,ct hsz],?_,rfl⟩
  refine fC so fun i c x h1 e=>?_
  rw [AH]at h1
  split at h1
  ·rename_i o
   rw [AG]at h1
   refine k (off+i) c x h1 ?_
   rw [Array.getElem?_extract]at e
   split at e
   ·exact e
   ·cases e
  ·cases h1
 ·cases hc:cs[off]? with
  |none=>simp only [hc]at a;exact fE _ a
  |some c=>
   simp only [hc]at a
   obtain⟨h1,rfl,g⟩:=ch a
   cases h1
   have f:off<vs.size:=by rw [hl];exact(List.getElem?_eq_some_iff.1 hc).1
   have l:vs[off]? =some vs[off]:=Array.getElem?_eq_getElem f
   refine⟨vs[off],?_,k off v _ hc l,rfl⟩
   simp [part,eC t hd,j,l]
theorem gO(h:Sim P X S loc s tm w){t:TypeId}{x v:RV}{u:Ups}{r:List Nat}{vx:Value}(hl:e7 P t x s.boxes=some ((v,u),r,true))(G:R S loc x vx):
  ∃v',(Instr.loadAt t vx).run P w= .ok v' w∧R S loc v v'∧u=[]:=by
 cases x with
 |cptr cs=>
  replace hl:ep P t cs s.boxes=some ((v,u),r,true):=hl
  cases G with
  |cptr _ b o f hS hV=>
   obtain⟨v',h1,m⟩:=gR (P:=P) (S:=S) (loc:=loc) (w:=w) hl (ad:=⟨b,o,none⟩) (f:=f) (fun j c C=>by rw [cV];exact h.imm _ _ (hS j c C)) hV
   exact⟨v',by simpa [Instr.loadAt,Instr.sureAddr]using h1,m⟩
 |ptr id off=>
  obtain⟨O,r1,r2,h1,m,_⟩:=M.bind_some hl
  obtain⟨hb,_,_⟩:=M.get_some h1
  cases O with
  |var cs=>
   obtain⟨b,ty,vs,D,rfl,hw,hlen,L⟩:=h.l8 hb G
   obtain⟨v',E,H⟩:=mF (P:=P) (S:=S) (loc:=loc) (w:=w) m hw hlen L
   exact⟨v',by simpa [Instr.loadAt,Instr.sureAddr]using E,H⟩
  |arr _ _ _=>exact fE _ m
  |dead=>exact fE _ m
  |map _ _ _=>exact fE _ m
  |nest _ _ _ _ _=>exact fE _ m
  |mapn _ _ _ _ _=>exact fE _ m
  |hole _ _ _ _ _ _=>exact fE _ m
  |deep _ _ _ _ _ _ _=>exact fE _ m
 |elt id ver i o=>
  obtain⟨O,r1,r2,h1,m,_⟩:=M.bind_some hl
  obtain⟨hb,_,_⟩:=M.get_some h1
  cases O with
  |arr z e es=>
   by_cases y:ver=z
   rotate_left
   ·simp only [y,if_false]at m;exact fE _ m
   simp only [y,if_true]at m
   subst y
   obtain⟨sz,xs,g,n,c,D,rfl,hsz,how,hf⟩:=h.nk hb G
   cases B:es[i]? with
   |none=>simp only [B]at m;exact fE _ m
   |some el=>
    simp only [B]at m
    have l:=(how.fw (List.getElem?_eq_some_iff.1 B |>.1 |> AJ (AL _))).cells (g:=g) rfl
    have key:∀(j:Nat)x,(el.cells.drop o)[j]? =some x->∃u,xs[i*sz+(o+j)]? =some u∧V S x u:=by
     intro j x C
     rw [AG]at C
     exact hf.cell i el (o+j) x B C
    obtain⟨v',E,H⟩:=gR (P:=P) (S:=S) (loc:=loc) (w:=w) m (ad:=⟨g,i*sz+o,none⟩) (f:=fun j=>xs.getD (i*sz+(o+j)) default)
     (fun j c C => by
      obtain⟨u,hu,_⟩:=key j c C
      have:=l _ u hu
      rw [cV]at this⊢
      simp only [AK]at this
      rw [show i*sz+o+j=i*sz+(o+j)from by omega,this]
      simp [hu])
     (fun j c C => by
      obtain⟨u,hu,L⟩:=key j c C
      simpa [hu]using L)
    exact⟨v',by simpa [Instr.loadAt,Instr.sureAddr]using E,H⟩
  |var _=>exact fE _ m
  |dead=>exact fE _ m
  |map _ _ _=>exact fE _ m
  |mapn _ _ _ _ _=>exact fE _ m
  |hole z e es j q rv=>
   by_cases hc:ver=z∧i=j∧o=q
   rotate_left
   ·simp only [if_neg hc]at m;exact fE _ m
   simp only [if_pos hc]at m
   obtain⟨rfl,rfl,rfl⟩:=hc
   rcases hk:dQ P t with _|⟨_|_,n⟩
   ·simp only [hk]at m;exact fE _ m
   rotate_left
   ·simp only [hk]at m;exact fE _ m
   simp only [hk]at m
   obtain⟨E, -, -⟩:=M.cd m
   cases E
   obtain⟨sz,xs,u,g,Y,c,D,rfl,hsz,how,hf,I,ho,hu,K⟩:=h.lJ hb G
   have l:=(how.fw (AJ (AL _) I)).cells (g:=g) rfl _ u hu
   rw [cV]at l
   simp only [AK]at l
   have:=eb (P:=P) (w:=w) hk (ad:=⟨g,i*sz+o,none⟩) (v:=u) l
   exact⟨u,by simpa [Instr.loadAt,Instr.sureAddr]using this,K,rfl⟩
  |deep z e es q e2 ts Q=>
   by_cases y:ver=z
   rotate_left
   ·simp only [if_neg y]at m;exact fE _ m
   simp only [if_pos y]at m
   subst y
   obtain⟨sz,xs,bs,bl,g,Y,c,D,rfl,hd⟩:=h.lE hb G
   unfold jc at m
   rcases hk:dQ P t with _|⟨N,n⟩
   ·simp only [hk]at m;exact fE _ m
   simp only [hk]at m
   by_cases W:N=false∧o=q
   ·simp only [if_pos W]at m
    obtain⟨rfl,rfl⟩:=W
    rcases Q with _|⟨j,rv⟩
    ·exact fE _ m
    by_cases F:i=j
    rotate_left
    ·simp only [if_neg F]at m;exact fE _ m
    simp only [if_pos F]at m
    subst F
    obtain⟨E, -, -⟩:=M.cd m
    cases E
    obtain⟨I,u,hu,K⟩:=hd.hl i v rfl
    have l:=(hd.how.fw (AJ (AL _) I)).cells (g:=g) rfl _ u hu
    rw [cV]at l
    simp only [AK]at l
    have:=eb (P:=P) (w:=w) hk (ad:=⟨g,i*sz+o,none⟩) (v:=u) l
    exact⟨u,by simpa [Instr.loadAt,Instr.sureAddr]using this,K,rfl⟩
   simp only [if_neg W]at m
   by_cases hw:q<o∨o+(if N=true then n else 1)<=q
   rotate_left
   ·simp only [if_neg hw]at m;exact fE _ m
   simp only [if_pos hw]at m
   cases B:es[i]? with
   |none=>simp only [B]at m;exact fE _ m
   |some el=>
    simp only [B]at m
    have l:=(hd.how.fw (List.getElem?_eq_some_iff.1 B |>.1 |> AJ (AL _))).cells (g:=g) rfl
    have key:∀(j:Nat)x,((el.cells.drop o).take (if N=true then n else 1))[j]? =some x->∃u,xs[i*sz+(o+j)]? =some u∧V S x u:=by
     intro j x C
     rw [AH]at C
     by_cases J:j<(if N=true then n else 1)
     ·rw [if_pos J,AG]at C
      exact hd.hf.cell i el (o+j) x B C (by rcases hw with hw|hw<;>omega)
     ·rw [if_neg J]at C;cases C
    obtain⟨v',E,H⟩:=gR (P:=P) (S:=S) (loc:=loc) (w:=w) m (ad:=⟨g,i*sz+o,none⟩) (f:=fun j=>xs.getD (i*sz+(o+j)) default)
     (fun j c C => by
      obtain⟨u,hu,_⟩:=key j c C
      have:=l _ u hu
      rw [cV]at this⊢
      simp only [AK]at this
      rw [show i*sz+o+j=i*sz+(o+j)from by omega,this]
      simp [hu])
     (fun j c C => by
      obtain⟨u,hu,L⟩:=key j c C
      simpa [hu]using L)
    exact⟨v',by simpa [Instr.loadAt,Instr.sureAddr]using E,H⟩
  |nest z e e2 ess Q=>
   rcases Q with _|⟨j,rv⟩
   ·exact fE _ m
   by_cases hc:ver=z∧i=j∧o=0
   rotate_left
   ·simp only [if_neg hc]at m;exact fE _ m
   simp only [if_pos hc]at m
   obtain⟨rfl,rfl,rfl⟩:=hc
   rcases hk:dQ P t with _|⟨_|_,n⟩
   ·simp only [hk]at m;exact fE _ m
   rotate_left
   ·simp only [hk]at m;exact fE _ m
   simp only [hk]at m
   obtain⟨E, -, -⟩:=M.cd m
   cases E
   obtain⟨xs,bs,k,g,Y,c,D,rfl,hsz,a2,how,U,a1,T⟩:=h.nX hb G
   have I:=T i v rfl
   obtain⟨v',b,a0,bs2,H,h5,h6,h7⟩:=U.split (iQ (e2:=e2) (ess:=ess) (rv:=v) I)
   cases h6 with
   |val _ _ K h1=>
    have l:=(how.fw (AJ (AL _) I)).cells (g:=g) rfl i v' h5
    rw [cV]at l
    simp only [AK]at l
    have:=eb (P:=P) (w:=w) hk (ad:=⟨g,i,none⟩) (v:=v') l
    exact⟨v',by simpa [Instr.loadAt,Instr.sureAddr]using this,K,rfl⟩
 |d p=>exact fE s.boxes hl
 |undef=>exact fE s.boxes hl
 |junk=>exact fE s.boxes hl
 |cL=>exact fE s.boxes hl
 |agg cs=>exact fE s.boxes hl
 |tup cs=>exact fE s.boxes hl
 |ref a b=>exact fE s.boxes hl
 |view a b c d=>exact fE s.boxes hl
 |clo a b=>exact fE s.boxes hl
 |fview _ _ _=>exact fE s.boxes hl
 |err _=>exact fE s.boxes hl
 |dfull _=>exact fE s.boxes hl
 |ifc _ _=>exact fE s.boxes hl
 |plit _=>exact fE s.boxes hl
 |rlit _=>exact fE s.boxes hl
 |bnd _ _=>exact fE s.boxes hl
 |rfn _ _ _=>exact fE s.boxes hl
 |pcp c=>
  rcases hk:dQ P t with _|⟨_|_,n⟩
  ·simp only [e7,hk]at hl;exact fE s.boxes hl
  rotate_left
  ·simp only [e7,hk]at hl;exact fE s.boxes hl
  simp only [e7,hk]at hl
  obtain⟨E, -, -⟩:=M.cd hl
  cases E
  cases G with
  |pcp _ b o u' hS hV=>
   have:=eb (P:=P) (w:=w) hk (ad:=⟨b,o,none⟩) (v:=u') (h.imm _ _ hS)
   exact⟨u',by simpa [Instr.loadAt,Instr.sureAddr]using this,hV,rfl⟩
end
end Go.Dw
