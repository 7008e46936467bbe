
import Derived.Test.YtomapcboiinfdaaGreatDwPure
open List renaming getElem?_drop->AG, getElem?_take->AH, range->AI
open Nat renaming lt_of_le_of_lt->AJ, zero_add->AK, zero_le->AL

namespace Go.Dw
theorem nO(b o j:Nat):(⟨b,o,none⟩:Addr).add j=⟨b,o+j,none⟩:=by unfold Addr.add;split<;>simp_all
section
variable {P:Program}{X:Ctx}{S:mW}{loc:nB}{s:St}{tm:Array Value}{w:World}
theorem Sim.ot(h:Sim P X S loc s tm w){id:Nat}{a:Box}(e:s.boxes id=some a){L:Loc}(c:loc id=some L):pY P S loc w a L:=by
 obtain⟨f,h1,b⟩:=h.boxes id a e
 rw [c]at h1
 cases h1
 exact b
theorem Sim.xh(h:Sim P X S loc s tm w){id off:Nat}{cs:List RV}{v:Value}(e:s.boxes id=some (.var cs))(j:R S loc (.ptr id off) v):
  ∃b t vs,loc id=some (.var b)∧v= .pointer (some ⟨b,off,none⟩)∧w.heap[b]? =some (.cells vs t (0,0))∧vs.size=cs.length∧
   ∀(i:Nat)c u,cs[i]? =some c->vs[i]? =some u->R S loc c u:=by
 cases j with
 |ptr _ _ _ L _ a k=>
  have:=h.ot e a
  cases this with
  |var _ b t vs hw g f=>exact⟨b,t,vs,a,(k b).1 rfl,hw,g,f⟩
theorem Sim.qu(h:Sim P X S loc s tm w){id ver:Nat}{e:TypeId}{es:List PD}{v:Value}(c:s.boxes id=some (.arr ver e es))(f:R S loc (.ref id ver) v):
  ∃sz xs,loc id=some (.arr ver e sz v)∧szT P e=some sz∧rowAt w e sz v es.length xs∧Flat S sz es xs:=by
 cases f with
 |ref _ _ _ L _ b g=>
  have:=h.ot c b
  cases this with
  |arr _ _ _ sz hdr xs a how hf=>
   have:=(g ver e sz hdr .arr).2 rfl
   subst this
   exact⟨sz,xs,b,a,how,hf⟩
theorem Sim.yq(h:Sim P X S loc s tm w){id ver i o:Nat}{e:TypeId}{es:List PD}{v:Value}(j:s.boxes id=some (.arr ver e es))(k:R S loc (.elt id ver i o) v):
  ∃sz xs g n c,loc id=some (.arr ver e sz (.slice (some ⟨g,0,none⟩) n c))∧v= .pointer (some ⟨g,i*sz+o,none⟩)∧szT P e=some sz∧
   rowAt w e sz (.slice (some ⟨g,0,none⟩) n c) es.length xs∧Flat S sz es xs:=by
 cases k with
 |elt _ _ _ _ _ L _ b l=>
  have:=h.ot j b
  cases this with
  |arr _ _ _ sz hdr xs a how hf=>
   obtain⟨g,n,c,h1,f⟩:=(l ver e sz hdr .arr).2 rfl
   subst h1
   exact⟨sz,xs,g,n,c,b,f,a,how,hf⟩
theorem Sim.yW(h:Sim P X S loc s tm w){id ver i o:Nat}{e:TypeId}{es:List PD}{rv:RV}{v:Value}(f:s.boxes id=some (.hole ver e es i o rv))(a:R S loc (.ref id ver) v):
  ∃sz xs u,loc id=some (.arr ver e sz v)∧szT P e=some sz∧rowAt w e sz v es.length xs∧uB S sz es xs i o∧i<es.length∧o<sz∧xs[i*sz+o]? =some u∧R S loc rv u:=by
 cases a with
 |ref _ _ _ L _ c j=>
  have:=h.ot f c
  cases this with
  |hole _ _ _ _ _ _ sz hdr xs u b how hf hi g hu a=>
   have:=(j ver e sz hdr .arr).2 rfl
   subst this
   exact⟨sz,xs,u,c,b,how,hf,hi,g,hu,a⟩
theorem Sim.wY(h:Sim P X S loc s tm w){id ver i o j q:Nat}{e:TypeId}{es:List PD}{rv:RV}{v:Value}(l:s.boxes id=some (.hole ver e es j q rv))(a:R S loc (.elt id ver i o) v):
  ∃sz xs u g n c,loc id=some (.arr ver e sz (.slice (some ⟨g,0,none⟩) n c))∧v= .pointer (some ⟨g,i*sz+o,none⟩)∧szT P e=some sz∧
   rowAt w e sz (.slice (some ⟨g,0,none⟩) n c) es.length xs∧uB S sz es xs j q∧j<es.length∧q<sz∧xs[j*sz+q]? =some u∧R S loc rv u:=by
 cases a with
 |elt _ _ _ _ _ L _ f p=>
  have:=h.ot l f
  cases this with
  |hole _ _ _ _ _ _ sz hdr xs u b how hf hi m hu a=>
   obtain⟨g,n,c,h1,k⟩:=(p ver e sz hdr .arr).2 rfl
   subst h1
   exact⟨sz,xs,u,g,n,c,f,k,b,how,hf,hi,m,hu,a⟩
theorem Sim.w7(h:Sim P X S loc s tm w){id ver:Nat}{e e2:TypeId}{ess:List (List PD)}{a:Option (Nat×RV)}{v:Value}(j:s.boxes id=some (.nest ver e e2 ess a))(m:R S loc (.ref id ver) v):
  ∃xs bs k,loc id=some (.nest ver e 1 v bs)∧szT P e=some 1∧szT P e2=some (k+1)∧rowAt w e 1 v ess.length xs∧NCs P S loc w (ncs e2 ess a) xs bs∧((nT v).toList++bs).Nodup∧∀i rv,a=some (i,rv)->i<ess.length:=by
 cases m with
 |ref _ _ _ L _ g n=>
  have:=h.ot j g
  cases this with
  |nest _ _ _ _ _ hdr xs bs f c how l b hi=>
   have:=(n ver e 1 hdr .nest).2 rfl
   subst this
   obtain⟨k,hk⟩:=c
   exact⟨xs,bs,k,g,f,hk,how,l,b,hi⟩
theorem Sim.yZ(h:Sim P X S loc s tm w){id ver i o:Nat}{e e2:TypeId}{ess:List (List PD)}{a:Option (Nat×RV)}{v:Value}(p:s.boxes id=some (.nest ver e e2 ess a))(r:R S loc (.elt id ver i o) v):
  ∃xs bs k g n c,loc id=some (.nest ver e 1 (.slice (some ⟨g,0,none⟩) n c) bs)∧v= .pointer (some ⟨g,i+o,none⟩)∧szT P e=some 1∧szT P e2=some (k+1)∧
   rowAt w e 1 (.slice (some ⟨g,0,none⟩) n c) ess.length xs∧NCs P S loc w (ncs e2 ess a) xs bs∧((nT (.slice (some ⟨g,0,none⟩) n c)).toList++bs).Nodup∧∀i rv,a=some (i,rv)->i<ess.length:=by
 cases r with
 |elt _ _ _ _ _ L _ l t=>
  have:=h.ot p l
  cases this with
  |nest _ _ _ _ _ hdr xs bs j f how q b hi=>
   obtain⟨g,n,c,h1,m⟩:=(t ver e 1 hdr .nest).2 rfl
   subst h1
   obtain⟨k,hk⟩:=f
   exact⟨xs,bs,k,g,n,c,l,by rw [m,Nat.mul_one],j,hk,how,q,b,hi⟩
theorem Sim.tZ(h:Sim P X S loc s tm w){id ver lo hi:Nat}{e:TypeId}{es:List PD}{v:Value}(i:s.boxes id=some (.arr ver e es))(k:R S loc (.view id ver lo hi) v):
  ∃sz xs hdr,loc id=some (.arr ver e sz hdr)∧szT P e=some sz∧rowAt w e sz hdr es.length xs∧Flat S sz es xs∧v.oneCell'=true∧
   ((lo=hi∧∃a,v= .slice a 0 0)∨∃g n c,hdr= .slice (some ⟨g,0,none⟩) n c∧lo<=hi∧hi<=c∧v= .slice (some ⟨g,lo*sz,none⟩) (hi-lo) (c-lo)):=by
 cases k with
 |view _ _ _ _ _ L j f l=>
  have:=h.ot i f
  cases this with
  |arr _ _ _ sz hdr xs b how hf=>exact⟨sz,xs,hdr,f,b,how,hf,j,(l ver e sz hdr rfl).2 rfl⟩
theorem rn{t:TypeId}{a:Bool}{n:Nat}(h:oX P t=some (a,n)):(∃d,P.underlying t=some d)∧szT P t=some n∧nv P t=a:=by
 unfold oX at h
 split at h<;>simp only [Option.some.injEq,Prod.mk.injEq,reduceCtorEq]at h
 rename_i d m b hm
 obtain⟨rfl,rfl⟩:=h
 exact⟨⟨d,b⟩,hm,rfl⟩
theorem uM{t:TypeId}{n:Nat}(hk:oX P t=some (true,n)){ad:Addr}{vs:List Value}(c:vs.length=n)(h:∀(j:Nat)v,vs[j]? =some v->w.cell? (ad.add j)=some v):
  (loadVar t ad).run P w= .ok (.agg vs.toArray) w:=by
 obtain⟨⟨d,b⟩,e,a⟩:=rn hk
 subst c
 simp only [loadVar,Sem.run_bind,pn t b,a,Result.andThen_ok,if_true,mV e,run_loadCells_list w ad vs h,Sem.run_pure]
theorem pD{t:TypeId}{n:Nat}(hk:oX P t=some (false,n)){ad:Addr}{v:Value}(h:w.cell? ad=some v):
  (loadVar t ad).run P w= .ok v w:=by
 obtain⟨⟨d,b⟩,c,a⟩:=rn hk
 simp [loadVar,pn t b,a,h]
theorem uN{t:TypeId}{cs:List PD}{b:nn}{v:RV}{u:Ups}{r:List Nat}(a:pK P t cs b=some ((v,u),r,true)){ad:Addr}{f:Nat->Value}
  (q:∀(j:Nat)c,cs[j]? =some c->w.cell? (ad.add j)=some (f j)) (x:∀(j:Nat)c,cs[j]? =some c->V S c (f j)):
  ∃v',(loadVar t ad).run P w= .ok v' w∧R S loc v v'∧u=[]:=by
 unfold pK at a
 rcases hk:oX P t with _|⟨y,n⟩
 ·rw [hk]at a;exact fE _ a
 rw [hk]at a
 cases y
 rotate_left
 ·obtain⟨h1,rfl,o⟩:=nk a
  cases h1
  have z:n<=cs.length:=of_decide_eq_true o.symm
  refine⟨.agg ((AI n).map f).toArray,uM hk sm ?_,?_,rfl⟩
  ·intro j v e
   rw [List.getElem?_map]at e
   cases l:(AI n)[j]? with
   |none=>simp [l]at e
   |some k=>
    simp only [l,Option.map_some,Option.some.injEq]at e
    subst e
    obtain⟨g,he⟩:=List.getElem?_eq_some_iff.1 l
    simp at g he
    subst he
    exact q j _ (zc om)
  ·refine .d (.agg _ _ so fun i p v h1 m=>?_)
   rw [AH]at h1
   split at h1
   ·rename_i hi
    simp [hi]at m
    subst m
    exact x i p h1
   ·cases h1
 ·cases cs with
  |nil=>exact fE _ a
  |cons c rest=>
   obtain⟨h1,rfl,o⟩:=mQ a
   cases h1
   refine⟨f 0,pD hk ?_,.d (x 0 c rfl),rfl⟩
   have:=q 0 c rfl
   rwa [Addr.add_zero']at this
theorem xR{t:TypeId}{cs:List RV}{off:Nat}{b:nn}{v:RV}{u:Ups}{r:List Nat}(e:oZ P t cs off b=some ((v,u),r,true)){f:Nat}{vs:Array Value}{ty:TypeId}
  (hw:w.heap[f]? =some (.cells vs ty (0,0))) (y:vs.size=cs.length) (o:∀(i:Nat)c x,cs[i]? =some c->vs[i]? =some x->R S loc c x):
  ∃v',(loadVar t ⟨f,off,none⟩).run P w= .ok v' w∧R S loc v v'∧u=[]:=by
 have a:∀j,w.cell? ⟨f,j,none⟩=vs[j]? :=fun j=>cell_of_row w f j vs ty (0,0) hw
 unfold oZ at e
 rcases hk:oX P t with _|⟨z,n⟩
 ·rw [hk]at e;exact fE _ e
 rw [hk]at e
 cases z
 rotate_left
 ·obtain⟨h1,rfl,m⟩:=nk e
  cases h1
  have B:off+n<=cs.length:=of_decide_eq_true m.symm
  refine⟨.agg ((vs.toList.drop off).take n).toArray,uM hk so ?_,?_,rfl⟩
  ·intro j v k
   rw [nO,a]
   rw [AH]at k
   split at k
   ·simpa using k
   ·cases k
  ·refine ql so fun i c x h1 q=>?_
   rw [AH]at h1
   split at h1
   ·rename_i hi
    rw [AG]at h1
    refine o (off+i) c x h1 ?_
    simpa [AH,hi]using q
   ·cases h1
 ·cases g:cs[off]? with
  |none=>simp only [g]at e;exact fE _ e
  |some c=>
   simp only [g]at e
   obtain⟨h1,rfl,m⟩:=mQ e
   cases h1
   have l:off<vs.size:=by rw [y];exact(List.getElem?_eq_some_iff.1 g).1
   have p:vs[off]? =some vs[off]:=Array.getElem?_eq_getElem l
   exact⟨vs[off],pD hk (by rw [a,p]),o off v _ g p,rfl⟩
theorem uO{t:TypeId}{cs:List RV}{off:Nat}{b:nn}{v:RV}{u:Ups}{r:List Nat}(a:oZ P t cs off b=some ((v,u),r,true)){vs:Array Value}
  (q:vs.size=cs.length) (o:∀(i:Nat)c x,cs[i]? =some c->vs[i]? =some x->R S loc c x):
  ∃v',(part t vs off).run P w= .ok v' w∧R S loc v v'∧u=[]:=by
 unfold oZ at a
 rcases hk:oX P t with _|⟨y,n⟩
 ·rw [hk]at a;exact fE _ a
 rw [hk]at a
 obtain⟨⟨d,m⟩,j,l⟩:=rn hk
 cases y
 rotate_left
 ·obtain⟨h1,rfl,k⟩:=nk a
  cases h1
  have z:off+n<=cs.length:=of_decide_eq_true k.symm
  refine⟨.agg (vs.extract off (off+n)),by simp [part,pn t m,l,mV j],?_,rfl⟩
  refine ql so fun i c x h1 e=>?_
  rw [AH]at h1
  split at h1
  ·rename_i hi
   rw [AG]at h1
   refine o (off+i) c x h1 ?_
   rw [Array.getElem?_extract]at e
   split at e
   ·exact e
   ·cases e
  ·cases h1
 ·cases f:cs[off]? with
  |none=>simp only [f]at a;exact fE _ a
  |some c=>
   simp only [f]at a
   obtain⟨h1,rfl,k⟩:=mQ a
   cases h1
   have g:off<vs.size:=by rw [q];exact(List.getElem?_eq_some_iff.1 f).1
   have p:vs[off]? =some vs[off]:=Array.getElem?_eq_getElem g
   refine⟨vs[off],?_,o off v _ f p,rfl⟩
   simp [part,pn t m,l,p]
theorem rY(h:Sim P X S loc s tm w){t:TypeId}{x v:RV}{u:Ups}{r:List Nat}{Y:Value}(y:pN P t x s.boxes=some ((v,u),r,true))(H:R S loc x Y):
  ∃v',(Instr.loadAt t Y).run P w= .ok v' w∧R S loc v v'∧u=[]:=by
 cases x with
 |cptr cs=>
  replace y:pK P t cs s.boxes=some ((v,u),r,true):=y
  cases H with
  |cptr _ b o f hS hV=>
   obtain⟨v',h1,m⟩:=uN (P:=P) (S:=S) (loc:=loc) (w:=w) y (ad:=⟨b,o,none⟩) (f:=f) (fun j c F=>by rw [nO];exact h.imm _ _ (hS j c F)) hV
   exact⟨v',by simpa [Instr.loadAt,Instr.sureAddr]using h1,m⟩
 |ptr id off=>
  obtain⟨L,r1,r2,h1,m,_⟩:=M.bind_some y
  obtain⟨I,_,_⟩:=M.get_some h1
  cases L with
  |var cs=>
   obtain⟨b,ty,vs,B,rfl,hw,hlen,T⟩:=h.xh I H
   obtain⟨v',D,K⟩:=xR (P:=P) (S:=S) (loc:=loc) (w:=w) m hw hlen T
   exact⟨v',by simpa [Instr.loadAt,Instr.sureAddr]using D,K⟩
  |arr _ _ _=>exact fE _ m
  |dead=>exact fE _ m
  |map _ _ _=>exact fE _ m
  |nest _ _ _ _ _=>exact fE _ m
  |hole _ _ _ _ _ _=>exact fE _ m
 |elt id ver i o=>
  obtain⟨L,r1,r2,h1,m,_⟩:=M.bind_some y
  obtain⟨I,_,_⟩:=M.get_some h1
  cases L with
  |arr z e es=>
   by_cases C:ver=z
   rotate_left
   ·simp only [C,if_false]at m;exact fE _ m
   simp only [C,if_true]at m
   subst C
   obtain⟨sz,xs,g,n,c,B,rfl,J,how,hf⟩:=h.yq I H
   cases E:es[i]? with
   |none=>simp only [E]at m;exact fE _ m
   |some el=>
    simp only [E]at m
    have l:=(how.qN (List.getElem?_eq_some_iff.1 E |>.1 |> AJ (AL _))).cells (g:=g) rfl
    have key:∀(j:Nat)x,(el.cells.drop o)[j]? =some x->∃u,xs[i*sz+(o+j)]? =some u∧V S x u:=by
     intro j x F
     rw [AG]at F
     exact hf.cell i el (o+j) x E F
    obtain⟨v',D,K⟩:=uN (P:=P) (S:=S) (loc:=loc) (w:=w) m (ad:=⟨g,i*sz+o,none⟩) (f:=fun j=>xs.getD (i*sz+(o+j)) default)
     (fun j c F => by
      obtain⟨u,hu,_⟩:=key j c F
      have:=l _ u hu
      rw [nO]at this⊢
      simp only [AK]at this
      rw [show i*sz+o+j=i*sz+(o+j)from by omega,this]
      simp [hu])
     (fun j c F => by
      obtain⟨u,hu,T⟩:=key j c F
      simpa [hu]using T)
    exact⟨v',by simpa [Instr.loadAt,Instr.sureAddr]using D,K⟩
  |var _=>exact fE _ m
  |dead=>exact fE _ m
  |map _ _ _=>exact fE _ m
  |hole z e es j q rv=>
   by_cases G:ver=z∧i=j∧o=q
   rotate_left
   ·simp only [if_neg G]at m;exact fE _ m
   simp only [if_pos G]at m
   obtain⟨rfl,rfl,rfl⟩:=G
   rcases hk:oX P t with _|⟨_|_,n⟩
   ·simp only [hk]at m;exact fE _ m
   rotate_left
   ·simp only [hk]at m;exact fE _ m
   simp only [hk]at m
   obtain⟨D, -, -⟩:=M.mJ m
   cases D
   obtain⟨sz,xs,u,g,n',c,B,rfl,J,how,hf,hi,ho,hu,Q⟩:=h.wY I H
   have l:=(how.qN (AJ (AL _) hi)).cells (g:=g) rfl _ u hu
   rw [nO]at l
   simp only [AK]at l
   have:=pD (P:=P) (w:=w) hk (ad:=⟨g,i*sz+o,none⟩) (v:=u) l
   exact⟨u,by simpa [Instr.loadAt,Instr.sureAddr]using this,Q,rfl⟩
  |nest z e e2 ess hh=>
   rcases hh with _|⟨j,rv⟩
   ·exact fE _ m
   by_cases G:ver=z∧i=j∧o=0
   rotate_left
   ·simp only [if_neg G]at m;exact fE _ m
   simp only [if_pos G]at m
   obtain⟨rfl,rfl,rfl⟩:=G
   rcases hk:oX P t with _|⟨_|_,n⟩
   ·simp only [hk]at m;exact fE _ m
   rotate_left
   ·simp only [hk]at m;exact fE _ m
   simp only [hk]at m
   obtain⟨D, -, -⟩:=M.mJ m
   cases D
   obtain⟨xs,bs,k,g,n',c,B,rfl,J,a7,how,O,a6,N⟩:=h.yZ I H
   have hi:=N i v rfl
   obtain⟨v',b,a5,bs2,K,h5,h6,h7⟩:=O.split (vU (e2:=e2) (ess:=ess) (rv:=v) hi)
   cases h6 with
   |val _ _ Q h1=>
    have l:=(how.qN (AJ (AL _) hi)).cells (g:=g) rfl i v' h5
    rw [nO]at l
    simp only [AK]at l
    have:=pD (P:=P) (w:=w) hk (ad:=⟨g,i,none⟩) (v:=v') l
    exact⟨v',by simpa [Instr.loadAt,Instr.sureAddr]using this,Q,rfl⟩
 |d p=>exact fE s.boxes y
 |undef=>exact fE s.boxes y
 |junk=>exact fE s.boxes y
 |cI=>exact fE s.boxes y
 |agg cs=>exact fE s.boxes y
 |tup cs=>exact fE s.boxes y
 |ref a b=>exact fE s.boxes y
 |view a b c d=>exact fE s.boxes y
 |clo a b=>exact fE s.boxes y
 |fview _ _ _=>exact fE s.boxes y
 |err _=>exact fE s.boxes y
 |dfull _=>exact fE s.boxes y
 |ifc _ _=>exact fE s.boxes y
 |plit _=>exact fE s.boxes y
 |pcp c=>
  rcases hk:oX P t with _|⟨_|_,n⟩
  ·simp only [pN,hk]at y;exact fE s.boxes y
  rotate_left
  ·simp only [pN,hk]at y;exact fE s.boxes y
  simp only [pN,hk]at y
  obtain⟨D, -, -⟩:=M.mJ y
  cases D
  cases H with
  |pcp _ b o W hS hV=>
   have:=pD (P:=P) (w:=w) hk (ad:=⟨b,o,none⟩) (v:=W) (h.imm _ _ hS)
   exact⟨W,by simpa [Instr.loadAt,Instr.sureAddr]using this,hV,rfl⟩
end
end Go.Dw
