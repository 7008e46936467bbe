
import Derived.Test.YtfmoipelhfkdkaaGreatDoorDwPure
open List renaming getElem?_drop->DM, getElem?_take->DN, range->DO
open Nat renaming lt_of_le_of_lt->DP, zero_add->DQ, zero_le->DR

namespace Go.Dw
theorem th(b o j:Nat):(⟨b,o,none⟩:Addr).add j=⟨b,o+j,none⟩:=by unfold Addr.add;split<;>simp_all
section
variable {P:Program}{X:Ctx}{S:rP}{loc:ss}{s:St}{tm:Array Value}{w:World}
theorem Sim.tN(h:Sim P X S loc s tm w){id:Nat}{f:Box}(k:s.boxes id=some f){L:Loc}(j:loc id=some L):vD P S loc w f L:=by
 obtain⟨q,h1,g⟩:=h.boxes id f k
 rw [j]at h1
 cases h1
 exact g
theorem Sim.BJ(h:Sim P X S loc s tm w){id off:Nat}{cs:List RV}{v:Value}(g:s.boxes id=some (.var cs))(j:R S loc (.ptr id off) v):
  ∃b t vs,loc id=some (.var b)∧v= .pointer (some ⟨b,off,none⟩)∧w.heap[b]? =some (.cells vs t (0,0))∧vs.size=cs.length∧
   ∀(i:Nat)c u,cs[i]? =some c->vs[i]? =some u->R S loc c u:=by
 cases j with
 |ptr _ _ _ L _ f k=>
  have:=h.tN g f
  cases this with
  |var _ b t vs hw hl hc=>exact⟨b,t,vs,f,(k b).1 rfl,hw,hl,hc⟩
theorem Sim.vX(h:Sim P X S loc s tm w){id ver:Nat}{e:TypeId}{es:List PD}{v:Value}(j:s.boxes id=some (.arr ver e es))(k:R S loc (.ref id ver) v):
  ∃sz xs,loc id=some (.arr ver e sz v)∧szT P e=some sz∧rowAt w e sz v es.length xs∧Flat S sz es xs:=by
 cases k with
 |ref _ _ _ L _ g q=>
  have:=h.tN j g
  cases this with
  |arr _ _ _ sz hdr xs f how hf=>
   have:=(q ver e sz hdr .arr).2 rfl
   subst this
   exact⟨sz,xs,g,f,how,hf⟩
theorem Sim.CH(h:Sim P X S loc s tm w){id ver i o:Nat}{e:TypeId}{es:List PD}{v:Value}(q:s.boxes id=some (.arr ver e es))(r:R S loc (.elt id ver i o) v):
  ∃sz xs g n c,loc id=some (.arr ver e sz (.slice (some ⟨g,0,none⟩) n c))∧v= .pointer (some ⟨g,i*sz+o,none⟩)∧szT P e=some sz∧
   rowAt w e sz (.slice (some ⟨g,0,none⟩) n c) es.length xs∧Flat S sz es xs:=by
 cases r with
 |elt _ _ _ _ _ L _ j u=>
  have:=h.tN q j
  cases this with
  |arr _ _ _ sz hdr xs f how hf=>
   obtain⟨g,n,c,h1,k⟩:=(u ver e sz hdr .arr).2 rfl
   subst h1
   exact⟨sz,xs,g,n,c,j,k,f,how,hf⟩
theorem Sim.Dd(h:Sim P X S loc s tm w){id ver i o:Nat}{e:TypeId}{es:List PD}{rv:RV}{v:Value}(k:s.boxes id=some (.hole ver e es i o rv))(f:R S loc (.ref id ver) v):
  ∃sz xs u,loc id=some (.arr ver e sz v)∧szT P e=some sz∧rowAt w e sz v es.length xs∧zo S sz es xs i o∧i<es.length∧o<sz∧xs[i*sz+o]? =some u∧R S loc rv u:=by
 cases f with
 |ref _ _ _ L _ j q=>
  have:=h.tN k j
  cases this with
  |hole _ _ _ _ _ _ sz hdr xs u g how hf hi ho hu f=>
   have:=(q ver e sz hdr .arr).2 rfl
   subst this
   exact⟨sz,xs,u,j,g,how,hf,hi,ho,hu,f⟩
theorem Sim.Bs(h:Sim P X S loc s tm w){id ver i o j q:Nat}{e:TypeId}{es:List PD}{rv:RV}{v:Value}(D:s.boxes id=some (.hole ver e es j q rv))(f:R S loc (.elt id ver i o) v):
  ∃sz xs u g n c,loc id=some (.arr ver e sz (.slice (some ⟨g,0,none⟩) n c))∧v= .pointer (some ⟨g,i*sz+o,none⟩)∧szT P e=some sz∧
   rowAt w e sz (.slice (some ⟨g,0,none⟩) n c) es.length xs∧zo S sz es xs j q∧j<es.length∧q<sz∧xs[j*sz+q]? =some u∧R S loc rv u:=by
 cases f with
 |elt _ _ _ _ _ L _ r E=>
  have:=h.tN D r
  cases this with
  |hole _ _ _ _ _ _ sz hdr xs u k how hf hi ho hu f=>
   obtain⟨g,n,c,h1,C⟩:=(E ver e sz hdr .arr).2 rfl
   subst h1
   exact⟨sz,xs,u,g,n,c,r,C,k,how,hf,hi,ho,hu,f⟩
theorem Sim.Bx(h:Sim P X S loc s tm w){id ver:Nat}{e e2:TypeId}{ess:List (List PD)}{f:Option (Nat×RV)}{v:Value}(u:s.boxes id=some (.nest ver e e2 ess f))(C:R S loc (.ref id ver) v):
  ∃xs bs k,loc id=some (.nest ver e 1 v bs)∧szT P e=some 1∧szT P e2=some (k+1)∧rowAt w e 1 v ess.length xs∧NCs P S loc w (ncs e2 ess f) xs bs∧((tp v).toList++bs).Nodup∧∀i rv,f=some (i,rv)->i<ess.length:=by
 cases C with
 |ref _ _ _ L _ r D=>
  have:=h.tN u r
  cases this with
  |nest _ _ _ _ _ hdr xs bs q j how hc g hi=>
   have:=(D ver e 1 hdr .nest).2 rfl
   subst this
   obtain⟨k,hk⟩:=j
   exact⟨xs,bs,k,r,q,hk,how,hc,g,hi⟩
theorem Sim.Di(h:Sim P X S loc s tm w){id ver i o:Nat}{e e2:TypeId}{ess:List (List PD)}{f:Option (Nat×RV)}{v:Value}(D:s.boxes id=some (.nest ver e e2 ess f))(E:R S loc (.elt id ver i o) v):
  ∃xs bs k g n c,loc id=some (.nest ver e 1 (.slice (some ⟨g,0,none⟩) n c) bs)∧v= .pointer (some ⟨g,i+o,none⟩)∧szT P e=some 1∧szT P e2=some (k+1)∧
   rowAt w e 1 (.slice (some ⟨g,0,none⟩) n c) ess.length xs∧NCs P S loc w (ncs e2 ess f) xs bs∧((tp (.slice (some ⟨g,0,none⟩) n c)).toList++bs).Nodup∧∀i rv,f=some (i,rv)->i<ess.length:=by
 cases E with
 |elt _ _ _ _ _ L _ u F=>
  have:=h.tN D u
  cases this with
  |nest _ _ _ _ _ hdr xs bs r q how hc j hi=>
   obtain⟨g,n,c,h1,C⟩:=(F ver e 1 hdr .nest).2 rfl
   subst h1
   obtain⟨k,hk⟩:=q
   exact⟨xs,bs,k,g,n,c,u,by rw [C,Nat.mul_one],r,hk,how,hc,j,hi⟩
theorem Sim.yK(h:Sim P X S loc s tm w){id ver lo hi:Nat}{e:TypeId}{es:List PD}{v:Value}(k:s.boxes id=some (.arr ver e es))(q:R S loc (.view id ver lo hi) v):
  ∃sz xs hdr,loc id=some (.arr ver e sz hdr)∧szT P e=some sz∧rowAt w e sz hdr es.length xs∧Flat S sz es xs∧v.oneCell'=true∧
   ((lo=hi∧∃a,v= .slice a 0 0)∨∃g n c,hdr= .slice (some ⟨g,0,none⟩) n c∧lo<=hi∧hi<=c∧v= .slice (some ⟨g,lo*sz,none⟩) (hi-lo) (c-lo)):=by
 cases q with
 |view _ _ _ _ _ L ho j r=>
  have:=h.tN k j
  cases this with
  |arr _ _ _ sz hdr xs f how hf=>exact⟨sz,xs,hdr,j,f,how,hf,ho,(r ver e sz hdr rfl).2 rfl⟩
theorem wL{t:TypeId}{a:Bool}{n:Nat}(h:ug P t=some (a,n)):(∃d,P.underlying t=some d)∧szT P t=some n∧sw P t=a:=by
 unfold ug at h
 split at h<;>simp only [Option.some.injEq,Prod.mk.injEq,reduceCtorEq]at h
 rename_i d m f hm
 obtain⟨rfl,rfl⟩:=h
 exact⟨⟨d,f⟩,hm,rfl⟩
theorem zA{t:TypeId}{n:Nat}(hk:ug P t=some (true,n)){ad:Addr}{vs:List Value}(hl:vs.length=n)(h:∀(j:Nat)v,vs[j]? =some v->w.cell? (ad.add j)=some v):
  (loadVar t ad).run P w= .ok (.agg vs.toArray) w:=by
 obtain⟨⟨d,g⟩,k,f⟩:=wL hk
 subst hl
 simp only [loadVar,Sem.run_bind,uP t g,f,Result.andThen_ok,if_true,rQ k,run_loadCells_list w ad vs h,Sem.run_pure]
theorem u5{t:TypeId}{n:Nat}(hk:ug P t=some (false,n)){ad:Addr}{v:Value}(h:w.cell? ad=some v):
  (loadVar t ad).run P w= .ok v w:=by
 obtain⟨⟨d,g⟩,j,f⟩:=wL hk
 simp [loadVar,uP t g,f,h]
theorem zC{t:TypeId}{cs:List PD}{b:sj}{v:RV}{u:Ups}{r:List Nat}(hp:uG P t cs b=some ((v,u),r,true)){ad:Addr}{f:Nat->Value}
  (hc:∀(j:Nat)c,cs[j]? =some c->w.cell? (ad.add j)=some (f j)) (F:∀(j:Nat)c,cs[j]? =some c->V S c (f j)):
  ∃v',(loadVar t ad).run P w= .ok v' w∧R S loc v v'∧u=[]:=by
 unfold uG at hp
 rcases hk:ug P t with _|⟨G,n⟩
 ·rw [hk]at hp;exact fE _ hp
 rw [hk]at hp
 cases G
 rotate_left
 ·obtain⟨h1,rfl,E⟩:=sd hp
  cases h1
  have H:n<=cs.length:=of_decide_eq_true E.symm
  refine⟨.agg ((DO n).map f).toArray,zA hk zc ?_,?_,rfl⟩
  ·intro j v g
   rw [List.getElem?_map]at g
   cases C:(DO n)[j]? with
   |none=>simp [C]at g
   |some k=>
    simp only [C,Option.map_some,Option.some.injEq]at g
    subst g
    obtain⟨q,he⟩:=List.getElem?_eq_some_iff.1 C
    simp at q he
    subst he
    exact hc j _ (zf za)
  ·refine .d (.agg _ _ so fun i p v h1 D=>?_)
   rw [DN]at h1
   split at h1
   ·rename_i hi
    simp [hi]at D
    subst D
    exact F i p h1
   ·cases h1
 ·cases cs with
  |nil=>exact fE _ hp
  |cons c rest=>
   obtain⟨h1,rfl,E⟩:=rH hp
   cases h1
   refine⟨f 0,u5 hk ?_,.d (F 0 c rfl),rfl⟩
   have:=hc 0 c rfl
   rwa [Addr.add_zero']at this
theorem Ci{t:TypeId}{cs:List RV}{off:Nat}{b:sj}{v:RV}{u:Ups}{r:List Nat}(hp:uH P t cs off b=some ((v,u),r,true)){g:Nat}{vs:Array Value}{ty:TypeId}
  (hw:w.heap[g]? =some (.cells vs ty (0,0))) (hl:vs.size=cs.length) (D:∀(i:Nat)c x,cs[i]? =some c->vs[i]? =some x->R S loc c x):
  ∃v',(loadVar t ⟨g,off,none⟩).run P w= .ok v' w∧R S loc v v'∧u=[]:=by
 have f:∀j,w.cell? ⟨g,j,none⟩=vs[j]? :=fun j=>cell_of_row w g j vs ty (0,0) hw
 unfold uH at hp
 rcases hk:ug P t with _|⟨G,n⟩
 ·rw [hk]at hp;exact fE _ hp
 rw [hk]at hp
 cases G
 rotate_left
 ·obtain⟨h1,rfl,C⟩:=sd hp
  cases h1
  have H:off+n<=cs.length:=of_decide_eq_true C.symm
  refine⟨.agg ((vs.toList.drop off).take n).toArray,zA hk so ?_,?_,rfl⟩
  ·intro j v k
   rw [th,f]
   rw [DN]at k
   split at k
   ·simpa using k
   ·cases k
  ·refine vR so fun i c x h1 F=>?_
   rw [DN]at h1
   split at h1
   ·rename_i hi
    rw [DM]at h1
    refine D (off+i) c x h1 ?_
    simpa [DN,hi]using F
   ·cases h1
 ·cases hc:cs[off]? with
  |none=>simp only [hc]at hp;exact fE _ hp
  |some c=>
   simp only [hc]at hp
   obtain⟨h1,rfl,C⟩:=rH hp
   cases h1
   have q:off<vs.size:=by rw [hl];exact(List.getElem?_eq_some_iff.1 hc).1
   have E:vs[off]? =some vs[off]:=Array.getElem?_eq_getElem q
   exact⟨vs[off],u5 hk (by rw [f,E]),D off v _ hc E,rfl⟩
theorem zD{t:TypeId}{cs:List RV}{off:Nat}{b:sj}{v:RV}{u:Ups}{r:List Nat}(hp:uH P t cs off b=some ((v,u),r,true)){vs:Array Value}
  (hl:vs.size=cs.length) (D:∀(i:Nat)c x,cs[i]? =some c->vs[i]? =some x->R S loc c x):
  ∃v',(part t vs off).run P w= .ok v' w∧R S loc v v'∧u=[]:=by
 unfold uH at hp
 rcases hk:ug P t with _|⟨F,n⟩
 ·rw [hk]at hp;exact fE _ hp
 rw [hk]at hp
 obtain⟨⟨d,C⟩,j,q⟩:=wL hk
 cases F
 rotate_left
 ·obtain⟨h1,rfl,k⟩:=sd hp
  cases h1
  have G:off+n<=cs.length:=of_decide_eq_true k.symm
  refine⟨.agg (vs.extract off (off+n)),by simp [part,uP t C,q,rQ j],?_,rfl⟩
  refine vR so fun i c x h1 f=>?_
  rw [DN]at h1
  split at h1
  ·rename_i hi
   rw [DM]at h1
   refine D (off+i) c x h1 ?_
   rw [Array.getElem?_extract]at f
   split at f
   ·exact f
   ·cases f
  ·cases h1
 ·cases hc:cs[off]? with
  |none=>simp only [hc]at hp;exact fE _ hp
  |some c=>
   simp only [hc]at hp
   obtain⟨h1,rfl,k⟩:=rH hp
   cases h1
   have g:off<vs.size:=by rw [hl];exact(List.getElem?_eq_some_iff.1 hc).1
   have E:vs[off]? =some vs[off]:=Array.getElem?_eq_getElem g
   refine⟨vs[off],?_,D off v _ hc E,rfl⟩
   simp [part,uP t C,q,E]
theorem xl(h:Sim P X S loc s tm w){t:TypeId}{x v:RV}{u:Ups}{r:List Nat}{vx:Value}(hl:uw P t x s.boxes=some ((v,u),r,true))(K:R S loc x vx):
  ∃v',(Instr.loadAt t vx).run P w= .ok v' w∧R S loc v v'∧u=[]:=by
 cases x with
 |cptr cs=>
  replace hl:uG P t cs s.boxes=some ((v,u),r,true):=hl
  cases K with
  |cptr _ b o f hS hV=>
   obtain⟨v',h1,D⟩:=zC (P:=P) (S:=S) (loc:=loc) (w:=w) hl (ad:=⟨b,o,none⟩) (f:=f) (fun j c J=>by rw [th];exact h.imm _ _ (hS j c J)) hV
   exact⟨v',by simpa [Instr.loadAt,Instr.sureAddr]using h1,D⟩
 |ptr id off=>
  obtain⟨Q,r1,r2,h1,D,_⟩:=M.bind_some hl
  obtain⟨L,_,_⟩:=M.get_some h1
  cases Q with
  |var cs=>
   obtain⟨b,ty,vs,F,rfl,hw,hlen,Y⟩:=h.BJ L K
   obtain⟨v',H,O⟩:=Ci (P:=P) (S:=S) (loc:=loc) (w:=w) D hw hlen Y
   exact⟨v',by simpa [Instr.loadAt,Instr.sureAddr]using H,O⟩
  |arr _ _ _=>exact fE _ D
  |dead=>exact fE _ D
  |map _ _ _=>exact fE _ D
  |nest _ _ _ _ _=>exact fE _ D
  |hole _ _ _ _ _ _=>exact fE _ D
 |elt id ver i o=>
  obtain⟨Q,r1,r2,h1,D,_⟩:=M.bind_some hl
  obtain⟨L,_,_⟩:=M.get_some h1
  cases Q with
  |arr E e es=>
   by_cases G:ver=E
   rotate_left
   ·simp only [G,if_false]at D;exact fE _ D
   simp only [G,if_true]at D
   subst G
   obtain⟨sz,xs,g,n,c,F,rfl,N,how,hf⟩:=h.CH L K
   cases I:es[i]? with
   |none=>simp only [I]at D;exact fE _ D
   |some el=>
    simp only [I]at D
    have C:=(how.v8 (List.getElem?_eq_some_iff.1 I |>.1 |> DP (DR _))).cells (g:=g) rfl
    have key:∀(j:Nat)x,(el.cells.drop o)[j]? =some x->∃u,xs[i*sz+(o+j)]? =some u∧V S x u:=by
     intro j x J
     rw [DM]at J
     exact hf.cell i el (o+j) x I J
    obtain⟨v',H,O⟩:=zC (P:=P) (S:=S) (loc:=loc) (w:=w) D (ad:=⟨g,i*sz+o,none⟩) (f:=fun j=>xs.getD (i*sz+(o+j)) default)
     (fun j c J => by
      obtain⟨u,hu,_⟩:=key j c J
      have:=C _ u hu
      rw [th]at this⊢
      simp only [DQ]at this
      rw [show i*sz+o+j=i*sz+(o+j)from by omega,this]
      simp [hu])
     (fun j c J => by
      obtain⟨u,hu,Y⟩:=key j c J
      simpa [hu]using Y)
    exact⟨v',by simpa [Instr.loadAt,Instr.sureAddr]using H,O⟩
  |var _=>exact fE _ D
  |dead=>exact fE _ D
  |map _ _ _=>exact fE _ D
  |hole E e es j q rv=>
   by_cases hc:ver=E∧i=j∧o=q
   rotate_left
   ·simp only [if_neg hc]at D;exact fE _ D
   simp only [if_pos hc]at D
   obtain⟨rfl,rfl,rfl⟩:=hc
   rcases hk:ug P t with _|⟨_|_,n⟩
   ·simp only [hk]at D;exact fE _ D
   rotate_left
   ·simp only [hk]at D;exact fE _ D
   simp only [hk]at D
   obtain⟨H, -, -⟩:=M.pZ D
   cases H
   obtain⟨sz,xs,u,g,n',c,F,rfl,N,how,hf,hi,ho,hu,W⟩:=h.Bs L K
   have C:=(how.v8 (DP (DR _) hi)).cells (g:=g) rfl _ u hu
   rw [th]at C
   simp only [DQ]at C
   have:=u5 (P:=P) (w:=w) hk (ad:=⟨g,i*sz+o,none⟩) (v:=u) C
   exact⟨u,by simpa [Instr.loadAt,Instr.sureAddr]using this,W,rfl⟩
  |nest E e e2 ess hh=>
   rcases hh with _|⟨j,rv⟩
   ·exact fE _ D
   by_cases hc:ver=E∧i=j∧o=0
   rotate_left
   ·simp only [if_neg hc]at D;exact fE _ D
   simp only [if_pos hc]at D
   obtain⟨rfl,rfl,rfl⟩:=hc
   rcases hk:ug P t with _|⟨_|_,n⟩
   ·simp only [hk]at D;exact fE _ D
   rotate_left
   ·simp only [hk]at D;exact fE _ D
   simp only [hk]at D
   obtain⟨H, -, -⟩:=M.pZ D
   cases H
   obtain⟨xs,bs,k,g,n',c,F,rfl,N,a9,how,U,a6,T⟩:=h.Di L K
   have hi:=T i v rfl
   obtain⟨v',b,a5,bs2,O,h5,h6,h7⟩:=U.split (AH (e2:=e2) (ess:=ess) (rv:=v) hi)
   cases h6 with
   |val _ _ W h1=>
    have C:=(how.v8 (DP (DR _) hi)).cells (g:=g) rfl i v' h5
    rw [th]at C
    simp only [DQ]at C
    have:=u5 (P:=P) (w:=w) hk (ad:=⟨g,i,none⟩) (v:=v') C
    exact⟨v',by simpa [Instr.loadAt,Instr.sureAddr]using this,W,rfl⟩
 |d p=>exact fE s.boxes hl
 |undef=>exact fE s.boxes hl
 |junk=>exact fE s.boxes hl
 |rm=>exact fE s.boxes hl
 |agg cs=>exact fE s.boxes hl
 |tup cs=>exact fE s.boxes hl
 |ref a b=>exact fE s.boxes hl
 |view a b c d=>exact fE s.boxes hl
 |clo a b=>exact fE s.boxes hl
 |fview _ _ _=>exact fE s.boxes hl
 |err _=>exact fE s.boxes hl
 |dfull _=>exact fE s.boxes hl
 |ifc _ _=>exact fE s.boxes hl
 |plit _=>exact fE s.boxes hl
 |pcp c=>
  rcases hk:ug P t with _|⟨_|_,n⟩
  ·simp only [uw,hk]at hl;exact fE s.boxes hl
  rotate_left
  ·simp only [uw,hk]at hl;exact fE s.boxes hl
  simp only [uw,hk]at hl
  obtain⟨H, -, -⟩:=M.pZ hl
  cases H
  cases K with
  |pcp _ b o u' hS hV=>
   have:=u5 (P:=P) (w:=w) hk (ad:=⟨b,o,none⟩) (v:=u') (h.imm _ _ hS)
   exact⟨u',by simpa [Instr.loadAt,Instr.sureAddr]using this,hV,rfl⟩
end
end Go.Dw
