
import Derived.Test.YthadlbjoiidkjaaGreatDoorDwPure

namespace Go.Dw
theorem kf(b o j:Nat):(⟨b,o,none⟩:Addr).add j=⟨b,o+j,none⟩:=by unfold Addr.add;split<;>simp_all
section
variable {P:Program}{X:Ctx}{S:iW}{loc:jq}{s:St}{tm:Array Value}{w:World}
theorem Sim.kV(h:Sim P X S loc s tm w){id:Nat}{bx:Box}(hb:s.boxes id=some bx){L:Loc}(hL:loc id=some L):lO P S loc w bx L:=by
 obtain⟨L',h1,h2⟩:=h.boxes id bx hb
 rw [hL]at h1
 cases h1
 exact h2
theorem Sim.rJ(h:Sim P X S loc s tm w){id off:Nat}{cs:List RV}{v:Value}(hb:s.boxes id=some (.var cs))(hr:R S loc (.ptr id off) v):
  ∃b t vs,loc id=some (.var b)∧v= .pointer (some ⟨b,off,none⟩)∧w.heap[b]? =some (.cells vs t (0,0))∧vs.size=cs.length∧
   ∀(i:Nat)c u,cs[i]? =some c->vs[i]? =some u->R S loc c u:=by
 cases hr with
 |ptr _ _ _ L _ hL hv=>
  have:=h.kV hb hL
  cases this with
  |var _ b t vs hw hl hc=>exact⟨b,t,vs,hL,(hv b).1 rfl,hw,hl,hc⟩
theorem Sim.lQ(h:Sim P X S loc s tm w){id ver:Nat}{e:TypeId}{es:List PD}{v:Value}(hb:s.boxes id=some (.arr ver e es))(hr:R S loc (.ref id ver) v):
  ∃sz xs,loc id=some (.arr ver e sz v)∧szT P e=some sz∧rowAt w e sz v es.length xs∧Flat S sz es xs:=by
 cases hr with
 |ref _ _ _ L _ hL hv=>
  have:=h.kV hb hL
  cases this with
  |arr _ _ _ sz hdr xs hsz how hf=>
   have:=(hv ver e sz hdr .arr).2 rfl
   subst this
   exact⟨sz,xs,hL,hsz,how,hf⟩
theorem Sim.tz(h:Sim P X S loc s tm w){id ver i o:Nat}{e:TypeId}{es:List PD}{v:Value}(hb:s.boxes id=some (.arr ver e es))(hr:R S loc (.elt id ver i o) v):
  ∃sz xs g n c,loc id=some (.arr ver e sz (.slice (some ⟨g,0,none⟩) n c))∧v= .pointer (some ⟨g,i*sz+o,none⟩)∧szT P e=some sz∧
   rowAt w e sz (.slice (some ⟨g,0,none⟩) n c) es.length xs∧Flat S sz es xs:=by
 cases hr with
 |elt _ _ _ _ _ L _ hL hv=>
  have:=h.kV hb hL
  cases this with
  |arr _ _ _ sz hdr xs hsz how hf=>
   obtain⟨g,n,c,h1,h2⟩:=(hv ver e sz hdr .arr).2 rfl
   subst h1
   exact⟨sz,xs,g,n,c,hL,h2,hsz,how,hf⟩
theorem Sim.ov(h:Sim P X S loc s tm w){id ver lo hi:Nat}{e:TypeId}{es:List PD}{v:Value}(hb:s.boxes id=some (.arr ver e es))(hr:R S loc (.view id ver lo hi) v):
  ∃sz xs hdr,loc id=some (.arr ver e sz hdr)∧szT P e=some sz∧rowAt w e sz hdr es.length xs∧Flat S sz es xs∧v.oneCell'=true∧
   ((lo=hi∧∃a,v= .slice a 0 0)∨∃g n c,hdr= .slice (some ⟨g,0,none⟩) n c∧lo<=hi∧hi<=c∧v= .slice (some ⟨g,lo*sz,none⟩) (hi-lo) (c-lo)):=by
 cases hr with
 |view _ _ _ _ _ L ho hL hv=>
  have:=h.kV hb hL
  cases this with
  |arr _ _ _ sz hdr xs hsz how hf=>exact⟨sz,xs,hdr,hL,hsz,how,hf,ho,(hv ver e sz hdr rfl).2 rfl⟩
theorem mo{t:TypeId}{a:Bool}{n:Nat}(h:lI P t=some (a,n)):(∃d,P.underlying t=some d)∧szT P t=some n∧jt P t=a:=by
 unfold lI at h
 split at h<;>simp only [Option.some.injEq,Prod.mk.injEq,reduceCtorEq]at h
 rename_i d m hd hm
 obtain⟨rfl,rfl⟩:=h
 exact⟨⟨d,hd⟩,hm,rfl⟩
theorem mZ{t:TypeId}{n:Nat}(hk:lI P t=some (true,n)){ad:Addr}{vs:List Value}(hl:vs.length=n)(h:∀(j:Nat)v,vs[j]? =some v->w.cell? (ad.add j)=some v):
  (loadVar t ad).run P w= .ok (.agg vs.toArray) w:=by
 obtain⟨⟨d,hd⟩,hn,ha⟩:=mo hk
 subst hl
 simp only [loadVar,Sem.run_bind,kU t hd,ha,Result.andThen_ok,if_true,jc hn,run_loadCells_list w ad vs h,Sem.run_pure]
theorem pf{t:TypeId}{n:Nat}(hk:lI P t=some (false,n)){ad:Addr}{v:Value}(h:w.cell? ad=some v):
  (loadVar t ad).run P w= .ok v w:=by
 obtain⟨⟨d,hd⟩,hn,ha⟩:=mo hk
 simp [loadVar,kU t hd,ha,h]
theorem pg{t:TypeId}{cs:List PD}{b:jk}{v:RV}{u:Ups}{r:List Nat}(hp:lk P t cs b=some ((v,u),r,true)){ad:Addr}{f:Nat->Value}
  (hc:∀(j:Nat)c,cs[j]? =some c->w.cell? (ad.add j)=some (f j)) (hv:∀(j:Nat)c,cs[j]? =some c->V S c (f j)):
  ∃v',(loadVar t ad).run P w= .ok v' w∧R S loc v v'∧u=[]:=by
 unfold lk at hp
 rcases hk:lI P t with _|⟨ka,n⟩
 ·rw [hk]at hp;exact fE _ hp
 rw [hk]at hp
 cases ka
 rotate_left
 ·obtain⟨h1,rfl,h3⟩:=jw hp
  cases h1
  have hn:n<=cs.length:=of_decide_eq_true h3.symm
  refine⟨.agg ((List.range n).map f).toArray,mZ hk sm ?_,?_,rfl⟩
  ·intro j v hj
   rw [List.getElem?_map]at hj
   cases hr:(List.range n)[j]? with
   |none=>simp [hr]at hj
   |some k=>
    simp only [hr,Option.map_some,Option.some.injEq]at hj
    subst hj
    obtain⟨hlt,he⟩:=List.getElem?_eq_some_iff.1 hr
    simp at hlt he
    subst he
    exact hc j _ (zc om)
  ·refine .d (.agg _ _ so fun i p v h1 h2=>?_)
   rw [List.getElem?_take]at h1
   split at h1
   ·rename_i hi
    simp [hi]at h2
    subst h2
    exact hv i p h1
   ·cases h1
 ·cases cs with
  |nil=>exact fE _ hp
  |cons c rest=>
   obtain⟨h1,rfl,h3⟩:=iY hp
   cases h1
   refine⟨f 0,pf hk ?_,.d (hv 0 c rfl),rfl⟩
   have:=hc 0 c rfl
   rwa [Addr.add_zero']at this
theorem sy{t:TypeId}{cs:List RV}{off:Nat}{b:jk}{v:RV}{u:Ups}{r:List Nat}(hp:kJ P t cs off b=some ((v,u),r,true)){bl:Nat}{vs:Array Value}{ty:TypeId}
  (hw:w.heap[bl]? =some (.cells vs ty (0,0))) (hl:vs.size=cs.length) (hv:∀(i:Nat)c x,cs[i]? =some c->vs[i]? =some x->R S loc c x):
  ∃v',(loadVar t ⟨bl,off,none⟩).run P w= .ok v' w∧R S loc v v'∧u=[]:=by
 have hcell:∀j,w.cell? ⟨bl,j,none⟩=vs[j]? :=fun j=>cell_of_row w bl j vs ty (0,0) hw
 unfold kJ at hp
 rcases hk:lI P t with _|⟨ka,n⟩
 ·rw [hk]at hp;exact fE _ hp
 rw [hk]at hp
 cases ka
 rotate_left
 ·obtain⟨h1,rfl,h3⟩:=jw hp
  cases h1
  have hn:off+n<=cs.length:=of_decide_eq_true h3.symm
  refine⟨.agg ((vs.toList.drop off).take n).toArray,mZ hk so ?_,?_,rfl⟩
  ·intro j v hj
   rw [kf,hcell]
   rw [List.getElem?_take]at hj
   split at hj
   ·simpa using hj
   ·cases hj
  ·refine lJ so fun i c x h1 h2=>?_
   rw [List.getElem?_take]at h1
   split at h1
   ·rename_i hi
    rw [List.getElem?_drop]at h1
    refine hv (off+i) c x h1 ?_
    simpa [List.getElem?_take,hi]using h2
   ·cases h1
 ·cases hc:cs[off]? with
  |none=>simp only [hc]at hp;exact fE _ hp
  |some c=>
   simp only [hc]at hp
   obtain⟨h1,rfl,h3⟩:=iY hp
   cases h1
   have hlt:off<vs.size:=by rw [hl];exact(List.getElem?_eq_some_iff.1 hc).1
   have hx:vs[off]? =some vs[off]:=Array.getElem?_eq_getElem hlt
   exact⟨vs[off],pf hk (by rw [hcell,hx]),hv off v _ hc hx,rfl⟩
theorem pj{t:TypeId}{cs:List RV}{off:Nat}{b:jk}{v:RV}{u:Ups}{r:List Nat}(hp:kJ P t cs off b=some ((v,u),r,true)){vs:Array Value}
  (hl:vs.size=cs.length) (hv:∀(i:Nat)c x,cs[i]? =some c->vs[i]? =some x->R S loc c x):
  ∃v',(part t vs off).run P w= .ok v' w∧R S loc v v'∧u=[]:=by
 unfold kJ at hp
 rcases hk:lI P t with _|⟨ka,n⟩
 ·rw [hk]at hp;exact fE _ hp
 rw [hk]at hp
 obtain⟨⟨d,hd⟩,hsz,ha⟩:=mo hk
 cases ka
 rotate_left
 ·obtain⟨h1,rfl,h3⟩:=jw hp
  cases h1
  have hn:off+n<=cs.length:=of_decide_eq_true h3.symm
  refine⟨.agg (vs.extract off (off+n)),by simp [part,kU t hd,ha,jc hsz],?_,rfl⟩
  refine lJ so fun i c x h1 h2=>?_
  rw [List.getElem?_take]at h1
  split at h1
  ·rename_i hi
   rw [List.getElem?_drop]at h1
   refine hv (off+i) c x h1 ?_
   rw [Array.getElem?_extract]at h2
   split at h2
   ·exact h2
   ·cases h2
  ·cases h1
 ·cases hc:cs[off]? with
  |none=>simp only [hc]at hp;exact fE _ hp
  |some c=>
   simp only [hc]at hp
   obtain⟨h1,rfl,h3⟩:=iY hp
   cases h1
   have hlt:off<vs.size:=by rw [hl];exact(List.getElem?_eq_some_iff.1 hc).1
   have hx:vs[off]? =some vs[off]:=Array.getElem?_eq_getElem hlt
   refine⟨vs[off],?_,hv off v _ hc hx,rfl⟩
   simp [part,kU t hd,ha,hx]
theorem mX(h:Sim P X S loc s tm w){t:TypeId}{x v:RV}{u:Ups}{r:List Nat}{vx:Value}(hl:l7 P t x s.boxes=some ((v,u),r,true))(hx:R S loc x vx):
  ∃v',(Instr.loadAt t vx).run P w= .ok v' w∧R S loc v v'∧u=[]:=by
 cases x with
 |cptr cs=>
  replace hl:lk P t cs s.boxes=some ((v,u),r,true):=hl
  cases hx with
  |cptr _ b o f hS hV=>
   obtain⟨v',h1,h2⟩:=pg (P:=P) (S:=S) (loc:=loc) (w:=w) hl (ad:=⟨b,o,none⟩) (f:=f) (fun j c hj=>by rw [kf];exact h.imm _ _ (hS j c hj)) hV
   exact⟨v',by simpa [Instr.loadAt,Instr.sureAddr]using h1,h2⟩
 |ptr id off=>
  obtain⟨bx,r1,r2,h1,h2,_⟩:=M.bind_some hl
  obtain⟨hb,_,_⟩:=M.get_some h1
  cases bx with
  |var cs=>
   obtain⟨b,ty,vs,hloc,rfl,hw,hlen,hv⟩:=h.rJ hb hx
   obtain⟨v',h3,h4⟩:=sy (P:=P) (S:=S) (loc:=loc) (w:=w) h2 hw hlen hv
   exact⟨v',by simpa [Instr.loadAt,Instr.sureAddr]using h3,h4⟩
  |arr _ _ _=>exact fE _ h2
  |dead=>exact fE _ h2
  |map _ _ _=>exact fE _ h2
 |elt id ver i o=>
  obtain⟨bx,r1,r2,h1,h2,_⟩:=M.bind_some hl
  obtain⟨hb,_,_⟩:=M.get_some h1
  cases bx with
  |arr ver' e es=>
   by_cases hver:ver=ver'
   rotate_left
   ·simp only [hver,if_false]at h2;exact fE _ h2
   simp only [hver,if_true]at h2
   subst hver
   obtain⟨sz,xs,g,n,c,hloc,rfl,hsz,how,hf⟩:=h.tz hb hx
   cases hel:es[i]? with
   |none=>simp only [hel]at h2;exact fE _ h2
   |some el=>
    simp only [hel]at h2
    have hcells:=(how.owns (List.getElem?_eq_some_iff.1 hel |>.1 |> Nat.lt_of_le_of_lt (Nat.zero_le _))).cells (g:=g) rfl
    have key:∀(j:Nat)x,(el.cells.drop o)[j]? =some x->∃u,xs[i*sz+(o+j)]? =some u∧V S x u:=by
     intro j x hj
     rw [List.getElem?_drop]at hj
     exact hf.cell i el (o+j) x hel hj
    obtain⟨v',h3,h4⟩:=pg (P:=P) (S:=S) (loc:=loc) (w:=w) h2 (ad:=⟨g,i*sz+o,none⟩) (f:=fun j=>xs.getD (i*sz+(o+j)) default)
     (fun j c hj => by
      obtain⟨u,hu,_⟩:=key j c hj
      have:=hcells _ u hu
      rw [kf]at this⊢
      simp only [Nat.zero_add]at this
      rw [show i*sz+o+j=i*sz+(o+j)from by omega,this]
      simp [hu])
     (fun j c hj => by
      obtain⟨u,hu,hv⟩:=key j c hj
      simpa [hu]using hv)
    exact⟨v',by simpa [Instr.loadAt,Instr.sureAddr]using h3,h4⟩
  |var _=>exact fE _ h2
  |dead=>exact fE _ h2
  |map _ _ _=>exact fE _ h2
 |d p=>exact fE s.boxes hl
 |undef=>exact fE s.boxes hl
 |junk=>exact fE s.boxes hl
 |iZ=>exact fE s.boxes hl
 |agg cs=>exact fE s.boxes hl
 |tup cs=>exact fE s.boxes hl
 |ref a b=>exact fE s.boxes hl
 |view a b c d=>exact fE s.boxes hl
 |clo a b=>exact fE s.boxes hl
 |fview _ _ _=>exact fE s.boxes hl
 |err _=>exact fE s.boxes hl
 |dfull _=>exact fE s.boxes hl
 |ifc _ _=>exact fE s.boxes hl
end
end Go.Dw
