
import Derived.Test.YthadlbjoiidkjaaGreatDoorDwPure

namespace Go.Dw
theorem rH(b o j:Nat):(⟨b,o,none⟩:Addr).add j=⟨b,o+j,none⟩:=by unfold Addr.add;split<;>simp_all
section
variable {P:Program}{X:Ctx}{S:pR}{loc:qe}{s:St}{tm:Array Value}{w:World}
theorem Sim.rO(h:Sim P X S loc s tm w){id:Nat}{bx:Box}(hb:s.boxes id=some bx){L:Loc}(hL:loc id=some L):tU P S loc w bx L:=by
 obtain⟨L',h1,h2⟩:=h.boxes id bx hb
 rw [hL]at h1
 cases h1
 exact h2
theorem Sim.zN(h:Sim P X S loc s tm w){id off:Nat}{cs:List RV}{v:Value}(hb:s.boxes id=some (.var cs))(hr:R S loc (.ptr id off) v):
  ∃b t vs,loc id=some (.var b)∧v= .pointer (some ⟨b,off,none⟩)∧w.heap[b]? =some (.cells vs t (0,0))∧vs.size=cs.length∧
   ∀(i:Nat)c u,cs[i]? =some c->vs[i]? =some u->R S loc c u:=by
 cases hr with
 |ptr _ _ _ L _ hL hv=>
  have:=h.rO hb hL
  cases this with
  |var _ b t vs hw hl hc=>exact⟨b,t,vs,hL,(hv b).1 rfl,hw,hl,hc⟩
theorem Sim.tW(h:Sim P X S loc s tm w){id ver:Nat}{e:TypeId}{es:List PD}{v:Value}(hb:s.boxes id=some (.arr ver e es))(hr:R S loc (.ref id ver) v):
  ∃sz xs,loc id=some (.arr ver e sz v)∧szT P e=some sz∧rowAt w e sz v es.length xs∧Flat S sz es xs:=by
 cases hr with
 |ref _ _ _ L _ hL hv=>
  have:=h.rO hb hL
  cases this with
  |arr _ _ _ sz hdr xs hsz how hf=>
   have:=(hv ver e sz hdr .arr).2 rfl
   subst this
   exact⟨sz,xs,hL,hsz,how,hf⟩
theorem Sim.AU(h:Sim P X S loc s tm w){id ver i o:Nat}{e:TypeId}{es:List PD}{v:Value}(hb:s.boxes id=some (.arr ver e es))(hr:R S loc (.elt id ver i o) v):
  ∃sz xs g n c,loc id=some (.arr ver e sz (.slice (some ⟨g,0,none⟩) n c))∧v= .pointer (some ⟨g,i*sz+o,none⟩)∧szT P e=some sz∧
   rowAt w e sz (.slice (some ⟨g,0,none⟩) n c) es.length xs∧Flat S sz es xs:=by
 cases hr with
 |elt _ _ _ _ _ L _ hL hv=>
  have:=h.rO hb hL
  cases this with
  |arr _ _ _ sz hdr xs hsz how hf=>
   obtain⟨g,n,c,h1,h2⟩:=(hv ver e sz hdr .arr).2 rfl
   subst h1
   exact⟨sz,xs,g,n,c,hL,h2,hsz,how,hf⟩
theorem Sim.wR(h:Sim P X S loc s tm w){id ver lo hi:Nat}{e:TypeId}{es:List PD}{v:Value}(hb:s.boxes id=some (.arr ver e es))(hr:R S loc (.view id ver lo hi) v):
  ∃sz xs hdr,loc id=some (.arr ver e sz hdr)∧szT P e=some sz∧rowAt w e sz hdr es.length xs∧Flat S sz es xs∧v.oneCell'=true∧
   ((lo=hi∧∃a,v= .slice a 0 0)∨∃g n c,hdr= .slice (some ⟨g,0,none⟩) n c∧lo<=hi∧hi<=c∧v= .slice (some ⟨g,lo*sz,none⟩) (hi-lo) (c-lo)):=by
 cases hr with
 |view _ _ _ _ _ L ho hL hv=>
  have:=h.rO hb hL
  cases this with
  |arr _ _ _ sz hdr xs hsz how hf=>exact⟨sz,xs,hdr,hL,hsz,how,hf,ho,(hv ver e sz hdr rfl).2 rfl⟩
theorem uF{t:TypeId}{a:Bool}{n:Nat}(h:sY P t=some (a,n)):(∃d,P.underlying t=some d)∧szT P t=some n∧qg P t=a:=by
 unfold sY at h
 split at h<;>simp only [Option.some.injEq,Prod.mk.injEq,reduceCtorEq]at h
 rename_i d m hd hm
 obtain⟨rfl,rfl⟩:=h
 exact⟨⟨d,hd⟩,hm,rfl⟩
theorem xA{t:TypeId}{n:Nat}(hk:sY P t=some (true,n)){ad:Addr}{vs:List Value}(hl:vs.length=n)(h:∀(j:Nat)v,vs[j]? =some v->w.cell? (ad.add j)=some v):
  (loadVar t ad).run P w= .ok (.agg vs.toArray) w:=by
 obtain⟨⟨d,hd⟩,hn,ha⟩:=uF hk
 subst hl
 simp only [loadVar,Sem.run_bind,sq t hd,ha,Result.andThen_ok,if_true,pS hn,run_loadCells_list w ad vs h,Sem.run_pure]
theorem xB{t:TypeId}{n:Nat}(hk:sY P t=some (false,n)){ad:Addr}{v:Value}(h:w.cell? ad=some v):
  (loadVar t ad).run P w= .ok v w:=by
 obtain⟨⟨d,hd⟩,hn,ha⟩:=uF hk
 simp [loadVar,sq t hd,ha,h]
theorem xD{t:TypeId}{cs:List PD}{b:p8}{v:RV}{u:Ups}{r:List Nat}(hp:ti P t cs b=some ((v,u),r,true)){ad:Addr}{f:Nat->Value}
  (hc:∀(j:Nat)c,cs[j]? =some c->w.cell? (ad.add j)=some (f j)) (hv:∀(j:Nat)c,cs[j]? =some c->V S c (f j)):
  ∃v',(loadVar t ad).run P w= .ok v' w∧R S loc v v'∧u=[]:=by
 unfold ti at hp
 rcases hk:sY P t with _|⟨ka,n⟩
 ·rw [hk]at hp;exact fE _ hp
 rw [hk]at hp
 cases ka
 rotate_left
 ·obtain⟨h1,rfl,h3⟩:=qi hp
  cases h1
  have hn:n<=cs.length:=of_decide_eq_true h3.symm
  refine⟨.agg ((List.range n).map f).toArray,xA hk sm ?_,?_,rfl⟩
  ·intro j v hj
   rw [List.getElem?_map]at hj
   cases hr:(List.range n)[j]? with
   |none=>simp [hr]at hj
   |some k=>
    simp only [hr,Option.map_some,Option.some.injEq]at hj
    subst hj
    obtain⟨hlt,he⟩:=List.getElem?_eq_some_iff.1 hr
    simp at hlt he
    subst he
    exact hc j _ (zd za)
  ·refine .d (.agg _ _ so fun i p v h1 h2=>?_)
   rw [List.getElem?_take]at h1
   split at h1
   ·rename_i hi
    simp [hi]at h2
    subst h2
    exact hv i p h1
   ·cases h1
 ·cases cs with
  |nil=>exact fE _ hp
  |cons c rest=>
   obtain⟨h1,rfl,h3⟩:=pQ hp
   cases h1
   refine⟨f 0,xB hk ?_,.d (hv 0 c rfl),rfl⟩
   have:=hc 0 c rfl
   rwa [Addr.add_zero']at this
theorem Aq{t:TypeId}{cs:List RV}{off:Nat}{b:p8}{v:RV}{u:Ups}{r:List Nat}(hp:rD P t cs off b=some ((v,u),r,true)){bl:Nat}{vs:Array Value}{ty:TypeId}
  (hw:w.heap[bl]? =some (.cells vs ty (0,0))) (hl:vs.size=cs.length) (hv:∀(i:Nat)c x,cs[i]? =some c->vs[i]? =some x->R S loc c x):
  ∃v',(loadVar t ⟨bl,off,none⟩).run P w= .ok v' w∧R S loc v v'∧u=[]:=by
 have hcell:∀j,w.cell? ⟨bl,j,none⟩=vs[j]? :=fun j=>cell_of_row w bl j vs ty (0,0) hw
 unfold rD at hp
 rcases hk:sY P t with _|⟨ka,n⟩
 ·rw [hk]at hp;exact fE _ hp
 rw [hk]at hp
 cases ka
 rotate_left
 ·obtain⟨h1,rfl,h3⟩:=qi hp
  cases h1
  have hn:off+n<=cs.length:=of_decide_eq_true h3.symm
  refine⟨.agg ((vs.toList.drop off).take n).toArray,xA hk so ?_,?_,rfl⟩
  ·intro j v hj
   rw [rH,hcell]
   rw [List.getElem?_take]at hj
   split at hj
   ·simpa using hj
   ·cases hj
  ·refine tP so fun i c x h1 h2=>?_
   rw [List.getElem?_take]at h1
   split at h1
   ·rename_i hi
    rw [List.getElem?_drop]at h1
    refine hv (off+i) c x h1 ?_
    simpa [List.getElem?_take,hi]using h2
   ·cases h1
 ·cases hc:cs[off]? with
  |none=>simp only [hc]at hp;exact fE _ hp
  |some c=>
   simp only [hc]at hp
   obtain⟨h1,rfl,h3⟩:=pQ hp
   cases h1
   have hlt:off<vs.size:=by rw [hl];exact(List.getElem?_eq_some_iff.1 hc).1
   have hx:vs[off]? =some vs[off]:=Array.getElem?_eq_getElem hlt
   exact⟨vs[off],xB hk (by rw [hcell,hx]),hv off v _ hc hx,rfl⟩
theorem xE{t:TypeId}{cs:List RV}{off:Nat}{b:p8}{v:RV}{u:Ups}{r:List Nat}(hp:rD P t cs off b=some ((v,u),r,true)){vs:Array Value}
  (hl:vs.size=cs.length) (hv:∀(i:Nat)c x,cs[i]? =some c->vs[i]? =some x->R S loc c x):
  ∃v',(part t vs off).run P w= .ok v' w∧R S loc v v'∧u=[]:=by
 unfold rD at hp
 rcases hk:sY P t with _|⟨ka,n⟩
 ·rw [hk]at hp;exact fE _ hp
 rw [hk]at hp
 obtain⟨⟨d,hd⟩,hsz,ha⟩:=uF hk
 cases ka
 rotate_left
 ·obtain⟨h1,rfl,h3⟩:=qi hp
  cases h1
  have hn:off+n<=cs.length:=of_decide_eq_true h3.symm
  refine⟨.agg (vs.extract off (off+n)),by simp [part,sq t hd,ha,pS hsz],?_,rfl⟩
  refine tP so fun i c x h1 h2=>?_
  rw [List.getElem?_take]at h1
  split at h1
  ·rename_i hi
   rw [List.getElem?_drop]at h1
   refine hv (off+i) c x h1 ?_
   rw [Array.getElem?_extract]at h2
   split at h2
   ·exact h2
   ·cases h2
  ·cases h1
 ·cases hc:cs[off]? with
  |none=>simp only [hc]at hp;exact fE _ hp
  |some c=>
   simp only [hc]at hp
   obtain⟨h1,rfl,h3⟩:=pQ hp
   cases h1
   have hlt:off<vs.size:=by rw [hl];exact(List.getElem?_eq_some_iff.1 hc).1
   have hx:vs[off]? =some vs[off]:=Array.getElem?_eq_getElem hlt
   refine⟨vs[off],?_,hv off v _ hc hx,rfl⟩
   simp [part,sq t hd,ha,hx]
theorem ve(h:Sim P X S loc s tm w){t:TypeId}{x v:RV}{u:Ups}{r:List Nat}{vx:Value}(hl:tp P t x s.boxes=some ((v,u),r,true))(hx:R S loc x vx):
  ∃v',(Instr.loadAt t vx).run P w= .ok v' w∧R S loc v v'∧u=[]:=by
 cases x with
 |cptr cs=>
  replace hl:ti P t cs s.boxes=some ((v,u),r,true):=hl
  cases hx with
  |cptr _ b o f hS hV=>
   obtain⟨v',h1,h2⟩:=xD (P:=P) (S:=S) (loc:=loc) (w:=w) hl (ad:=⟨b,o,none⟩) (f:=f) (fun j c hj=>by rw [rH];exact h.imm _ _ (hS j c hj)) hV
   exact⟨v',by simpa [Instr.loadAt,Instr.sureAddr]using h1,h2⟩
 |ptr id off=>
  obtain⟨bx,r1,r2,h1,h2,_⟩:=M.bind_some hl
  obtain⟨hb,_,_⟩:=M.get_some h1
  cases bx with
  |var cs=>
   obtain⟨b,ty,vs,hloc,rfl,hw,hlen,hv⟩:=h.zN hb hx
   obtain⟨v',h3,h4⟩:=Aq (P:=P) (S:=S) (loc:=loc) (w:=w) h2 hw hlen hv
   exact⟨v',by simpa [Instr.loadAt,Instr.sureAddr]using h3,h4⟩
  |arr _ _ _=>exact fE _ h2
  |dead=>exact fE _ h2
  |map _ _ _=>exact fE _ h2
 |elt id ver i o=>
  obtain⟨bx,r1,r2,h1,h2,_⟩:=M.bind_some hl
  obtain⟨hb,_,_⟩:=M.get_some h1
  cases bx with
  |arr ver' e es=>
   by_cases hver:ver=ver'
   rotate_left
   ·simp only [hver,if_false]at h2;exact fE _ h2
   simp only [hver,if_true]at h2
   subst hver
   obtain⟨sz,xs,g,n,c,hloc,rfl,hsz,how,hf⟩:=h.AU hb hx
   cases hel:es[i]? with
   |none=>simp only [hel]at h2;exact fE _ h2
   |some el=>
    simp only [hel]at h2
    have hcells:=(how.xc (List.getElem?_eq_some_iff.1 hel |>.1 |> Nat.lt_of_le_of_lt (Nat.zero_le _))).cells (g:=g) rfl
    have key:∀(j:Nat)x,(el.cells.drop o)[j]? =some x->∃u,xs[i*sz+(o+j)]? =some u∧V S x u:=by
     intro j x hj
     rw [List.getElem?_drop]at hj
     exact hf.cell i el (o+j) x hel hj
    obtain⟨v',h3,h4⟩:=xD (P:=P) (S:=S) (loc:=loc) (w:=w) h2 (ad:=⟨g,i*sz+o,none⟩) (f:=fun j=>xs.getD (i*sz+(o+j)) default)
     (fun j c hj => by
      obtain⟨u,hu,_⟩:=key j c hj
      have:=hcells _ u hu
      rw [rH]at this⊢
      simp only [Nat.zero_add]at this
      rw [show i*sz+o+j=i*sz+(o+j)from by omega,this]
      simp [hu])
     (fun j c hj => by
      obtain⟨u,hu,hv⟩:=key j c hj
      simpa [hu]using hv)
    exact⟨v',by simpa [Instr.loadAt,Instr.sureAddr]using h3,h4⟩
  |var _=>exact fE _ h2
  |dead=>exact fE _ h2
  |map _ _ _=>exact fE _ h2
 |d p=>exact fE s.boxes hl
 |undef=>exact fE s.boxes hl
 |junk=>exact fE s.boxes hl
 |mo=>exact fE s.boxes hl
 |agg cs=>exact fE s.boxes hl
 |tup cs=>exact fE s.boxes hl
 |ref a b=>exact fE s.boxes hl
 |view a b c d=>exact fE s.boxes hl
 |clo a b=>exact fE s.boxes hl
 |fview _ _ _=>exact fE s.boxes hl
 |err _=>exact fE s.boxes hl
 |dfull _=>exact fE s.boxes hl
 |ifc _ _=>exact fE s.boxes hl
end
end Go.Dw
