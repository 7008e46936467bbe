
import Derived.Test.YtfmoipelhfkdkaaGreatDoorDwPure
open List renaming getElem?_drop->DE, getElem?_take->DF, range->DG
open Nat renaming lt_of_le_of_lt->DH, zero_add->DI, zero_le->DJ

namespace Go.Dw
theorem sJ(b o j:Nat):(⟨b,o,none⟩:Addr).add j=⟨b,o+j,none⟩:=by unfold Addr.add;split<;>simp_all
section
variable {P:Program}{X:Ctx}{S:rC}{loc:sf}{s:St}{tm:Array Value}{w:World}
theorem Sim.tA(h:Sim P X S loc s tm w){id:Nat}{f:Box}(k:s.boxes id=some f){L:Loc}(j:loc id=some L):u9 P S loc w f L:=by
 obtain⟨q,h1,g⟩:=h.boxes id f k
 rw [j]at h1
 cases h1
 exact g
theorem Sim.Bt(h:Sim P X S loc s tm w){id off:Nat}{cs:List RV}{v:Value}(g:s.boxes id=some (.var cs))(j:R S loc (.ptr id off) v):
  ∃b t vs,loc id=some (.var b)∧v= .pointer (some ⟨b,off,none⟩)∧w.heap[b]? =some (.cells vs t (0,0))∧vs.size=cs.length∧
   ∀(i:Nat)c u,cs[i]? =some c->vs[i]? =some u->R S loc c u:=by
 cases j with
 |ptr _ _ _ L _ f k=>
  have:=h.tA g f
  cases this with
  |var _ b t vs hw hl hc=>exact⟨b,t,vs,f,(k b).1 rfl,hw,hl,hc⟩
theorem Sim.vL(h:Sim P X S loc s tm w){id ver:Nat}{e:TypeId}{es:List PD}{v:Value}(j:s.boxes id=some (.arr ver e es))(k:R S loc (.ref id ver) v):
  ∃sz xs,loc id=some (.arr ver e sz v)∧szT P e=some sz∧rowAt w e sz v es.length xs∧Flat S sz es xs:=by
 cases k with
 |ref _ _ _ L _ g q=>
  have:=h.tA j g
  cases this with
  |arr _ _ _ sz hdr xs f how hf=>
   have:=(q ver e sz hdr .arr).2 rfl
   subst this
   exact⟨sz,xs,g,f,how,hf⟩
theorem Sim.Cm(h:Sim P X S loc s tm w){id ver i o:Nat}{e:TypeId}{es:List PD}{v:Value}(q:s.boxes id=some (.arr ver e es))(r:R S loc (.elt id ver i o) v):
  ∃sz xs g n c,loc id=some (.arr ver e sz (.slice (some ⟨g,0,none⟩) n c))∧v= .pointer (some ⟨g,i*sz+o,none⟩)∧szT P e=some sz∧
   rowAt w e sz (.slice (some ⟨g,0,none⟩) n c) es.length xs∧Flat S sz es xs:=by
 cases r with
 |elt _ _ _ _ _ L _ j u=>
  have:=h.tA q j
  cases this with
  |arr _ _ _ sz hdr xs f how hf=>
   obtain⟨g,n,c,h1,k⟩:=(u ver e sz hdr .arr).2 rfl
   subst h1
   exact⟨sz,xs,g,n,c,j,k,f,how,hf⟩
theorem Sim.CU(h:Sim P X S loc s tm w){id ver i o:Nat}{e:TypeId}{es:List PD}{rv:RV}{v:Value}(k:s.boxes id=some (.hole ver e es i o rv))(f:R S loc (.ref id ver) v):
  ∃sz xs u,loc id=some (.arr ver e sz v)∧szT P e=some sz∧rowAt w e sz v es.length xs∧yS S sz es xs i o∧i<es.length∧o<sz∧xs[i*sz+o]? =some u∧R S loc rv u:=by
 cases f with
 |ref _ _ _ L _ j q=>
  have:=h.tA k j
  cases this with
  |hole _ _ _ _ _ _ sz hdr xs u g how hf hi ho hu f=>
   have:=(q ver e sz hdr .arr).2 rfl
   subst this
   exact⟨sz,xs,u,j,g,how,hf,hi,ho,hu,f⟩
theorem Sim.Bd(h:Sim P X S loc s tm w){id ver i o j q:Nat}{e:TypeId}{es:List PD}{rv:RV}{v:Value}(C:s.boxes id=some (.hole ver e es j q rv))(f:R S loc (.elt id ver i o) v):
  ∃sz xs u g n c,loc id=some (.arr ver e sz (.slice (some ⟨g,0,none⟩) n c))∧v= .pointer (some ⟨g,i*sz+o,none⟩)∧szT P e=some sz∧
   rowAt w e sz (.slice (some ⟨g,0,none⟩) n c) es.length xs∧yS S sz es xs j q∧j<es.length∧q<sz∧xs[j*sz+q]? =some u∧R S loc rv u:=by
 cases f with
 |elt _ _ _ _ _ L _ r D=>
  have:=h.tA C r
  cases this with
  |hole _ _ _ _ _ _ sz hdr xs u k how hf hi ho hu f=>
   obtain⟨g,n,c,h1,B⟩:=(D ver e sz hdr .arr).2 rfl
   subst h1
   exact⟨sz,xs,u,g,n,c,r,B,k,how,hf,hi,ho,hu,f⟩
theorem Sim.Bi(h:Sim P X S loc s tm w){id ver:Nat}{e e2:TypeId}{ess:List (List PD)}{f:Option (Nat×RV)}{v:Value}(u:s.boxes id=some (.nest ver e e2 ess f))(B:R S loc (.ref id ver) v):
  ∃xs bs k,loc id=some (.nest ver e 1 v bs)∧szT P e=some 1∧szT P e2=some (k+1)∧rowAt w e 1 v ess.length xs∧NCs P S loc w (ncs e2 ess f) xs bs∧((sX v).toList++bs).Nodup∧∀i rv,f=some (i,rv)->i<ess.length:=by
 cases B with
 |ref _ _ _ L _ r C=>
  have:=h.tA u r
  cases this with
  |nest _ _ _ _ _ hdr xs bs q j how hc g hi=>
   have:=(C ver e 1 hdr .nest).2 rfl
   subst this
   obtain⟨k,hk⟩:=j
   exact⟨xs,bs,k,r,q,hk,how,hc,g,hi⟩
theorem Sim.CZ(h:Sim P X S loc s tm w){id ver i o:Nat}{e e2:TypeId}{ess:List (List PD)}{f:Option (Nat×RV)}{v:Value}(C:s.boxes id=some (.nest ver e e2 ess f))(D:R S loc (.elt id ver i o) v):
  ∃xs bs k g n c,loc id=some (.nest ver e 1 (.slice (some ⟨g,0,none⟩) n c) bs)∧v= .pointer (some ⟨g,i+o,none⟩)∧szT P e=some 1∧szT P e2=some (k+1)∧
   rowAt w e 1 (.slice (some ⟨g,0,none⟩) n c) ess.length xs∧NCs P S loc w (ncs e2 ess f) xs bs∧((sX (.slice (some ⟨g,0,none⟩) n c)).toList++bs).Nodup∧∀i rv,f=some (i,rv)->i<ess.length:=by
 cases D with
 |elt _ _ _ _ _ L _ u E=>
  have:=h.tA C u
  cases this with
  |nest _ _ _ _ _ hdr xs bs r q how hc j hi=>
   obtain⟨g,n,c,h1,B⟩:=(E ver e 1 hdr .nest).2 rfl
   subst h1
   obtain⟨k,hk⟩:=q
   exact⟨xs,bs,k,g,n,c,u,by rw [B,Nat.mul_one],r,hk,how,hc,j,hi⟩
theorem Sim.yt(h:Sim P X S loc s tm w){id ver lo hi:Nat}{e:TypeId}{es:List PD}{v:Value}(k:s.boxes id=some (.arr ver e es))(q:R S loc (.view id ver lo hi) v):
  ∃sz xs hdr,loc id=some (.arr ver e sz hdr)∧szT P e=some sz∧rowAt w e sz hdr es.length xs∧Flat S sz es xs∧v.oneCell'=true∧
   ((lo=hi∧∃a,v= .slice a 0 0)∨∃g n c,hdr= .slice (some ⟨g,0,none⟩) n c∧lo<=hi∧hi<=c∧v= .slice (some ⟨g,lo*sz,none⟩) (hi-lo) (c-lo)):=by
 cases q with
 |view _ _ _ _ _ L ho j r=>
  have:=h.tA k j
  cases this with
  |arr _ _ _ sz hdr xs f how hf=>exact⟨sz,xs,hdr,j,f,how,hf,ho,(r ver e sz hdr rfl).2 rfl⟩
theorem wA{t:TypeId}{a:Bool}{n:Nat}(h:tV P t=some (a,n)):(∃d,P.underlying t=some d)∧szT P t=some n∧sh P t=a:=by
 unfold tV at h
 split at h<;>simp only [Option.some.injEq,Prod.mk.injEq,reduceCtorEq]at h
 rename_i d m f hm
 obtain⟨rfl,rfl⟩:=h
 exact⟨⟨d,f⟩,hm,rfl⟩
theorem zi{t:TypeId}{n:Nat}(hk:tV P t=some (true,n)){ad:Addr}{vs:List Value}(hl:vs.length=n)(h:∀(j:Nat)v,vs[j]? =some v->w.cell? (ad.add j)=some v):
  (loadVar t ad).run P w= .ok (.agg vs.toArray) w:=by
 obtain⟨⟨d,g⟩,k,f⟩:=wA hk
 subst hl
 simp only [loadVar,Sem.run_bind,uF t g,f,Result.andThen_ok,if_true,rD k,run_loadCells_list w ad vs h,Sem.run_pure]
theorem uP{t:TypeId}{n:Nat}(hk:tV P t=some (false,n)){ad:Addr}{v:Value}(h:w.cell? ad=some v):
  (loadVar t ad).run P w= .ok v w:=by
 obtain⟨⟨d,g⟩,j,f⟩:=wA hk
 simp [loadVar,uF t g,f,h]
theorem zj{t:TypeId}{cs:List PD}{b:rY}{v:RV}{u:Ups}{r:List Nat}(hp:uu P t cs b=some ((v,u),r,true)){ad:Addr}{f:Nat->Value}
  (hc:∀(j:Nat)c,cs[j]? =some c->w.cell? (ad.add j)=some (f j)) (E:∀(j:Nat)c,cs[j]? =some c->V S c (f j)):
  ∃v',(loadVar t ad).run P w= .ok v' w∧R S loc v v'∧u=[]:=by
 unfold uu at hp
 rcases hk:tV P t with _|⟨F,n⟩
 ·rw [hk]at hp;exact fE _ hp
 rw [hk]at hp
 cases F
 rotate_left
 ·obtain⟨h1,rfl,D⟩:=rR hp
  cases h1
  have G:n<=cs.length:=of_decide_eq_true D.symm
  refine⟨.agg ((DG n).map f).toArray,zi hk zc ?_,?_,rfl⟩
  ·intro j v g
   rw [List.getElem?_map]at g
   cases B:(DG n)[j]? with
   |none=>simp [B]at g
   |some k=>
    simp only [B,Option.map_some,Option.some.injEq]at g
    subst g
    obtain⟨q,he⟩:=List.getElem?_eq_some_iff.1 B
    simp at q he
    subst he
    exact hc j _ (zf za)
  ·refine .d (.agg _ _ so fun i p v h1 C=>?_)
   rw [DF]at h1
   split at h1
   ·rename_i hi
    simp [hi]at C
    subst C
    exact E i p h1
   ·cases h1
 ·cases cs with
  |nil=>exact fE _ hp
  |cons c rest=>
   obtain⟨h1,rfl,D⟩:=rp hp
   cases h1
   refine⟨f 0,uP hk ?_,.d (E 0 c rfl),rfl⟩
   have:=hc 0 c rfl
   rwa [Addr.add_zero']at this
theorem BW{t:TypeId}{cs:List RV}{off:Nat}{b:rY}{v:RV}{u:Ups}{r:List Nat}(hp:uv P t cs off b=some ((v,u),r,true)){g:Nat}{vs:Array Value}{ty:TypeId}
  (hw:w.heap[g]? =some (.cells vs ty (0,0))) (hl:vs.size=cs.length) (C:∀(i:Nat)c x,cs[i]? =some c->vs[i]? =some x->R S loc c x):
  ∃v',(loadVar t ⟨g,off,none⟩).run P w= .ok v' w∧R S loc v v'∧u=[]:=by
 have f:∀j,w.cell? ⟨g,j,none⟩=vs[j]? :=fun j=>cell_of_row w g j vs ty (0,0) hw
 unfold uv at hp
 rcases hk:tV P t with _|⟨F,n⟩
 ·rw [hk]at hp;exact fE _ hp
 rw [hk]at hp
 cases F
 rotate_left
 ·obtain⟨h1,rfl,B⟩:=rR hp
  cases h1
  have G:off+n<=cs.length:=of_decide_eq_true B.symm
  refine⟨.agg ((vs.toList.drop off).take n).toArray,zi hk so ?_,?_,rfl⟩
  ·intro j v k
   rw [sJ,f]
   rw [DF]at k
   split at k
   ·simpa using k
   ·cases k
  ·refine vF so fun i c x h1 E=>?_
   rw [DF]at h1
   split at h1
   ·rename_i hi
    rw [DE]at h1
    refine C (off+i) c x h1 ?_
    simpa [DF,hi]using E
   ·cases h1
 ·cases hc:cs[off]? with
  |none=>simp only [hc]at hp;exact fE _ hp
  |some c=>
   simp only [hc]at hp
   obtain⟨h1,rfl,B⟩:=rp hp
   cases h1
   have q:off<vs.size:=by rw [hl];exact(List.getElem?_eq_some_iff.1 hc).1
   have D:vs[off]? =some vs[off]:=Array.getElem?_eq_getElem q
   exact⟨vs[off],uP hk (by rw [f,D]),C off v _ hc D,rfl⟩
theorem zk{t:TypeId}{cs:List RV}{off:Nat}{b:rY}{v:RV}{u:Ups}{r:List Nat}(hp:uv P t cs off b=some ((v,u),r,true)){vs:Array Value}
  (hl:vs.size=cs.length) (C:∀(i:Nat)c x,cs[i]? =some c->vs[i]? =some x->R S loc c x):
  ∃v',(part t vs off).run P w= .ok v' w∧R S loc v v'∧u=[]:=by
 unfold uv at hp
 rcases hk:tV P t with _|⟨E,n⟩
 ·rw [hk]at hp;exact fE _ hp
 rw [hk]at hp
 obtain⟨⟨d,B⟩,j,q⟩:=wA hk
 cases E
 rotate_left
 ·obtain⟨h1,rfl,k⟩:=rR hp
  cases h1
  have F:off+n<=cs.length:=of_decide_eq_true k.symm
  refine⟨.agg (vs.extract off (off+n)),by simp [part,uF t B,q,rD j],?_,rfl⟩
  refine vF so fun i c x h1 f=>?_
  rw [DF]at h1
  split at h1
  ·rename_i hi
   rw [DE]at h1
   refine C (off+i) c x h1 ?_
   rw [Array.getElem?_extract]at f
   split at f
   ·exact f
   ·cases f
  ·cases h1
 ·cases hc:cs[off]? with
  |none=>simp only [hc]at hp;exact fE _ hp
  |some c=>
   simp only [hc]at hp
   obtain⟨h1,rfl,k⟩:=rp hp
   cases h1
   have g:off<vs.size:=by rw [hl];exact(List.getElem?_eq_some_iff.1 hc).1
   have D:vs[off]? =some vs[off]:=Array.getElem?_eq_getElem g
   refine⟨vs[off],?_,C off v _ hc D,rfl⟩
   simp [part,uF t B,q,D]
theorem w7(h:Sim P X S loc s tm w){t:TypeId}{x v:RV}{u:Ups}{r:List Nat}{vx:Value}(hl:uf P t x s.boxes=some ((v,u),r,true))(J:R S loc x vx):
  ∃v',(Instr.loadAt t vx).run P w= .ok v' w∧R S loc v v'∧u=[]:=by
 cases x with
 |cptr cs=>
  replace hl:uu P t cs s.boxes=some ((v,u),r,true):=hl
  cases J with
  |cptr _ b o f hS hV=>
   obtain⟨v',h1,C⟩:=zj (P:=P) (S:=S) (loc:=loc) (w:=w) hl (ad:=⟨b,o,none⟩) (f:=f) (fun j c I=>by rw [sJ];exact h.imm _ _ (hS j c I)) hV
   exact⟨v',by simpa [Instr.loadAt,Instr.sureAddr]using h1,C⟩
 |ptr id off=>
  obtain⟨O,r1,r2,h1,C,_⟩:=M.bind_some hl
  obtain⟨K,_,_⟩:=M.get_some h1
  cases O with
  |var cs=>
   obtain⟨b,ty,vs,E,rfl,hw,hlen,W⟩:=h.Bt K J
   obtain⟨v',G,N⟩:=BW (P:=P) (S:=S) (loc:=loc) (w:=w) C hw hlen W
   exact⟨v',by simpa [Instr.loadAt,Instr.sureAddr]using G,N⟩
  |arr _ _ _=>exact fE _ C
  |dead=>exact fE _ C
  |map _ _ _=>exact fE _ C
  |nest _ _ _ _ _=>exact fE _ C
  |hole _ _ _ _ _ _=>exact fE _ C
 |elt id ver i o=>
  obtain⟨O,r1,r2,h1,C,_⟩:=M.bind_some hl
  obtain⟨K,_,_⟩:=M.get_some h1
  cases O with
  |arr D e es=>
   by_cases F:ver=D
   rotate_left
   ·simp only [F,if_false]at C;exact fE _ C
   simp only [F,if_true]at C
   subst F
   obtain⟨sz,xs,g,n,c,E,rfl,L,how,hf⟩:=h.Cm K J
   cases H:es[i]? with
   |none=>simp only [H]at C;exact fE _ C
   |some el=>
    simp only [H]at C
    have B:=(how.vP (List.getElem?_eq_some_iff.1 H |>.1 |> DH (DJ _))).cells (g:=g) rfl
    have key:∀(j:Nat)x,(el.cells.drop o)[j]? =some x->∃u,xs[i*sz+(o+j)]? =some u∧V S x u:=by
     intro j x I
     rw [DE]at I
     exact hf.cell i el (o+j) x H I
    obtain⟨v',G,N⟩:=zj (P:=P) (S:=S) (loc:=loc) (w:=w) C (ad:=⟨g,i*sz+o,none⟩) (f:=fun j=>xs.getD (i*sz+(o+j)) default)
     (fun j c I => by
      obtain⟨u,hu,_⟩:=key j c I
      have:=B _ u hu
      rw [sJ]at this⊢
      simp only [DI]at this
      rw [show i*sz+o+j=i*sz+(o+j)from by omega,this]
      simp [hu])
     (fun j c I => by
      obtain⟨u,hu,W⟩:=key j c I
      simpa [hu]using W)
    exact⟨v',by simpa [Instr.loadAt,Instr.sureAddr]using G,N⟩
  |var _=>exact fE _ C
  |dead=>exact fE _ C
  |map _ _ _=>exact fE _ C
  |hole D e es j q rv=>
   by_cases hc:ver=D∧i=j∧o=q
   rotate_left
   ·simp only [if_neg hc]at C;exact fE _ C
   simp only [if_pos hc]at C
   obtain⟨rfl,rfl,rfl⟩:=hc
   rcases hk:tV P t with _|⟨_|_,n⟩
   ·simp only [hk]at C;exact fE _ C
   rotate_left
   ·simp only [hk]at C;exact fE _ C
   simp only [hk]at C
   obtain⟨G, -, -⟩:=M.qw C
   cases G
   obtain⟨sz,xs,u,g,n',c,E,rfl,L,how,hf,hi,ho,hu,U⟩:=h.Bd K J
   have B:=(how.vP (DH (DJ _) hi)).cells (g:=g) rfl _ u hu
   rw [sJ]at B
   simp only [DI]at B
   have:=uP (P:=P) (w:=w) hk (ad:=⟨g,i*sz+o,none⟩) (v:=u) B
   exact⟨u,by simpa [Instr.loadAt,Instr.sureAddr]using this,U,rfl⟩
  |nest D e e2 ess hh=>
   rcases hh with _|⟨j,rv⟩
   ·exact fE _ C
   by_cases hc:ver=D∧i=j∧o=0
   rotate_left
   ·simp only [if_neg hc]at C;exact fE _ C
   simp only [if_pos hc]at C
   obtain⟨rfl,rfl,rfl⟩:=hc
   rcases hk:tV P t with _|⟨_|_,n⟩
   ·simp only [hk]at C;exact fE _ C
   rotate_left
   ·simp only [hk]at C;exact fE _ C
   simp only [hk]at C
   obtain⟨G, -, -⟩:=M.qw C
   cases G
   obtain⟨xs,bs,k,g,n',c,E,rfl,L,a9,how,T,a6,Q⟩:=h.CZ K J
   have hi:=Q i v rfl
   obtain⟨v',b,a5,bs2,N,h5,h6,h7⟩:=T.split (Ao (e2:=e2) (ess:=ess) (rv:=v) hi)
   cases h6 with
   |val _ _ U h1=>
    have B:=(how.vP (DH (DJ _) hi)).cells (g:=g) rfl i v' h5
    rw [sJ]at B
    simp only [DI]at B
    have:=uP (P:=P) (w:=w) hk (ad:=⟨g,i,none⟩) (v:=v') B
    exact⟨v',by simpa [Instr.loadAt,Instr.sureAddr]using this,U,rfl⟩
 |d p=>exact fE s.boxes hl
 |undef=>exact fE s.boxes hl
 |junk=>exact fE s.boxes hl
 |pY=>exact fE s.boxes hl
 |agg cs=>exact fE s.boxes hl
 |tup cs=>exact fE s.boxes hl
 |ref a b=>exact fE s.boxes hl
 |view a b c d=>exact fE s.boxes hl
 |clo a b=>exact fE s.boxes hl
 |fview _ _ _=>exact fE s.boxes hl
 |err _=>exact fE s.boxes hl
 |dfull _=>exact fE s.boxes hl
 |ifc _ _=>exact fE s.boxes hl
 |plit _=>exact fE s.boxes hl
 |pcp c=>
  rcases hk:tV P t with _|⟨_|_,n⟩
  ·simp only [uf,hk]at hl;exact fE s.boxes hl
  rotate_left
  ·simp only [uf,hk]at hl;exact fE s.boxes hl
  simp only [uf,hk]at hl
  obtain⟨G, -, -⟩:=M.qw hl
  cases G
  cases J with
  |pcp _ b o Y hS hV=>
   have:=uP (P:=P) (w:=w) hk (ad:=⟨b,o,none⟩) (v:=Y) (h.imm _ _ hS)
   exact⟨Y,by simpa [Instr.loadAt,Instr.sureAddr]using this,hV,rfl⟩
end
end Go.Dw
