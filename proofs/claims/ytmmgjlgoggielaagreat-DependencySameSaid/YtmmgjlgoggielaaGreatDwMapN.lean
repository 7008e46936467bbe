
import Derived.Test.YtmmgjlgoggielaaGreatDwCall2

namespace Go.Dw
section
variable {P:Program}{X:Ctx}{S:pT}{loc:qp}{s:St}{tm:Array Value}{w:World}
theorem Sim.AH(h:Sim P X S loc s tm w){id:Nat}{L:Loc}(hL:loc id=some L){b:Nat}(hb:L.has b):
  (∀i L',i≠id->loc i=some L'->¬L'.has b)∧(∀o,S ⟨b,o,none⟩=none)∧(b∈X.B0∨X.w0.heap.size<=b):=
 ⟨fun i L' hi hL' hb'=>hi (h.inj i id L' L b hL' hL hb' hb),fun o=>h.sr id L b hL hb o,h.own id L b hL hb⟩
def xg(S:pT)(es:List (PD×PD))(ents:List MapEntry)(i:Nat)(r:Option (Nat×PD×PD))(r':Option (Nat×Value)):Prop:=
 r=none∧r'=none∨∃j x y en,r=some (i+j,x,y)∧r'=some (i+j,en.val)∧es[j]? =some (x,y)∧ents[j]? =some en∧V S x en.key
theorem xg.cons{es:List (PD×PD)}{ents:List MapEntry}{i:Nat}{r:Option (Nat×PD×PD)}{r':Option (Nat×Value)}(h:xg S es ents (i+1) r r')(e:PD×PD)(en:MapEntry):xg S (e::es) (en::ents) i r r':=by
 rcases h with h|⟨j,x,y,v,e1,e2,e3,e4,e5⟩
 ·exact .inl h
 ·exact .inr ⟨j+1,x,y,v,by rw [e1];congr 2;omega,by rw [e2];congr 2;omega,by simpa using e3,by simpa using e4,e5⟩
theorem zB{t:TypeId}{d:TypeDesc}(hu:P.underlying t=some d){k:PD}{vk:Value}(hk:qZ P t k=true)(ha:rV k=false)(h1:V S k vk):∀(es:List (PD×PD))(ents:List MapEntry)(i:Nat){r:Option (Nat×PD×PD)},ents.length=es.length->
  (∀(j:Nat)k x en,es[j]? =some (k,x)->ents[j]? =some en->V S k en.key)->qn P t k es i=some r->
  ∃r',Instr.findNow d vk ents i=some r'∧xg S es ents i r r'
 | [],[],i,r,_,_,hr=>by
  simp only [qn,Option.some.injEq]at hr
  subst hr
  exact⟨none,rfl,.inl ⟨rfl,rfl⟩⟩
 | [],_::_,_,_,hl,_,_=>by simp at hl
 |_::_,[],_,_,hl,_,_=>by simp at hl
 |(x,v)::es,en::ents,i,r,hl,hc,hr=>by
  have a1:=hc 0 x v en rfl rfl
  simp only [qn,w3,ha]at hr
  cases hx:rV x with
  |true=>simp [hx]at hr
  |false=>
  simp only [hx]at hr
  cases hs:tE k x with
  |none=>simp [hs]at hr
  |some b=>
   have hn:=xR hu hk h1 a1 hs
   cases b with
   |true=>
    simp only [hs,Option.some.injEq]at hr
    subst hr
    exact⟨some (i,en.val),by simp only [Instr.findNow,hn],.inr ⟨0,x,v,en,rfl,rfl,rfl,rfl,a1⟩⟩
   |false=>
    simp only [hs]at hr
    obtain⟨r',g1,g2⟩:=zB hu hk ha h1 es ents (i+1) (by simpa using hl) (fun j k x en h1 h2=>hc (j+1) k x en h1 h2) hr
    exact⟨r',by simp only [Instr.findNow,hn];exact g1,g2.cons _ _⟩
theorem zA{t:TypeId}{k:PD}{vk:Value}(ha:rV k=true)(h1:V S k vk):∀(es:List (PD×PD))(ents:List MapEntry)(i:Nat){r:Option (Nat×PD×PD)},ents.length=es.length->
  (∀(j:Nat)k x en,es[j]? =some (k,x)->ents[j]? =some en->V S k en.key)->qn P t k es i=some r->
  ∃r',(Instr.findAsking t vk ents i).run P w= .ok r' w∧xg S es ents i r r'
 | [],[],i,r,_,_,hr=>by
  simp only [qn,Option.some.injEq]at hr
  subst hr
  exact⟨none,rfl,.inl ⟨rfl,rfl⟩⟩
 | [],_::_,_,_,hl,_,_=>by simp at hl
 |_::_,[],_,_,hl,_,_=>by simp at hl
 |(x,v)::es,en::ents,i,r,hl,hc,hr=>by
  have a1:=hc 0 x v en rfl rfl
  simp only [qn,w3,ha]at hr
  cases hx:rV x with
  |false=>simp [hx]at hr
  |true=>
  simp only [hx]at hr
  cases hs:xZ P 20 t k x with
  |none=>simp [hs]at hr
  |some b=>
   have hn:(Op.equal t vk en.key).run P w= .ok b w:=rK (P:=P) (S:=S) (w:=w) 20 9980 t _ _ b _ _ hs h1 a1
   cases b with
   |true=>
    simp only [hs,Option.some.injEq]at hr
    subst hr
    exact⟨some (i,en.val),by simp [Instr.findAsking,hn,Result.andThen],.inr ⟨0,x,v,en,rfl,rfl,rfl,rfl,a1⟩⟩
   |false=>
    simp only [hs]at hr
    obtain⟨r',g1,g2⟩:=zA ha h1 es ents (i+1) (by simpa using hl) (fun j k x en h1 h2=>hc (j+1) k x en h1 h2) hr
    exact⟨r',by simp [Instr.findAsking,hn,Result.andThen,g1],g2.cons _ _⟩
theorem BY{t:TypeId}{k:PD}{vk:Value}(hk:qZ P t k=true)(h1:V S k vk)(es:List (PD×PD))(ents:List MapEntry){r:Option (Nat×PD×PD)}(hl:ents.length=es.length)
  (hc:∀(j:Nat)k x en,es[j]? =some (k,x)->ents[j]? =some en->V S k en.key) (hr:qn P t k es 0=some r):
  ∃r',(Instr.findKey t vk ents).run P w= .ok r' w∧xg S es ents 0 r r':=by
 have hu:∃d,P.underlying t=some d:=by
  unfold qZ at hk
  simp only [sY]at hk
  cases h:P.underlying t with
  |none=>rw [h]at hk;simp at hk
  |some d=>exact⟨d,rfl⟩
 obtain⟨d,hu⟩:=hu
 cases ha:rV k with
 |false=>
  obtain⟨r',g1,g2⟩:=zB hu hk ha h1 es ents 0 hl hc hr
  exact⟨r',MapKept.run_findKey hu g1,g2⟩
 |true=>
  obtain⟨r',g1,g2⟩:=zA (w:=w) ha h1 es ents 0 hl hc hr
  refine⟨r',?_,g2⟩
  have hds:∃fs,d= .struct fs:=by
   unfold qZ at hk
   simp only [sY,hu]at hk
   cases k<;>simp only [rV,Bool.false_eq_true]at ha
   cases d<;>simp only [Bool.false_eq_true]at hk
   exact⟨_,rfl⟩
  obtain⟨fs,rfl⟩:=hds
  cases ents with
  |nil=>simpa [Instr.findKey,run_underlying hu,Result.andThen,Instr.findNow,Instr.findAsking]using g1
  |cons en ents=>
   have hn:Instr.findNow (.struct fs) vk (en::ents) 0=none:=by
    simp only [Instr.findNow,Instr.sameNow]
   simpa [Instr.findKey,run_underlying hu,Result.andThen,hn]using g1
theorem yM(h:Sim P X S loc s tm w){id:Nat}{t:TypeId}{v:RV}{u:Ups}{r:List Nat}(hl:tO P id t s.boxes=some ((v,u),r,true)):
  ∃v' w' loc',(Instr.makeMap t none).run P w= .ok v' w'∧Sim P X S loc' (s.ups u) tm w'∧R S loc' v v':=by
 unfold tO at hl
 rcases hu:P.underlying t with _|d0
 ·simp only [hu]at hl;exact fE s.boxes hl
 rw [hu]at hl
 cases d0<;>first|exact fE s.boxes hl|skip
 rename_i kt vt
 rcases hek:(rT P vt).bind (fun e2=>(szT P e2).map fun k=>(e2,k))with _|⟨e2,_|k⟩
 ·simp only [hek]at hl;exact fE s.boxes hl
 ·simp only [hek]at hl;exact fE s.boxes hl
 simp only [hek]at hl
 obtain⟨e2',he,hz⟩:=Option.bind_eq_some_iff.1 hek
 obtain⟨k',hk',he2⟩:=Option.map_eq_some_iff.1 hz
 simp only [Prod.mk.injEq]at he2
 obtain⟨rfl,rfl⟩:=he2
 obtain⟨_,r1,r2,h1,h2,_⟩:=M.bind_some hl
 obtain⟨hb,_,_⟩:=M.qx h1
 obtain⟨h3, -, -⟩:=M.pJ h2
 cases h3
 have hloc:=h.qc hb
 have hst:pU (loc id) (.mapn w.heap.size []):=by rw [hloc];trivial
 refine⟨.map (some w.heap.size),w.alloc (.map #[] 0),upd loc id (.mapn w.heap.size []),by simp [Instr.makeMap],?_,?_⟩
 ·refine h.qz (Step.alloc w _) id _ _ (fun b hc=>by cases hc) ?_ ?_ hst
  ·exact .mapn kt vt e2' [] none w.heap.size #[] [] ⟨k,hk'⟩ (heap_alloc_new w _) rfl (fun i k x en h1 _=>by simp at h1) .nil sm (fun i e=>by cases e)
  ·intro b hb
   simp only [Loc.has,List.mem_singleton]at hb
   subst hb
   exact .inr (.inl (Nat.le_refl _))
 ·exact .ptr id 0 _ (.mapn w.heap.size []) rfl (pM _ _ _) (fun b=>⟨(fun he=>by cases he),(fun he=>by cases he;rfl)⟩)
theorem ncs_snoc(e2:TypeId)(es:List (PD×List PD))(kp:PD):ncs e2 ((es++[((kp,[]):PD×List PD)]).map fun x=>x.2) ((some es.length).map fun i=>(i,RV.junk))=ncs e2 (es.map fun x=>x.2) ((none:Option Nat).map fun i=>(i,RV.junk))++[.val .junk]:=by
 simp only [Option.map_some,Option.map_none,ncs,List.map_append,List.map_cons,List.map_nil]
 rw [List.set_append_right _ _ sm]
 simp
theorem isZ0_inv{o:Option Value}(h:isZ0 o=true):o=some (.slice none 0 0):=by
 unfold isZ0 at h
 split at h
 ·rfl
 ·cases h
theorem Sim.BJ(h:Sim P X S loc s tm w){id:Nat}{kt vt e2:TypeId}{es:List (PD×List PD)}{lent:Option Nat}{v:Value}(hb:s.boxes id=some (.mapn kt vt e2 es lent))(hr:R S loc (.ptr id 0) v):
  ∃b ents bs k,loc id=some (.mapn b bs)∧v= .map (some b)∧szT P e2=some (k+1)∧w.heap[b]? =some (.map ents ents.size)∧ents.size=es.length∧
   (∀(i:Nat)k x en,es[i]? =some (k,x)->ents[i]? =some en->V S k en.key∧en.born=i)∧
   NCs P S loc w (ncs e2 (es.map (·.2)) (lent.map fun i=>(i,.junk))) (ents.toList.map (·.val)) bs∧(b::bs).Nodup∧∀i,lent=some i->i<es.length:=by
 cases hr with
 |ptr _ _ _ L _ hL hv=>
  have:=h.rN hb hL
  cases this with
  |mapn _ _ _ _ _ b ents bs hs2 hw hl hk hc hnd hi=>
   obtain⟨k,hk2⟩:=hs2
   exact⟨b,ents,bs,k,hL,(hv b).2 .mapn,hk2,hw,hl,hk,hc,hnd,hi⟩
theorem set_same(w:World){b:Nat}{o:Obj}(h:w.heap[b]? =some o):{ w with heap:=w.heap.setIfInBounds b o }=w:=by
 have:w.heap.setIfInBounds b o=w.heap:=by
  apply Array.ext_getElem?
  intro i
  rw [Array.getElem?_setIfInBounds]
  by_cases hi:b=i
  ·subst hi
   rw [if_pos rfl,if_pos (Array.getElem?_eq_some_iff.1 h).1,h]
  ·rw [if_neg hi]
 rw [this]
theorem AJ{es:List (PD×List PD)}{i:Nat}{x y:PD}(h:(ya es)[i]? =some (x,y)):∃row,es[i]? =some (x,row)∧y= .lst row:=by
 unfold ya at h
 rw [List.getElem?_map,Option.map_eq_some_iff]at h
 obtain⟨e,h1,h2⟩:=h
 cases h2
 exact⟨e.2,h1,rfl⟩
theorem Sim.newRow(h:Sim P X S loc s tm w){new sz:Nat}{e2:TypeId}{row:List PD}{v:Value}{ys:List Value}(hnew:s.boxes new=none)(hsz:szT P e2=some sz)(how:rowAt w e2 sz v row.length ys)(hf:Flat S sz row ys)
  (hfree:∀b,qA v=some b->(∀i L,loc i=some L->¬L.has b)∧(∀o,S ⟨b,o,none⟩=none)∧(b∈X.B0∨X.w0.heap.size<=b)):
  ∃loc',Sim P X S loc' { s with boxes:=upd s.boxes new (.arr 0 e2 row) } tm w∧R S loc' (.ref new 0) v∧pS loc loc':=by
 have hvac:loc new=none:=h.qc hnew
 have hst:pU (loc new) (.arr 0 e2 sz v):=by rw [hvac];trivial
 have ho:v.oneCell'=true:=by obtain⟨a,c,rfl,_⟩:=how.hdr;rfl
 refine⟨upd loc new (.arr 0 e2 sz v),h.qz (Step.refl none w) new _ _ (fun b hc=>by cases hc) (.arr 0 e2 row sz v ys hsz how hf) (fun b hb=>?_) hst,?_,pS.upd hst⟩
 ·exact .inr (.inr (hfree b hb))
 ·exact .ref new 0 v _ ho (pM _ _ _) fun ver' e' sz' hdr' he=>by cases he;exact⟨Nat.le_refl _,fun _=>rfl⟩
theorem yb(h:Sim P X S loc s tm w){nid:Nat}{t:TypeId}{x k v:RV}{u:Ups}{r:List Nat}{vx vk:Value}(hl:sZ P nid t x k s.boxes=some ((v,u),r,true))(hx:R S loc x vx)(hk:R S loc k vk):
  ∃v' w' loc',(Instr.mapEntry t vx vk).run P w= .ok v' w'∧Sim P X S loc' (s.ups u) tm w'∧R S loc' v v':=by
 unfold sZ at hl
 rcases hu:P.underlying t with _|d0
 ·simp only [hu]at hl;exact fE s.boxes hl
 rw [hu]at hl
 cases d0<;>first|exact fE s.boxes hl|skip
 rename_i kt vt
 rcases x with _|_|_|_|_|_|_|⟨id,off⟩|_|_|_|_|_<;>first|exact fE s.boxes hl|skip
 cases off<;>first|exact fE s.boxes hl|skip
 rcases k with kp|_|_|_|_|_|_|_|_|_|_|_|_<;>first|exact fE s.boxes hl|skip
 obtain⟨bx,r1,r2,h1,h2,_⟩:=M.bind_some hl
 obtain⟨hb,_,_⟩:=M.get_some h1
 cases bx with
 |var _=>exact fE s.boxes h2
 |arr _ _ _=>exact fE s.boxes h2
 |dead=>exact fE s.boxes h2
 |nest _ _ _ _ _=>exact fE s.boxes h2
 |map _ _ _=>exact fE s.boxes h2
 |mapn kt' vt' e2 es lent=>
  rcases lent with _|lent
  rotate_left
  ·exact fE s.boxes h2
  simp only at h2
  split at h2
  rotate_left
  ·exact fE s.boxes h2
  rename_i hc
  obtain⟨rfl,rfl,hkk,hne⟩:=hc
  obtain⟨_,r3,r4,h3,h4,_⟩:=M.bind_some h2
  obtain⟨hvac,_,_⟩:=M.qx h3
  cases hk with
  |d hk=>
  obtain⟨b,ents,bs,k2,hloc,rfl,hs2,hw,hlen,hen,hnc,hnd, -⟩:=h.BJ hb hx
  rcases hf:qn P kt kp (ya es) 0 with _|r'
  ·simp only [hf]at h4;exact fE s.boxes h4
  obtain ⟨r2', hfk, g2⟩ := BY (w := w) hkk hk (ya es) ents.toList (by simpa [ya] using hlen) (fun j k x en h3 h4 => by
   obtain⟨row,h5,_⟩:=AJ h3
   exact(hen j k row en h5 (by simpa using h4)).1) hf
  have hcheck:(Instr.checkKey false 10000 kt vk).run P w= .ok () w:=uT 20 9980 false kt kp vk hkk hk
  have two : ∀ {loc' : qp} {y : Value} (i : Nat), R S loc' (.ref nid 0) y → R S loc' (.tup [.ref nid 0, .d (.int .i64 i)]) (.tuple #[y, goInt i]) := fun i hv => .tup _ _ rfl (fun j c u hc hu => by
   match j with
   |0=>simp at hc hu;subst hc hu;exact hv
   |1=>simp at hc hu;subst hc hu;exact .d (.int _ _)
   |j+2=>simp at hc)
  have hbn:∀c∈bs,c≠b:=fun c hc e=>(List.nodup_cons.1 hnd).1 (e▸hc)
  rcases g2 with⟨rfl,rfl⟩|⟨i,x0,y0,en,rfl,rfl,hi,hei,hkx⟩
  ·--a new entry
   simp only [hf]at h4
   by_cases hz0:isZ0 (qV P vt)=true
   ·rw [if_pos hz0]at h4
    have hz:=isZ0_inv hz0
    obtain⟨h5, -, -⟩:=M.pJ h4
    cases h5
    obtain⟨ti,hti,htz⟩:=rq hz
    have hrun:(Instr.mapEntry t (.map (some b)) vk).run P w= .ok (.tuple #[.slice none 0 0,goInt ents.size]) { w with heap:=w.heap.setIfInBounds b (.map (ents.push { key:=vk,val:= .slice none 0 0,born:=ents.size }) (ents.size+1)) }:=by
     simp [Instr.mapEntry,run_underlying hu,MapKept.run_getObj_map hw,hcheck,hfk,zeroValue,typeInfo,hti,htz,MapKept.run_setObj_map _ hw,Result.andThen]
    have hlt:b<w.heap.size:=(Array.getElem?_eq_some_iff.1 hw).1
    let w':World:={ w with heap:=w.heap.setIfInBounds b (.map (ents.push { key:=vk,val:= .slice none 0 0,born:=ents.size }) (ents.size+1)) }
    have hstep:Step (some b) w w':=Step.setBlock w b _
    have hst:pU (loc id) (.mapn b bs):=by rw [hloc];exact .same _
    have hkeep:∀c∈bs,w'.heap[c]? =w.heap[c]? :=fun c hc=>hstep.block c (hnc.lt c hc) fun e=>hbn c hc (Option.some.inj e)
    have hnc1:=(hnc.nZ (Sub.refl S) (pS.upd hst) hkeep).append (.cons (.val .junk (.slice none 0 0) (.junk _) rfl) .nil:NCs P S (upd loc id (.mapn b bs)) w' [.val .junk] [.slice none 0 0] ([]++[]))
    have k1:=h.qz hstep id (.mapn kt vt e2 (es++[(kp,[])]) (some es.length)) (.mapn b bs) (fun c hc=>by cases hc;exact⟨_,hloc,List.mem_cons_self ..⟩)
     (.mapn kt vt e2 _ _ b (ents.push { key := vk, val := .slice none 0 0, born := ents.size }) bs ⟨k2, hs2⟩ (by simp [w', hlt]) (by simp [hlen]) (fun i k x en h5 h6 => by
      by_cases hi:i<es.length
      ·rw [List.getElem?_append_left hi]at h5
       rw [Array.getElem?_push_lt za]at h6
       exact hen i k x en h5 (by rw [Array.getElem?_eq_getElem za];exact h6)
      ·rw [List.getElem?_append_right za]at h5
       have:i=es.length:=by
        have:=(List.getElem?_eq_some_iff.1 h5).1
        simp at this;omega
       subst this
       simp at h5
       obtain⟨rfl,rfl⟩:=h5
       rw [<-hlen]at h6
       simp at h6
       subst h6
       exact⟨hk,hlen⟩) (by
      rw [List.append_nil,List.append_nil]at hnc1
      rw [ncs_snoc]
      simpa using hnc1) hnd (fun i e=>by cases e;simp)) (fun c hc=>.inl ⟨_,hloc,hc⟩) hst
    have hvac':upd s.boxes id (Box.mapn kt vt e2 (es++[(kp,[])]) (some es.length)) nid=none:=by rw [pW _ _ hne];exact hvac
    obtain⟨loc',k3,k4,_⟩:=k1.newRow (row:=[]) (ys:=[]) hvac' hs2 (v:= .slice none 0 0) (.inr ⟨rfl,rfl,none,rfl⟩) (Flat.nil S _) (fun c hc=>by cases hc)
    refine⟨_,w',loc',hrun,k3,?_⟩
    rw [hlen]
    exact two es.length k4
   ·rw [if_neg hz0]at h4;exact fE s.boxes h4
  ·--an old one
   obtain⟨row,hes,rfl⟩:=AJ hi
   simp only [Nat.zero_add]at hf hfk
   simp only [hf]at h4
   obtain⟨h5, -,hsm⟩:=M.pP h4
   cases h5
   have hei':ents[i]? =some en:=by simpa using hei
   obtain⟨hkey,hbits⟩:=zD hsm.symm hk hkx
   have hkeepk:(Instr.keyThatStays en.key vk).run P w= .ok vk w:=by
    rw [<-hkey];simp [Instr.keyThatStays,hbits]
   have hborn:=(hen i x0 row en hes hei').2
   have hsame:ents.modify i (fun e=>{ e with key:=vk })=ents:=by
    apply Array.ext_getElem?
    intro j
    rw [Array.getElem?_modify]
    by_cases hj:i=j
    ·subst hj
     rw [if_pos rfl,hei',hkey]
     rfl
    ·rw [if_neg hj]
   have hrun:(Instr.mapEntry t (.map (some b)) vk).run P w= .ok (.tuple #[en.val,goInt i]) w:=by
    have hset:=MapKept.run_setObj_map (P:=P) (.map ents ents.size) hw
    rw [set_same w hw]at hset
    simp [Instr.mapEntry,run_underlying hu,MapKept.run_getObj_map hw,hcheck,hfk,hei',hkeepk,hsame,hset,hborn,Result.andThen]
   have hil:i<es.length:=(List.getElem?_eq_some_iff.1 hes).1
   obtain⟨v0,b0,bs1,bs2,rfl,q2,q3,q4⟩:=hnc.split (AM (e2:=e2) (ess:=es.map (·.2)) (i:=i) (es:=row) (by simp [hes]))
   have hv0:v0=en.val:=by
    simp [hei']at q2
    exact q2.symm
   subst hv0
   cases q3 with
   |row _ _ sz _ ys hsz2 how2 hf2=>
   have hone:en.val.oneCell'=true:=by obtain⟨a,c,e,_⟩:=how2.hdr;rw [e];rfl
   have hst:pU (loc id) (.mapn b (bs1++bs2)):=by rw [hloc];exact .heldm
   have g0:=q4 (.val .junk) en.val [] (.val _ en.val (.junk _) hone)
   rw [Option.map_none,tY e2 _ none i .junk (fun _ _ e=>by cases e),List.nil_append,uE q2]at g0
   have hnd1:(b::(bs1++bs2)).Nodup:=List.Nodup.sublist (List.Sublist.cons_cons _ (List.Sublist.append (List.Sublist.refl _) (List.sublist_append_right _ _))) hnd
   have k1:=h.qz (Step.refl none w) id (.mapn kt vt e2 es (some i)) (.mapn b (bs1++bs2)) (fun c hc=>by cases hc)
    (.mapn kt vt e2 es (some i) b ents _ ⟨k2, hs2⟩ hw hlen hen (g0.nZ (Sub.refl S) (pS.upd hst) fun _ _ => rfl) hnd1 (fun j e => by cases e; exact hil)) (fun c hc => .inl ⟨_, hloc, by
     simp only [Loc.has,List.mem_cons,List.mem_append]at hc⊢
     rcases hc with hc|hc|hc
     ·exact .inl hc
     ·exact .inr (.inl hc)
     ·exact .inr (.inr (.inr hc))⟩) hst
   have hvac':upd s.boxes id (Box.mapn kt vt e2 es (some i)) nid=none:=by rw [pW _ _ hne];exact hvac
   obtain ⟨loc', k3, k4, _⟩ := k1.newRow (row := row) hvac' hsz2 how2 hf2 (fun c hc => by
    have hin:Loc.has (.mapn b (bs1++((qA en.val).toList++bs2))) c:=by
     simp only [Loc.has,List.mem_cons,List.mem_append]
     exact .inr (.inr (.inl (by rw [hc];simp)))
    obtain⟨f1,f2,f3⟩:=h.AH hloc hin
    refine⟨fun j L hj hLc=>?_,f2,f3⟩
    by_cases hji:j=id
    ·subst hji
     rw [pM]at hj
     cases hj
     have hLc:c∈b::(bs1++bs2):=hLc
     rw [hc]at hnd
     simp only [Option.toList_some,List.nodup_cons,List.nodup_append,List.mem_append,List.mem_singleton,not_or]at hnd
     simp only [List.mem_cons,List.mem_append]at hLc
     rcases hLc with hLc|hLc|hLc
     ·exact hnd.1.2.1 hLc.symm
     ·exact hnd.2.2.2 c hLc c (.inl rfl) rfl
     ·exact hnd.2.2.1.2.2 c rfl c hLc rfl
    ·rw [pW _ _ hji]at hj
     exact f1 j L hji hj hLc)
   exact⟨_,w,loc',hrun,k3,two i k4⟩
theorem zR{ents:Array MapEntry}{i:Nat}(h:∀(j:Nat)en,ents[j]? =some en->en.born=j)(hi:i<ents.size):ents.findIdx? (fun e=>(e.born:Int)==(i:Int))=some i:=by
 rw [Array.findIdx?_eq_some_iff_getElem]
 refine⟨hi,?_,fun j hj=>?_⟩
 ·have:=h i ents[i] (Array.getElem?_eq_getElem hi)
  simp [this]
 ·have:=h j (ents[j]'za) (Array.getElem?_eq_getElem za)
  simp [this]
  omega
theorem wT(h:Sim P X S loc s tm w){t:TypeId}{x n y v:RV}{u:Ups}{r:List Nat}{vx vn vy:Value}(hl:rJ x n y s.boxes=some ((v,u),r,true))(hx:R S loc x vx)(hn:R S loc n vn)(hy:R S loc y vy):
  ∃w' loc',(Instr.entryStore t vx vn vy).run P w= .ok () w'∧Sim P X S loc' (s.ups u) tm w'∧v= .undef:=by
 unfold rJ at hl
 split at hl
 rotate_left
 ·exact fE s.boxes hl
 rename_i id q m k kv
 obtain⟨bx,r1,r2,h1,h2,_⟩:=M.bind_some hl
 obtain⟨hb,_,_⟩:=M.get_some h1
 split at h2
 rotate_left
 ·exact fE s.boxes h2
 rename_i kt vt e2 es i
 obtain⟨bk,r3,r4,h3,h4,_⟩:=M.bind_some h2
 obtain⟨hbk,_,_⟩:=M.get_some h3
 split at h4
 rotate_left
 ·exact fE s.boxes h4
 rename_i kv' e' row
 split at h4
 rotate_left
 ·exact fE s.boxes h4
 rename_i hc
 obtain⟨rfl,rfl,hne,rfl⟩:=hc
 rcases hes:es[i]? with _|⟨key,old⟩
 ·simp only [hes]at h4;exact fE s.boxes h4
 simp only [hes]at h4
 obtain⟨h5, -, -⟩:=M.pJ h4
 cases h5
 obtain⟨b,ents,bs,k2,hloc,rfl,hs2,hw,hlen,hen,hnc,hnd, -⟩:=h.BJ hb hx
 have hvn:vn= .int q i:=hn.qi
 subst hvn
 have hil:i<es.length:=(List.getElem?_eq_some_iff.1 hes).1
 obtain⟨Lk,hLk,hBk⟩:=h.boxes k _ hbk
 cases hBk with
 |arr _ _ _ sz hdrk ys hszk howk hfk=>
 have hv:vy=hdrk:=by
  cases hy with
  |ref _ _ _ L' _ hL' hc'=>
   rw [hLk]at hL'
   cases hL'
   exact(hc' _ _ _ _ .arr).2 rfl
 subst hv
 have hlt:b<w.heap.size:=(Array.getElem?_eq_some_iff.1 hw).1
 have hbornall:∀(j:Nat)en,ents[j]? =some en->en.born=j:=fun j en hj=>by
  have hjl:j<es.length:=by rw [<-hlen];exact(Array.getElem?_eq_some_iff.1 hj).1
  exact(hen j es[j].1 es[j].2 en (by rw [ze hjl]) hj).2
 have hrun:(Instr.entryStore t (.map (some b)) (.int q i) vy).run P w= .ok () { w with heap:=w.heap.setIfInBounds b (.map (ents.modify i fun e=>{ e with val:=vy }) ents.size) }:=by
  simp [Instr.entryStore,MapKept.run_getObj_map hw,asInt,asIntOf,zR (i:=i) hbornall za,MapKept.run_setObj_map _ hw,Result.andThen]
 have hst1:pU (loc k) .dead:=by rw [hLk];exact .dead _
 have k1:=h.qz (Step.refl none w) k .dead .dead (fun b hc=>by cases hc) (.dead _ rfl) (fun b hc=>by cases hc) hst1
 have hlid:upd loc k .dead id=some (.mapn b bs):=by rw [pW _ _ (Ne.symm hne)];exact hloc
 obtain⟨v0,b0,bs1,bs2,rfl,q2,q3,q4⟩:=hnc.split (w4 (e2:=e') (ess:=es.map (·.2)) (rv:= .junk) (by simpa using hil))
 cases q3 with
 |val _ _ _ _=>
 have hfree:∀c,qA vy=some c->(∀i L',i≠k->loc i=some L'->¬L'.has c)∧(∀o,S ⟨c,o,none⟩=none)∧(c∈X.B0∨X.w0.heap.size<=c):=fun c hcv=>h.AH hLk hcv
 let L2:Loc:= .mapn b (bs1++((qA vy).toList++bs2))
 have hst2:pU (upd loc k .dead id) L2:=by rw [hlid];exact .heldm
 let w':World:={ w with heap:=w.heap.setIfInBounds b (.map (ents.modify i fun e=>{ e with val:=vy }) ents.size) }
 have hstep:Step (some b) w w':=Step.setBlock w b _
 have g0:=q4 (.row e' row) vy (qA vy).toList (.row e' row sz vy ys hszk howk hfk)
 have hbnot:¬Loc.has (.arr kv e' sz vy) b:=fun hbk=>hne (h.inj k id _ _ b hLk hloc hbk (List.mem_cons_self ..))
 have hkeep:∀c∈bs1++((qA vy).toList++bs2),w'.heap[c]? =w.heap[c]? :=fun c hc=>by
  refine hstep.block c (g0.lt c hc) fun e=>?_
  obtain rfl:=Option.some.inj e
  simp only [List.nil_append,List.nodup_cons,List.mem_append,not_or]at hnd
  simp only [List.mem_append]at hc
  rcases hc with hc|hc|hc
  ·exact hnd.1.1 hc
  ·exact hbnot (by simpa [Loc.has]using hc)
  ·exact hnd.1.2 hc
 have hnd2:(b::(bs1++((qA vy).toList++bs2))).Nodup:=by
  rcases hov:qA vy with _|g
  ·simpa using hnd
  ·have hnot:¬Loc.has (.mapn b (bs1++([]++bs2))) g:=(hfree g hov).1 id _ (Ne.symm hne) hloc
   simp only [Loc.has,List.nil_append,List.mem_cons,List.mem_append,not_or]at hnot
   simp only [List.nil_append,List.nodup_cons,List.nodup_append,List.mem_append,not_or]at hnd
   simp only [Option.toList_some,List.nodup_cons,List.nodup_append,List.mem_append,List.mem_singleton,not_or]
   refine⟨⟨hnd.1.1,fun e=>hnot.1 e.symm,hnd.1.2⟩,hnd.2.1,⟨sm,hnd.2.2.1,fun a ha b hb hab=>?_⟩,fun a ha b hb hab=>?_⟩
   ·subst ha;subst hab;exact hnot.2.2 hb
   ·subst hab
    rcases hb with rfl|hb
    ·exact hnot.2.1 ha
    ·exact hnd.2.2.2 a ha a hb rfl
 have e1:(ncs e' (es.map (·.2)) ((some i).map fun i=>(i,RV.junk))).set i (.row e' row)=ncs e' ((es.set i (key,row)).map (·.2)) ((none:Option Nat).map fun i=>(i,RV.junk)):=by
  simp only [Option.map_some,Option.map_none]
  rw [xU,List.map_set]
 have e3:((ents.modify i fun e=>{ e with val:=vy }).toList.map (·.val))=(ents.toList.map (·.val)).set i vy:=by
  apply List.ext_getElem?
  intro j
  rw [List.getElem?_map,List.getElem?_set,List.getElem?_map]
  simp only [Array.getElem?_toList,Array.getElem?_modify,List.length_map,Array.length_toList]
  by_cases hj:i=j
  ·subst hj
   rw [if_pos rfl,if_pos rfl,if_pos za,Array.getElem?_eq_getElem za]
   rfl
  ·rw [if_neg hj,if_neg hj]
 have k2':=k1.qz hstep id (.mapn kt vt e' (es.set i (key,row)) none) L2 (fun c hc=>by cases hc;exact⟨_,hlid,List.mem_cons_self ..⟩)
  (.mapn kt vt e' _ none b (ents.modify i fun e => { e with val := vy }) _ ⟨k2, hs2⟩ (by simp [w', hlt]) (by simp [hlen]) (fun j k x en h5 h6 => by
   rw [Array.getElem?_modify]at h6
   by_cases hj:i=j
   ·subst hj
    rw [List.getElem?_set_self hil]at h5
    cases h5
    rw [if_pos rfl,Option.map_eq_some_iff]at h6
    obtain⟨en0,h6,rfl⟩:=h6
    exact hen i key old en0 hes h6
   ·rw [List.getElem?_set_ne hj]at h5
    rw [if_neg hj]at h6
    exact hen j k x en h5 h6) (by
   rw [<-e1,e3]
   exact g0.nZ (Sub.refl S) ((pS.upd hst1).trans (pS.upd hst2)) hkeep) hnd2 (fun i e=>by cases e))
  (fun c hc => by
   have hc:c∈b::(bs1++((qA vy).toList++bs2)):=hc
   by_cases hbv:qA vy=some c
   ·obtain⟨f1,f2,f3⟩:=hfree c hbv
    refine .inr (.inr ⟨fun i L' hiL hbL=>?_,f2,f3⟩)
    by_cases hik:i=k
    ·subst hik;rw [pM]at hiL;cases hiL;cases hbL
    ·rw [pW _ _ hik]at hiL
     exact f1 i L' hik hiL hbL
   ·refine .inl ⟨_,hlid,?_⟩
    simp only [Loc.has,List.nil_append,List.mem_cons,List.mem_append]at hc⊢
    rcases hc with hc|hc|hc|hc
    ·exact .inl hc
    ·exact .inr (.inl hc)
    ·exact(hbv (by simpa using hc)).elim
    ·exact .inr (.inr hc)) hst2
 exact⟨w',_,hrun,k2',rfl⟩
end
end Go.Dw
