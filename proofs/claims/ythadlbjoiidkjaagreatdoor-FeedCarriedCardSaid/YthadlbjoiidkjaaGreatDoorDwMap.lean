
import Derived.Test.YthadlbjoiidkjaaGreatDoorDwCopy
import Derived.Test.YthadlbjoiidkjaaGreatDoorDwEq
import Derived.MapKept

namespace Go.Dw
section
variable {P:Program}{X:Ctx}{S:pR}{loc:qe}{s:St}{tm:Array Value}{w:World}
theorem yn(h:Sim P X S loc s tm w){id:Nat}{t:TypeId}{v:RV}{u:Ups}{r:List Nat}(hl:tE P id t s.boxes=some ((v,u),r,true)):
  ∃v' w' loc',(Instr.makeMap t none).run P w= .ok v' w'∧Sim P X S loc' (s.ups u) tm w'∧R S loc' v v':=by
 unfold tE at hl
 rcases hu:P.underlying t with _|d0
 ·simp only [hu]at hl;exact fE s.boxes hl
 rw [hu]at hl
 cases d0<;>first|exact fE s.boxes hl|skip
 ·rename_i kt vt
  obtain⟨_,r1,r2,h1,h2,_⟩:=M.bind_some hl
  obtain⟨hb,_,_⟩:=M.qo h1
  obtain⟨h3, -, -⟩:=M.pK h2
  cases h3
  have hloc:=h.qf hb
  have hst:qp (loc id) (.map w.heap.size):=by rw [hloc];trivial
  refine⟨.map (some w.heap.size),w.alloc (.map #[] 0),upd loc id (.map w.heap.size),by simp [Instr.makeMap],?_,?_⟩
  ·refine h.sf (Step.alloc w _) id _ _ (fun b hc=>by cases hc) ?_ ?_ hst
   ·exact .map kt vt [] w.heap.size 0 #[] (heap_alloc_new w _) rfl (fun i k x en h1 _=>by simp at h1)
   ·intro b hb;cases hb;exact .inr (.inl (Nat.le_refl _))
  ·exact .ptr id 0 _ (.map w.heap.size) rfl (pW _ _ _) (fun b=>⟨(fun he=>by cases he),(fun he=>by cases he;rfl)⟩)
theorem vX:∀(d n:Nat)(e:Bool)(t:TypeId)(k:PD)(vk:Value),tC P d t k=true->V S k vk->(Instr.checkKey e (n+d) t vk).run P w= .ok () w
 |0,_,_,_,_,_,h,_=>by simp [tC]at h
 |d+1,n,e,t,k,vk,h,hv=>by
  simp only [tC]at h
  rw [show n+(d+1)=(n+d)+1 by omega]
  unfold Instr.checkKey
  split at h
  ·rename_i q q' m hu
   cases hv
   simp [run_underlying hu]
  ·rename_i hu
   cases hv
   simp [run_underlying hu]
  ·rename_i hu
   cases hv
   simp [run_underlying hu]
  ·rename_i fs cs hu
   obtain⟨vs,rfl,hl,hc⟩:=hv.rY
   simp only [Sem.run_bind,run_underlying hu,Result.andThen]
   have hgo : ∀ (l : List Field), (l.all fun f => f.name != "_" && (match um P f.type cs f.offset with | some p => tC P d f.type p | none => false)) = true →
     (forIn l PUnit.unit fun (f : Field) (_ : PUnit) => (do if f.name ≠ "_" then (do Instr.checkKey e (n + d) f.type (← part f.type vs f.offset); pure (.yield PUnit.unit)) else pure (.yield PUnit.unit) : Sem (ForInStep PUnit))).run P w = .ok PUnit.unit w := by
    intro l hl2
    induction l with
    |nil=>simp
    |cons f r ih=>
     simp only [List.all_cons,Bool.and_eq_true]at hl2
     obtain⟨⟨h1,h2⟩,h3⟩:=hl2
     rcases hp:um P f.type cs f.offset with _|p
     ·rw [hp]at h2;cases h2
     rw [hp]at h2
     obtain⟨v',g1,g2⟩:=tc (P:=P) (S:=S) (w:=w) hp hl hc
     have g3:=vX d n e f.type p v' h2 g2
     have h1' : f.name ≠ "_" := by simpa using h1
     simp only [List.forIn_cons,Sem.run_bind,h1',ne_eq,not_false_eq_true,if_true,g1,Result.andThen,g3]
     simpa [Sem.run_bind,Result.andThen]using ih h3
   have hgo':=hgo fs.toList h
   simp only [<-Array.forIn_toList]
   simp only [ne_eq,ite_not]at hgo'⊢
   simp only [bind_pure_comp]at hgo'⊢
   rw [hgo']
   simp
  ·cases h
theorem yt{a b:PD}{va vb:Value}(h:vC a b=true)(ha:V S a va)(hb:V S b vb):va=vb∧∀n,Instr.sameBits n va va=true:=by
 unfold vC at h
 split at h
 ·cases ha;cases hb
  simp only [Bool.and_eq_true,decide_eq_true_eq]at h
  obtain⟨rfl,rfl⟩:=h
  exact⟨rfl,fun n=>by cases n<;>simp [Instr.sameBits]⟩
 ·cases ha;cases hb
  simp only [decide_eq_true_eq]at h
  subst h
  exact⟨rfl,fun n=>by cases n<;>simp [Instr.sameBits,MapKept.bytes_beq]⟩
 ·cases ha;cases hb
  simp only [decide_eq_true_eq]at h
  subst h
  exact⟨rfl,fun n=>by cases n<;>simp [Instr.sameBits]⟩
 ·cases h
theorem yu:∀{a b:List PD}{va vb:List Value},vD a b=true->va.length=a.length->vb.length=b.length->(∀(i:Nat)p v,a[i]? =some p->va[i]? =some v->V S p v)->(∀(i:Nat)p v,b[i]? =some p->vb[i]? =some v->V S p v)->va=vb∧∀n,∀v∈va,Instr.sameBits n v v=true
 | [],[],va,vb,_,h1,h2,_,_=>by
  cases va<;>cases vb<;>first|exact⟨rfl,fun _ _ h=>by cases h⟩|simp at h1 h2
 | [],_::_,_,_,h,_,_,_,_=>by simp [vD]at h
 |_::_,[],_,_,h,_,_,_,_=>by simp [vD]at h
 |a::r,b::q,va,vb,h,h1,h2,h3,h4=>by
  simp only [vD,Bool.and_eq_true]at h
  cases va with
  |nil=>simp at h1
  |cons x va=>
  cases vb with
  |nil=>simp at h2
  |cons y vb=>
  obtain⟨e1,e2⟩:=yt h.1 (h3 0 a x rfl rfl) (h4 0 b y rfl rfl)
  obtain⟨e3,e4⟩:=yu h.2 (by simpa using h1) (by simpa using h2) (fun i p v g1 g2=>h3 (i+1) p v g1 g2) (fun i p v g1 g2=>h4 (i+1) p v g1 g2)
  subst e1;subst e3
  refine⟨rfl,fun n v hv=>?_⟩
  cases hv with
  |head=>exact e2 n
  |tail _ hv=>exact e4 n v hv
theorem BM{a b:PD}{va vb:Value}(h:wa a b=true)(ha:V S a va)(hb:V S b vb):va=vb∧Instr.sameBits 10000 va va=true:=by
 unfold wa at h
 split at h
 ·obtain⟨xs,rfl,h1,h2⟩:=ha.rY
  obtain⟨ys,rfl,h3,h4⟩:=hb.rY
  obtain⟨e1,e2⟩:=yu (va:=xs.toList) (vb:=ys.toList) h (by simpa using h1) (by simpa using h3) (fun i p v g1 g2=>h2 i p v g1 (by simpa using g2)) (fun i p v g1 g2=>h4 i p v g1 (by simpa using g2))
  have e1:xs=ys:=Array.toList_inj.1 e1
  subst e1
  refine⟨rfl,?_⟩
  show Instr.sameBits (9999+1) _ _=true
  have:∀l:List Value,(∀v∈l,Instr.sameBits 9999 v v=true)->((l.zip l).all fun(x,y)=>Instr.sameBits 9999 x y)=true:=by
   intro l hl
   induction l with
   |nil=>rfl
   |cons v l ih=>simp only [List.zip_cons_cons,List.all_cons,hl v (.head _),Bool.true_and];exact ih fun x hx=>hl x (.tail _ hx)
  simp [Instr.sameBits,this xs.toList (e2 9999)]
 ·obtain⟨e1,e2⟩:=yt h ha hb
  exact⟨e1,e2 10000⟩
theorem Am{t:TypeId}{d:TypeDesc}(hu:P.underlying t=some d){k x:PD}{vk vx:Value}(hk:sd P t k=true)(h1:V S k vk)(h2:V S x vx){b:Bool}(hs:tO k x=some b):Instr.sameNow d vk vx=some b:=by
 unfold sd at hk
 simp only [tC]at hk
 split at hk
 ·rename_i q q' n h3
  rw [hu]at h3
  cases h3
  have:=of_decide_eq_true hk
  subst this
  cases h1
  cases x<;>simp only [tO]at hs<;>first|(cases hs;done)|skip
  cases h2
  exact hs
 ·rename_i h3
  rw [hu]at h3
  cases h3
  cases h1
  cases x<;>simp only [tO]at hs<;>first|(cases hs;done)|skip
  cases h2
  rename_i a
  simp only [Instr.sameNow,Option.some.injEq]at hs⊢
  rw [<-hs,Bool.eq_iff_iff,MapKept.bytes_beq]
  simp
 ·rename_i h3
  rw [hu]at h3
  cases h3
  cases h1
  cases x<;>simp only [tO]at hs<;>first|(cases hs;done)|skip
  cases h2
  exact hs
 ·cases x<;>cases hs
 ·cases hk
def Found(S:pR)(es:List (PD×PD))(ents:List MapEntry)(i:Nat)(r:Option (Nat×PD×PD))(r':Option (Nat×Value)):Prop:=
 r=none∧r'=none∨∃j x y v,r=some (i+j,x,y)∧r'=some (i+j,v)∧j<es.length∧V S y v∧∃en,ents[j]? =some en∧V S x en.key
theorem Found.cons{es:List (PD×PD)}{ents:List MapEntry}{i:Nat}{r:Option (Nat×PD×PD)}{r':Option (Nat×Value)}(h:Found S es ents (i+1) r r')(e:PD×PD)(en:MapEntry):Found S (e::es) (en::ents) i r r':=by
 rcases h with h|⟨j,x,y,v,e1,e2,e3,e4,en',e5,e6⟩
 ·exact .inl h
 ·exact .inr ⟨j+1,x,y,v,by rw [e1];congr 2;omega,by rw [e2];congr 2;omega,so,e4,en',e5,e6⟩
theorem Ag{t:TypeId}{d:TypeDesc}(hu:P.underlying t=some d){k:PD}{vk:Value}(hk:sd P t k=true)(ha:ua k=false)(h1:V S k vk):∀(es:List (PD×PD))(ents:List MapEntry)(i:Nat){r:Option (Nat×PD×PD)},ents.length=es.length->
  (∀(j:Nat)k x en,es[j]? =some (k,x)->ents[j]? =some en->V S k en.key∧V S x en.val)->qC P t k es i=some r->
  ∃r',Instr.findNow d vk ents i=some r'∧Found S es ents i r r'
 | [],[],i,r,_,_,hr=>by
  simp only [qC,Option.some.injEq]at hr
  subst hr
  exact⟨none,rfl,.inl ⟨rfl,rfl⟩⟩
 | [],_::_,_,_,hl,_,_=>by simp at hl
 |_::_,[],_,_,hl,_,_=>by simp at hl
 |(x,v)::es,en::ents,i,r,hl,hc,hr=>by
  obtain⟨a1,a2⟩:=hc 0 x v en rfl rfl
  simp only [qC,yl,ha]at hr
  cases hx:ua x with
  |true=>simp [hx]at hr
  |false=>
  simp only [hx]at hr
  cases hs:tO k x with
  |none=>simp [hs]at hr
  |some b=>
   have hn:=Am hu hk h1 a1 hs
   cases b with
   |true=>
    simp only [hs,Option.some.injEq]at hr
    subst hr
    exact⟨some (i,en.val),by simp only [Instr.findNow,hn],.inr ⟨0,x,v,en.val,rfl,rfl,sm,a2,en,rfl,a1⟩⟩
   |false=>
    simp only [hs]at hr
    obtain⟨r',g1,g2⟩:=Ag hu hk ha h1 es ents (i+1) (by simpa using hl) (fun j k x en h1 h2=>hc (j+1) k x en h1 h2) hr
    exact⟨r',by simp only [Instr.findNow,hn];exact g1,g2.cons _ _⟩
theorem Af{t:TypeId}{k:PD}{vk:Value}(ha:ua k=true)(h1:V S k vk):∀(es:List (PD×PD))(ents:List MapEntry)(i:Nat){r:Option (Nat×PD×PD)},ents.length=es.length->
  (∀(j:Nat)k x en,es[j]? =some (k,x)->ents[j]? =some en->V S k en.key∧V S x en.val)->qC P t k es i=some r->
  ∃r',(Instr.findAsking t vk ents i).run P w= .ok r' w∧Found S es ents i r r'
 | [],[],i,r,_,_,hr=>by
  simp only [qC,Option.some.injEq]at hr
  subst hr
  exact⟨none,rfl,.inl ⟨rfl,rfl⟩⟩
 | [],_::_,_,_,hl,_,_=>by simp at hl
 |_::_,[],_,_,hl,_,_=>by simp at hl
 |(x,v)::es,en::ents,i,r,hl,hc,hr=>by
  obtain⟨a1,a2⟩:=hc 0 x v en rfl rfl
  simp only [qC,yl,ha]at hr
  cases hx:ua x with
  |false=>simp [hx]at hr
  |true=>
  simp only [hx]at hr
  cases hs:yf P 20 t k x with
  |none=>simp [hs]at hr
  |some b=>
   have hn:(Op.equal t vk en.key).run P w= .ok b w:=rK (P:=P) (S:=S) (w:=w) 20 9980 t _ _ b _ _ hs h1 a1
   cases b with
   |true=>
    simp only [hs,Option.some.injEq]at hr
    subst hr
    exact⟨some (i,en.val),by simp [Instr.findAsking,hn,Result.andThen],.inr ⟨0,x,v,en.val,rfl,rfl,sm,a2,en,rfl,a1⟩⟩
   |false=>
    simp only [hs]at hr
    obtain⟨r',g1,g2⟩:=Af ha h1 es ents (i+1) (by simpa using hl) (fun j k x en h1 h2=>hc (j+1) k x en h1 h2) hr
    exact⟨r',by simp [Instr.findAsking,hn,Result.andThen,g1],g2.cons _ _⟩
theorem yh{t:TypeId}{k:PD}{vk:Value}(hk:sd P t k=true)(h1:V S k vk)(es:List (PD×PD))(ents:List MapEntry){r:Option (Nat×PD×PD)}(hl:ents.length=es.length)
  (hc:∀(j:Nat)k x en,es[j]? =some (k,x)->ents[j]? =some en->V S k en.key∧V S x en.val) (hr:qC P t k es 0=some r):
  ∃r',(Instr.findKey t vk ents).run P w= .ok r' w∧Found S es ents 0 r r':=by
 have hu:∃d,P.underlying t=some d:=by
  unfold sd at hk
  simp only [tC]at hk
  cases h:P.underlying t with
  |none=>rw [h]at hk;simp at hk
  |some d=>exact⟨d,rfl⟩
 obtain⟨d,hu⟩:=hu
 cases ha:ua k with
 |false=>
  obtain⟨r',g1,g2⟩:=Ag hu hk ha h1 es ents 0 hl hc hr
  exact⟨r',MapKept.run_findKey hu g1,g2⟩
 |true=>
  obtain⟨r',g1,g2⟩:=Af (w:=w) ha h1 es ents 0 hl hc hr
  refine⟨r',?_,g2⟩
  have hds:∃fs,d= .struct fs:=by
   unfold sd at hk
   simp only [tC,hu]at hk
   cases k<;>simp only [ua,Bool.false_eq_true]at ha
   cases d<;>simp only [Bool.false_eq_true]at hk
   exact⟨_,rfl⟩
  obtain⟨fs,rfl⟩:=hds
  cases ents with
  |nil=>simpa [Instr.findKey,run_underlying hu,Result.andThen,Instr.findNow,Instr.findAsking]using g1
  |cons en ents=>
   have hn:Instr.findNow (.struct fs) vk (en::ents) 0=none:=by
    simp only [Instr.findNow,Instr.sameNow]
   simpa [Instr.findKey,run_underlying hu,Result.andThen,hn]using g1
theorem Bh{v:Value}{p:PD}(h:qW v=some p):V S p v:=by
 unfold qW at h
 split at h
 ·rename_i cs
  cases hz:vE cs.toList with
  |none=>simp [hz]at h
  |some ps=>
   simp only [hz,Option.map_some,Option.some.injEq]at h
   subst h
   obtain⟨i1,i2⟩:=xj (S:=S) hz
   exact .agg ps cs (by simpa using i1.symm) (fun i p v h1 h2=>(i2 i p v h1 (by simpa using h2)).1)
 ·exact(xi h).1
theorem yL(h:Sim P X S loc s tm w){t:TypeId}{x k v:RV}{u:Ups}{r:List Nat}{vx vk:Value}{ok:Bool}(hl:se P t x k ok s.boxes=some ((v,u),r,true))(hx:R S loc x vx)(hk:R S loc k vk):
  ∃v',(Instr.lookup t vx vk ok).run P w= .ok v' w∧R S loc v v'∧u=[]:=by
 unfold se at hl
 rcases hu:P.underlying t with _|d0
 ·simp only [hu]at hl;exact fE s.boxes hl
 rw [hu]at hl
 cases d0<;>first|exact fE s.boxes hl|skip
 rename_i kt vt
 rcases x with _|_|_|_|_|_|_|⟨id,off⟩|_|_|_|_|_<;>first|exact fE s.boxes hl|skip
 cases off<;>first|exact fE s.boxes hl|skip
 rcases k with kp|_|_|_|_|_|_|_|_|_|_|_|_<;>first|exact fE s.boxes hl|skip
 obtain⟨bx,r1,r2,h1,h2,_⟩:=M.bind_some hl
 obtain⟨hb,_,_⟩:=M.get_some h1
 cases bx with
 |var _=>exact fE s.boxes h2
 |arr _ _ _=>exact fE s.boxes h2
 |dead=>exact fE s.boxes h2
 |map kt' vt' es=>
  simp only at h2
  split at h2
  rotate_left
  ·exact fE s.boxes h2
  rename_i hc
  obtain⟨rfl,rfl,hkk⟩:=hc
  cases hk with
  |d hk=>
  obtain⟨b,clock,ents,hloc,rfl,hw,hlen,hen⟩:=h.A5 hb hx
  have two : ∀ {p : PD} {y : Value} (o : Bool), V S p y → R S loc (.tup [.d p, .d (.bool o)]) (.tuple #[y, .bool o]) := fun o hv => .tup _ _ rfl (fun i c u hc hu => by
   match i with
   |0=>simp at hc hu;subst hc hu;exact .d hv
   |1=>simp at hc hu;subst hc hu;exact .d (.bool o)
   |i+2=>simp at hc)
  rcases hf:qC P kt kp es 0 with _|r'
  ·simp only [hf]at h2;exact fE s.boxes h2
  obtain⟨r2',hfk,g2⟩:=yh (w:=w) hkk hk es ents.toList (by simpa using hlen) (fun j k x en h3 h4=>hen j k x en h3 (by simpa using h4)) hf
  have hck:(Instr.checkKey ents.isEmpty 10000 kt vk).run P w= .ok () w:=vX 20 9980 ents.isEmpty kt kp vk hkk hk
  rcases g2 with⟨rfl,rfl⟩|⟨j,x0,x',y,rfl,rfl,hj,hv, -⟩
  ·rcases hz:(qQ P vt).bind qW with _|z
   ·simp only [hf,hz]at h2;exact fE s.boxes h2
   simp only [hf,hz]at h2
   obtain⟨zv,hz1,hz2⟩:=Option.bind_eq_some_iff.1 hz
   obtain⟨i,hi,hiz⟩:=ry hz1
   have hzv:=Bh (S:=S) hz2
   cases ok with
   |true=>
    obtain⟨h3, -, -⟩:=pQ h2
    cases h3
    refine⟨.tuple #[zv,.bool false],?_,two false hzv,rfl⟩
    simp [Instr.lookup,run_underlying hu,MapKept.run_getObj_map hw,hck,hfk,zeroValue,typeInfo,hi,hiz,Result.andThen]
   |false=>
    obtain⟨h3, -, -⟩:=pQ h2
    cases h3
    refine⟨zv,?_,.d hzv,rfl⟩
    simp [Instr.lookup,run_underlying hu,MapKept.run_getObj_map hw,hck,hfk,zeroValue,typeInfo,hi,hiz,Result.andThen]
  ·simp only [hf]at h2
   cases ok with
   |true=>
    obtain⟨h3, -, -⟩:=pQ h2
    cases h3
    refine⟨.tuple #[y,.bool true],?_,two true hv,rfl⟩
    simp [Instr.lookup,run_underlying hu,MapKept.run_getObj_map hw,hck,hfk,Result.andThen]
   |false=>
    obtain⟨h3, -, -⟩:=pQ h2
    cases h3
    refine⟨y,?_,.d hv,rfl⟩
    simp [Instr.lookup,run_underlying hu,MapKept.run_getObj_map hw,hck,hfk,Result.andThen]
theorem Step.setBlock(w:World)(b:Nat)(o:Obj):Step (some b) w { w with heap:=w.heap.setIfInBounds b o }:=
 ⟨rfl, rfl, rfl, sm, fun i _ hn => by
  have:b≠i:=fun e=>hn (by rw [e])
  simp [Array.getElem?_setIfInBounds_ne this],Nat.le_refl _⟩
theorem yM(h:Sim P X S loc s tm w){t:TypeId}{x k y v:RV}{u:Ups}{r:List Nat}{vx vk vy:Value}(hl:tq P t x k y s.boxes=some ((v,u),r,true))(hx:R S loc x vx)(hk:R S loc k vk)(hy:R S loc y vy):
  ∃w' S' loc',(Instr.mapUpdate t vx vk vy).run P w= .ok () w'∧Sim P X S' loc' (s.ups u) tm w'∧v= .undef:=by
 unfold tq at hl
 rcases hu:P.underlying t with _|d0
 ·simp only [hu]at hl;exact fE s.boxes hl
 rw [hu]at hl
 cases d0<;>first|exact fE s.boxes hl|skip
 rename_i kt vt
 rcases x with _|_|_|_|_|_|_|⟨id,off⟩|_|_|_|_|_<;>first|exact fE s.boxes hl|skip
 cases off<;>first|exact fE s.boxes hl|skip
 rcases k with kp|_|_|_|_|_|_|_|_|_|_|_|_<;>first|exact fE s.boxes hl|skip
 obtain⟨bx,r1,r2,h1,h2,_⟩:=M.bind_some hl
 obtain⟨hb,_,_⟩:=M.get_some h1
 cases bx with
 |var _=>exact fE s.boxes h2
 |arr _ _ _=>exact fE s.boxes h2
 |dead=>exact fE s.boxes h2
 |map kt' vt' es=>
  simp only at h2
  split at h2
  rotate_left
  ·exact fE s.boxes h2
  rename_i hc
  obtain⟨rfl,rfl,hkk⟩:=hc
  cases hk with
  |d hk=>
  obtain⟨⟨p,u0⟩,r3,r4,h3,h4,_⟩:=M.bind_some h2
  obtain⟨a1,a2,a3⟩:=uo h3
  obtain⟨S1,loc1,hS1,hsub,hle,hfz⟩:=h.uA u0 a1 (fun x hx=>.inl (a2 x hx))
  have hp:V S1 p vy:=a3 S loc S1 vy hy hsub hfz
  have hk1:=hk.mono hsub
  rcases hf:qC P kt kp es 0 with _|r'
  ·simp only [hf]at h4;exact fE s.boxes h4
  have hnid:∀(hc:(u0.map (·.1)).contains id=false),id∉u0.map (·.1):=fun hc hm=>by
   rw [List.contains_iff_mem.2 hm]at hc;cases hc
  have go : ∀ (es' : List (PD × PD)), ((u0.map (·.1)).contains id = false) → (∀ b clock ents, w.heap[b]? = some (.map ents clock) → ents.size = es.length → (∀ (i : Nat) k x en, es[i]? = some (k, x) → ents[i]? = some en → V S1 k en.key ∧ V S1 x en.val) →
    ∃ents' clock',(Instr.mapUpdate t (.map (some b)) vk vy).run P w= .ok () { w with heap:=w.heap.setIfInBounds b (.map ents' clock') }∧ents'.size=es'.length∧∀(i:Nat)k x en,es'[i]? =some (k,x)->ents'[i]? =some en->V S1 k en.key∧V S1 x en.val)->
    ∃w' S' loc',(Instr.mapUpdate t vx vk vy).run P w= .ok () w'∧Sim P X S' loc' (s.ups (u0++[(id,.map kt vt es')])) tm w':=by
   intro es' hcn hrun
   have hb1:(s.ups u0).boxes id=some (.map kt vt es):=by rw [re _ _ _ (hnid hcn)];exact hb
   obtain⟨b,clock,ents,hloc,rfl,hw,hlen,hen⟩:=hS1.A5 hb1 (hx.mono hsub hle)
   obtain⟨ents',clock',g1,g2,g3⟩:=hrun b clock ents hw hlen hen
   have hlt:b<w.heap.size:=(Array.getElem?_eq_some_iff.1 hw).1
   have hst:qp (loc1 id) (.map b):=by rw [hloc];exact .same _
   refine⟨_,S1,upd loc1 id (.map b),g1,?_⟩
   rw [tL,rr]
   refine hS1.sf (Step.setBlock w b _) id _ _ (fun b' hc'=>by cases hc';exact⟨_,hloc,rfl⟩) ?_ (fun b' hb'=>by cases hb';exact .inl ⟨_,hloc,rfl⟩) hst
   exact .map kt vt es' b clock' ents' (by simp [hlt]) g2 g3
  have hcheck:(Instr.checkKey false 10000 kt vk).run P w= .ok () w:=vX 20 9980 false kt kp vk hkk hk1
  cases r' with
  |none=>
   simp only [hf]at h4
   split at h4
   ·exact fE s.boxes h4
   rename_i hcn
   obtain⟨h5, -, -⟩:=M.pK h4
   cases h5
   obtain ⟨w', S', loc', g1, g2⟩ := go (es ++ [(kp, p)]) (by simpa using hcn) (fun b clock ents hw hlen hen => by
    obtain⟨r2',e1,e2⟩:=yh (w:=w) hkk hk1 es ents.toList (by simpa using hlen) (fun j k x en h3 h4=>hen j k x en h3 (by simpa using h4)) hf
    rcases e2 with⟨-,rfl⟩|⟨j,x0,x',y',e3,_⟩
    rotate_left
    ·cases e3
    refine⟨ents.push { key:=vk,val:=vy,born:=clock },clock+1,?_,by simp [hlen],fun i k x en h5 h6=>?_⟩
    ·simp [Instr.mapUpdate,run_underlying hu,MapKept.run_getObj_map hw,hcheck,e1,MapKept.run_setObj_map _ hw,Result.andThen]
    ·by_cases hi:i<es.length
     ·rw [List.getElem?_append_left hi]at h5
      rw [Array.getElem?_push_lt za]at h6
      exact hen i k x en h5 (by rw [Array.getElem?_eq_getElem za];exact h6)
     ·rw [List.getElem?_append_right za]at h5
      have:i=es.length:=by
       have:=(List.getElem?_eq_some_iff.1 h5).1
       simp at this;omega
      subst this
      simp at h5
      obtain⟨rfl,rfl⟩:=h5
      rw [<-hlen]at h6
      simp at h6
      subst h6
      exact⟨hk1,hp⟩)
   exact⟨w',S',loc',g1,g2,rfl⟩
  |some r'=>
   obtain⟨i,x0,x'⟩:=r'
   simp only [hf]at h4
   split at h4
   ·exact fE s.boxes h4
   rename_i hcn
   obtain⟨h5, -,hsm⟩:=M.pN h4
   cases h5
   obtain ⟨w', S', loc', g1, g2⟩ := go (es.set i (kp, p)) (by simpa using hcn) (fun b clock ents hw hlen hen => by
    obtain⟨r2',e1,e2⟩:=yh (w:=w) hkk hk1 es ents.toList (by simpa using hlen) (fun j k x en h3 h4=>hen j k x en h3 (by simpa using h4)) hf
    rcases e2 with⟨e3,_⟩|⟨j,x0',x',y',e3,rfl,hj,_,en0,e5,e6⟩
    ·cases e3
    simp only [Nat.zero_add,Option.some.injEq,Prod.mk.injEq]at e3
    obtain⟨rfl,rfl,rfl⟩:=e3
    simp only [Nat.zero_add]at e1
    have e5':ents[i]? =some en0:=by simpa using e5
    obtain⟨hkey,hbits⟩:=BM hsm.symm hk1 e6
    have hkeep:(Instr.keyThatStays en0.key vk).run P w= .ok vk w:=by
     rw [<-hkey];simp [Instr.keyThatStays,hbits]
    refine⟨ents.modify i fun e=>{ e with key:=vk,val:=vy },clock,?_,by simp [hlen],fun m k x en h5 h6=>?_⟩
    ·simp [Instr.mapUpdate,run_underlying hu,MapKept.run_getObj_map hw,hcheck,e1,e5',hkeep,MapKept.run_setObj_map _ hw,Result.andThen]
    ·by_cases hm:i=m
     ·subst hm
      rw [List.getElem?_set_self za]at h5
      cases h5
      simp [Array.getElem?_modify,e5']at h6
      subst h6
      exact⟨hk1,hp⟩
     ·rw [List.getElem?_set_ne hm]at h5
      simp [Array.getElem?_modify,hm]at h6
      exact hen m k x en h5 h6)
   exact⟨w',S',loc',g1,g2,rfl⟩
end
end Go.Dw
