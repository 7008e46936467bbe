
import Derived.Test.YtfmoipelhfkdkaaGreatDoorDwCopy
import Derived.Test.YtfmoipelhfkdkaaGreatDoorDwEq
import Derived.MapKept
open Go.Result renaming andThen->Er
open Bool renaming and_eq_true->EE, false_eq_true->EL
open Option.some renaming injEq->DJ

namespace Go.Dw
section
variable {P:Program}{X:Ctx}{S:rP}{loc:ss}{s:St}{tm:Array Value}{w:World}
theorem AB(h:Sim P X S loc s tm w){id:Nat}{t:TypeId}{v:RV}{u:Ups}{r:List Nat}(hl:vJ P id t s.boxes=some ((v,u),r,true)):
  ∃v' w' loc',(Instr.makeMap t none).run P w= .ok v' w'∧Sim P X S loc' (s.ups u) tm w'∧R S loc' v v':=by
 unfold vJ at hl
 rcases hu:P.underlying t with _|d0
 ·simp only [hu]at hl;exact fE s.boxes hl
 rw [hu]at hl
 cases d0<;>first|exact fE s.boxes hl|skip
 ·rename_i D E
  obtain⟨_,G,H,h1,q,_⟩:=M.bind_some hl
  obtain⟨g,_,_⟩:=M.sZ h1
  obtain⟨C, -, -⟩:=M.pZ q
  cases C
  have f:=h.si g
  have j:sb (loc id) (.map w.heap.size):=by rw [f];trivial
  refine⟨.map (some w.heap.size),w.alloc (.map #[] 0),upd loc id (.map w.heap.size),by simp [Instr.makeMap],?_,?_⟩
  ·refine h.sW (Step.alloc w _) id _ _ (fun b hc=>by cases hc) ?_ ?_ j
   ·exact .map D E [] w.heap.size 0 #[] (heap_alloc_new w _) rfl (fun i k x F h1 _=>by simp at h1)
   ·intro b g;cases g;exact .inr (.inl (Nat.le_refl _))
  ·exact .ptr id 0 _ (.map w.heap.size) rfl (rK _ _ _) (fun b=>⟨(fun he=>by cases he),(fun he=>by cases he;rfl)⟩)
theorem ya:∀(d n:Nat)(e:Bool)(t:TypeId)(k:PD)(F:Value),vI P d t k=true->V S k F->(Instr.checkKey e (n+d) t F).run P w= .ok () w
 |0,_,_,_,_,_,h,_=>by simp [vI]at h
 |d+1,n,e,t,k,F,h,C=>by
  simp only [vI]at h
  rw [show n+(d+1)=(n+d)+1 by omega]
  unfold Instr.checkKey
  split at h
  ·rename_i q q' m hu
   cases C
   simp [run_underlying hu]
  ·rename_i hu
   cases C
   simp [run_underlying hu]
  ·rename_i hu
   cases C
   simp [run_underlying hu]
  ·rename_i G cs hu
   obtain⟨vs,rfl,hl,hc⟩:=C.uD
   simp only [Sem.run_bind,run_underlying hu,Er]
   have E : ∀ (l : List Field), (l.all fun f => f.name != "_" && (match wu P f.type cs f.offset with | some p => vI P d f.type p | none => false)) = true →
     (forIn l PUnit.unit fun (f : Field) (_ : PUnit) => (do if f.name ≠ "_" then (do Instr.checkKey e (n + d) f.type (← part f.type vs f.offset); pure (.yield PUnit.unit)) else pure (.yield PUnit.unit) : Sem (ForInStep PUnit))).run P w = .ok PUnit.unit w := by
    intro l j
    induction l with
    |nil=>simp
    |cons f r I=>
     simp only [List.all_cons,EE]at j
     obtain⟨⟨h1,u⟩,H⟩:=j
     rcases hp:wu P f.type cs f.offset with _|p
     ·rw [hp]at u;cases u
     rw [hp]at u
     obtain⟨v',g1,g2⟩:=vd (P:=P) (S:=S) (w:=w) hp hl hc
     have g3:=ya d n e f.type p v' u g2
     have D : f.name ≠ "_" := by simpa using h1
     simp only [List.forIn_cons,Sem.run_bind,D,ne_eq,not_false_eq_true,if_true,g1,Er,g3]
     simpa [Sem.run_bind,Er]using I H
   have g:=E G.toList h
   simp only [<-Array.forIn_toList]
   simp only [ne_eq,ite_not]at g⊢
   simp only [bind_pure_comp]at g⊢
   rw [g]
   simp
  ·cases h
theorem AI{a b:PD}{va vb:Value}(h:wP a b=true)(f:V S a va)(g:V S b vb):va=vb∧∀n,Instr.sameBits n va va=true:=by
 unfold wP at h
 split at h
 ·cases f;cases g
  simp only [EE,decide_eq_true_eq]at h
  obtain⟨rfl,rfl⟩:=h
  exact⟨rfl,fun n=>by cases n<;>simp [Instr.sameBits]⟩
 ·cases f;cases g
  simp only [decide_eq_true_eq]at h
  subst h
  exact⟨rfl,fun n=>by cases n<;>simp [Instr.sameBits,MapKept.bytes_beq]⟩
 ·cases f;cases g
  simp only [decide_eq_true_eq]at h
  subst h
  exact⟨rfl,fun n=>by cases n<;>simp [Instr.sameBits]⟩
 ·cases h
theorem AJ:∀{a b:List PD}{va vb:List Value},wQ a b=true->va.length=a.length->vb.length=b.length->(∀(i:Nat)p v,a[i]? =some p->va[i]? =some v->V S p v)->(∀(i:Nat)p v,b[i]? =some p->vb[i]? =some v->V S p v)->va=vb∧∀n,∀v∈va,Instr.sameBits n v v=true
 | [],[],va,vb,_,h1,f,_,_=>by
  cases va<;>cases vb<;>first|exact⟨rfl,fun _ _ h=>by cases h⟩|simp at h1 f
 | [],_::_,_,_,h,_,_,_,_=>by simp [wQ]at h
 |_::_,[],_,_,h,_,_,_,_=>by simp [wQ]at h
 |a::r,b::q,va,vb,h,h1,f,j,k=>by
  simp only [wQ,EE]at h
  cases va with
  |nil=>simp at h1
  |cons x va=>
  cases vb with
  |nil=>simp at f
  |cons y vb=>
  obtain⟨u,e2⟩:=AI h.1 (j 0 a x rfl rfl) (k 0 b y rfl rfl)
  obtain⟨C,D⟩:=AJ h.2 (by simpa using h1) (by simpa using f) (fun i p v g1 g2=>j (i+1) p v g1 g2) (fun i p v g1 g2=>k (i+1) p v g1 g2)
  subst u;subst C
  refine⟨rfl,fun n v g=>?_⟩
  cases g with
  |head=>exact e2 n
  |tail _ g=>exact D n v g
theorem DD{a b:PD}{va vb:Value}(h:xx a b=true)(g:V S a va)(j:V S b vb):va=vb∧Instr.sameBits 10000 va va=true:=by
 unfold xx at h
 split at h
 ·obtain⟨xs,rfl,h1,q⟩:=g.uD
  obtain⟨k,rfl,r,u⟩:=j.uD
  obtain⟨f,e2⟩:=AJ (va:=xs.toList) (vb:=k.toList) h (by simpa using h1) (by simpa using r) (fun i p v g1 g2=>q i p v g1 (by simpa using g2)) (fun i p v g1 g2=>u i p v g1 (by simpa using g2))
  have f:xs=k:=Array.toList_inj.1 f
  subst f
  refine⟨rfl,?_⟩
  show Instr.sameBits (9999+1) _ _=true
  have:∀l:List Value,(∀v∈l,Instr.sameBits 9999 v v=true)->((l.zip l).all fun(x,y)=>Instr.sameBits 9999 x y)=true:=by
   intro l hl
   induction l with
   |nil=>rfl
   |cons v l D=>simp only [List.zip_cons_cons,List.all_cons,hl v (.head _),Bool.true_and];exact D fun x C=>hl x (.tail _ C)
  simp [Instr.sameBits,this xs.toList (e2 9999)]
 ·obtain⟨f,e2⟩:=AI h g j
  exact⟨f,e2 10000⟩
theorem Cd{t:TypeId}{d:TypeDesc}(hu:P.underlying t=some d){k x:PD}{j r:Value}(hk:uF P t k=true)(h1:V S k j)(g:V S x r){b:Bool}(hs:vQ k x=some b):Instr.sameNow d j r=some b:=by
 unfold uF at hk
 simp only [vI]at hk
 split at hk
 ·rename_i q q' n f
  rw [hu]at f
  cases f
  have:=of_decide_eq_true hk
  subst this
  cases h1
  cases x<;>simp only [vQ]at hs<;>first|(cases hs;done)|skip
  cases g
  exact hs
 ·rename_i f
  rw [hu]at f
  cases f
  cases h1
  cases x<;>simp only [vQ]at hs<;>first|(cases hs;done)|skip
  cases g
  rename_i a
  simp only [Instr.sameNow,DJ]at hs⊢
  rw [<-hs,Bool.eq_iff_iff,MapKept.bytes_beq]
  simp
 ·rename_i f
  rw [hu]at f
  cases f
  cases h1
  cases x<;>simp only [vQ]at hs<;>first|(cases hs;done)|skip
  cases g
  exact hs
 ·cases x<;>cases hs
 ·cases hk
def Found(S:rP)(es:List (PD×PD))(f:List MapEntry)(i:Nat)(r:Option (Nat×PD×PD))(k:Option (Nat×Value)):Prop:=
 r=none∧k=none∨∃j x y v,r=some (i+j,x,y)∧k=some (i+j,v)∧j<es.length∧V S y v∧∃g,f[j]? =some g∧V S x g.key
theorem Found.cons{es:List (PD×PD)}{f:List MapEntry}{i:Nat}{r:Option (Nat×PD×PD)}{k:Option (Nat×Value)}(h:Found S es f (i+1) r k)(e:PD×PD)(E:MapEntry):Found S (e::es) (E::f) i r k:=by
 rcases h with h|⟨j,x,y,v,q,e2,F,u,g,C,D⟩
 ·exact .inl h
 ·exact .inr ⟨j+1,x,y,v,by rw [q];congr 2;omega,by rw [e2];congr 2;omega,so,u,g,C,D⟩
theorem B9{t:TypeId}{d:TypeDesc}(hu:P.underlying t=some d){k:PD}{F:Value}(hk:uF P t k=true)(C:vZ k=false)(h1:V S k F):∀(es:List (PD×PD))(f:List MapEntry)(i:Nat){r:Option (Nat×PD×PD)},f.length=es.length->
  (∀(j:Nat)k x q,es[j]? =some (k,x)->f[j]? =some q->V S k q.key∧V S x q.val)->tw P t k es i=some r->
  ∃u,Instr.findNow d F f i=some u∧Found S es f i r u
 | [],[],i,r,_,_,g=>by
  simp only [tw,DJ]at g
  subst g
  exact⟨none,rfl,.inl ⟨rfl,rfl⟩⟩
 | [],_::_,_,_,hl,_,_=>by simp at hl
 |_::_,[],_,_,hl,_,_=>by simp at hl
 |(x,v)::es,q::f,i,r,hl,hc,g=>by
  obtain⟨a1,a2⟩:=hc 0 x v q rfl rfl
  simp only [tw,AA,C]at g
  cases E:vZ x with
  |true=>simp [E]at g
  |false=>
  simp only [E]at g
  cases hs:vQ k x with
  |none=>simp [hs]at g
  |some b=>
   have D:=Cd hu hk h1 a1 hs
   cases b with
   |true=>
    simp only [hs,DJ]at g
    subst g
    exact⟨some (i,q.val),by simp only [Instr.findNow,D],.inr ⟨0,x,v,q.val,rfl,rfl,zc,a2,q,rfl,a1⟩⟩
   |false=>
    simp only [hs]at g
    obtain⟨u,g1,g2⟩:=B9 hu hk C h1 es f (i+1) (by simpa using hl) (fun j k x q h1 G=>hc (j+1) k x q h1 G) g
    exact⟨u,by simp only [Instr.findNow,D];exact g1,g2.cons _ _⟩
theorem B8{t:TypeId}{k:PD}{C:Value}(D:vZ k=true)(h1:V S k C):∀(es:List (PD×PD))(f:List MapEntry)(i:Nat){r:Option (Nat×PD×PD)},f.length=es.length->
  (∀(j:Nat)k x g,es[j]? =some (k,x)->f[j]? =some g->V S k g.key∧V S x g.val)->tw P t k es i=some r->
  ∃u,(Instr.findAsking t C f i).run P w= .ok u w∧Found S es f i r u
 | [],[],i,r,_,_,q=>by
  simp only [tw,DJ]at q
  subst q
  exact⟨none,rfl,.inl ⟨rfl,rfl⟩⟩
 | [],_::_,_,_,hl,_,_=>by simp at hl
 |_::_,[],_,_,hl,_,_=>by simp at hl
 |(x,v)::es,g::f,i,r,hl,hc,q=>by
  obtain⟨a1,a2⟩:=hc 0 x v g rfl rfl
  simp only [tw,AA,D]at q
  cases F:vZ x with
  |false=>simp [F]at q
  |true=>
  simp only [F]at q
  cases hs:An P 20 t k x with
  |none=>simp [hs]at q
  |some b=>
   have E:(Op.equal t C g.key).run P w= .ok b w:=ur (P:=P) (S:=S) (w:=w) 20 9980 t _ _ b _ _ hs h1 a1
   cases b with
   |true=>
    simp only [hs,DJ]at q
    subst q
    exact⟨some (i,g.val),by simp [Instr.findAsking,E,Er],.inr ⟨0,x,v,g.val,rfl,rfl,zc,a2,g,rfl,a1⟩⟩
   |false=>
    simp only [hs]at q
    obtain⟨u,g1,g2⟩:=B8 D h1 es f (i+1) (by simpa using hl) (fun j k x g h1 G=>hc (j+1) k x g h1 G) q
    exact⟨u,by simp [Instr.findAsking,E,Er,g1],g2.cons _ _⟩
theorem Aq{t:TypeId}{k:PD}{E:Value}(hk:uF P t k=true)(h1:V S k E)(es:List (PD×PD))(f:List MapEntry){r:Option (Nat×PD×PD)}(hl:f.length=es.length)
  (hc:∀(j:Nat)k x q,es[j]? =some (k,x)->f[j]? =some q->V S k q.key∧V S x q.val) (F:tw P t k es 0=some r):
  ∃g,(Instr.findKey t E f).run P w= .ok g w∧Found S es f 0 r g:=by
 have hu:∃d,P.underlying t=some d:=by
  unfold uF at hk
  simp only [vI]at hk
  cases h:P.underlying t with
  |none=>rw [h]at hk;simp at hk
  |some d=>exact⟨d,rfl⟩
 obtain⟨d,hu⟩:=hu
 cases C:vZ k with
 |false=>
  obtain⟨g,g1,g2⟩:=B9 hu hk C h1 es f 0 hl hc F
  exact⟨g,MapKept.run_findKey hu g1,g2⟩
 |true=>
  obtain⟨g,g1,g2⟩:=B8 (w:=w) C h1 es f 0 hl hc F
  refine⟨g,?_,g2⟩
  have D:∃u,d= .struct u:=by
   unfold uF at hk
   simp only [vI,hu]at hk
   cases k<;>simp only [vZ,EL]at C
   cases d<;>simp only [EL]at hk
   exact⟨_,rfl⟩
  obtain⟨u,rfl⟩:=D
  cases f with
  |nil=>simpa [Instr.findKey,run_underlying hu,Er,Instr.findNow,Instr.findAsking]using g1
  |cons q f=>
   have G:Instr.findNow (.struct u) E (q::f) 0=none:=by
    simp only [Instr.findNow,Instr.sameNow]
   simpa [Instr.findKey,run_underlying hu,Er,G]using g1
theorem C7{v:Value}{p:PD}(h:tq v=some p):V S p v:=by
 unfold tq at h
 split at h
 ·rename_i cs
  cases f:xK cs.toList with
  |none=>simp [f]at h
  |some ps=>
   simp only [f,Option.map_some,DJ]at h
   subst h
   obtain⟨i1,i2⟩:=zm (S:=S) f
   exact .agg ps cs (by simpa using i1.symm) (fun i p v h1 g=>(i2 i p v h1 (by simpa using g)).1)
 ·exact(zl h).1
theorem AX(h:Sim P X S loc s tm w){t:TypeId}{x k v:RV}{u:Ups}{r:List Nat}{U I:Value}{ok:Bool}(hl:vr P t x k ok s.boxes=some ((v,u),r,true))(hx:R S loc x U)(hk:R S loc k I):
  ∃v',(Instr.lookup t U I ok).run P w= .ok v' w∧R S loc v v'∧u=[]:=by
 unfold vr at hl
 rcases hu:P.underlying t with _|d0
 ·simp only [hu]at hl;exact fE s.boxes hl
 rw [hu]at hl
 cases d0<;>first|exact fE s.boxes hl|skip
 rename_i O vt
 rcases x with _|_|_|_|_|_|_|⟨id,off⟩|_|_|_|_|_<;>first|exact fE s.boxes hl|skip
 cases off<;>first|exact fE s.boxes hl|skip
 rcases k with T|_|_|_|_|_|_|_|_|_|_|_|_<;>first|exact fE s.boxes hl|skip
 obtain⟨Y,r1,r2,h1,f,_⟩:=M.bind_some hl
 obtain⟨hb,_,_⟩:=M.get_some h1
 cases Y with
 |var _=>exact fE s.boxes f
 |arr _ _ _=>exact fE s.boxes f
 |dead=>exact fE s.boxes f
 |nest _ _ _ _ _=>exact fE s.boxes f
 |hole _ _ _ _ _ _=>exact fE s.boxes f
 |map a5 a9 es=>
  simp only at f
  split at f
  rotate_left
  ·exact fE s.boxes f
  rename_i hc
  obtain⟨rfl,rfl,F⟩:=hc
  cases hk with
  |d hk=>
  obtain⟨b,clock,g,Q,rfl,hw,hlen,J⟩:=h.CT hb hx
  have two : ∀ {p : PD} {y : Value} (o : Bool), V S p y → R S loc (.tup [.d p, .d (.bool o)]) (.tuple #[y, .bool o]) := fun o H => .tup _ _ rfl (fun i c u hc hu => by
   match i with
   |0=>simp at hc hu;subst hc hu;exact .d H
   |1=>simp at hc hu;subst hc hu;exact .d (.bool o)
   |i+2=>simp at hc)
  rcases hf:tw P O T es 0 with _|r'
  ·simp only [hf]at f;exact fE s.boxes f
  obtain⟨a6,D,g2⟩:=Aq (w:=w) F hk es g.toList (by simpa using hlen) (fun j k x en q h4=>J j k x en q (by simpa using h4)) hf
  have C:(Instr.checkKey g.isEmpty 10000 O I).run P w= .ok () w:=ya 20 9980 g.isEmpty O T I F hk
  rcases g2 with⟨rfl,rfl⟩|⟨j,x0,x',y,rfl,rfl,hj,H, -⟩
  ·rcases K:(sr P vt).bind tq with _|z
   ·simp only [hf,K]at f;exact fE s.boxes f
   simp only [hf,K]at f
   obtain⟨W,L,N⟩:=Option.bind_eq_some_iff.1 K
   obtain⟨i,hi,E⟩:=tJ L
   have G:=C7 (S:=S) N
   cases ok with
   |true=>
    obtain⟨q, -, -⟩:=rH f
    cases q
    refine⟨.tuple #[W,.bool false],?_,two false G,rfl⟩
    simp [Instr.lookup,run_underlying hu,MapKept.run_getObj_map hw,C,D,zeroValue,typeInfo,hi,E,Er]
   |false=>
    obtain⟨q, -, -⟩:=rH f
    cases q
    refine⟨W,?_,.d G,rfl⟩
    simp [Instr.lookup,run_underlying hu,MapKept.run_getObj_map hw,C,D,zeroValue,typeInfo,hi,E,Er]
  ·simp only [hf]at f
   cases ok with
   |true=>
    obtain⟨q, -, -⟩:=rH f
    cases q
    refine⟨.tuple #[y,.bool true],?_,two true H,rfl⟩
    simp [Instr.lookup,run_underlying hu,MapKept.run_getObj_map hw,C,D,Er]
   |false=>
    obtain⟨q, -, -⟩:=rH f
    cases q
    refine⟨y,?_,.d H,rfl⟩
    simp [Instr.lookup,run_underlying hu,MapKept.run_getObj_map hw,C,D,Er]
theorem Step.setBlock(w:World)(b:Nat)(o:Obj):Step (some b) w { w with heap:=w.heap.setIfInBounds b o }:=
 ⟨rfl, rfl, rfl, zc, fun i _ f => by
  have:b≠i:=fun e=>f (by rw [e])
  simp [Array.getElem?_setIfInBounds_ne this],Nat.le_refl _⟩
theorem AY(h:Sim P X S loc s tm w){t:TypeId}{x k y v:RV}{u:Ups}{r:List Nat}{vx O U:Value}(hl:vu P t x k y s.boxes=some ((v,u),r,true))(hx:R S loc x vx)(hk:R S loc k O)(hy:R S loc y U):
  ∃w' S' loc',(Instr.mapUpdate t vx O U).run P w= .ok () w'∧Sim P X S' loc' (s.ups u) tm w'∧v= .undef:=by
 unfold vu at hl
 rcases hu:P.underlying t with _|d0
 ·simp only [hu]at hl;exact fE s.boxes hl
 rw [hu]at hl
 cases d0<;>first|exact fE s.boxes hl|skip
 rename_i kt vt
 rcases x with _|_|_|_|_|_|_|⟨id,off⟩|_|_|_|_|_<;>first|exact fE s.boxes hl|skip
 cases off<;>first|exact fE s.boxes hl|skip
 rcases k with kp|_|_|_|_|_|_|_|_|_|_|_|_<;>first|exact fE s.boxes hl|skip
 obtain⟨bx,r1,r2,h1,Q,_⟩:=M.bind_some hl
 obtain⟨hb,_,_⟩:=M.get_some h1
 cases bx with
 |var _=>exact fE s.boxes Q
 |arr _ _ _=>exact fE s.boxes Q
 |dead=>exact fE s.boxes Q
 |nest _ _ _ _ _=>exact fE s.boxes Q
 |hole _ _ _ _ _ _=>exact fE s.boxes Q
 |map c5 c6 es=>
  simp only at Q
  split at Q
  rotate_left
  ·exact fE s.boxes Q
  rename_i hc
  obtain⟨rfl,rfl,a5⟩:=hc
  cases hk with
  |d hk=>
  obtain⟨⟨p,u0⟩,r3,r4,h3,F,_⟩:=M.bind_some Q
  obtain⟨a1,a2,a3⟩:=wx h3
  obtain⟨S1,T,b0,L,hle,c0⟩:=h.wF u0 a1 (fun x hx=>.inl (a2 x hx))
  have hp:V S1 p U:=a3 S loc S1 U hy L c0
  have H:=hk.mono L
  rcases hf:tw P kt kp es 0 with _|r'
  ·simp only [hf]at F;exact fE s.boxes F
  have b2:∀(hc:(u0.map (·.1)).contains id=false),id∉u0.map (·.1):=fun hc hm=>by
   rw [List.contains_iff_mem.2 hm]at hc;cases hc
  have go : ∀ (I : List (PD × PD)), ((u0.map (·.1)).contains id = false) → (∀ b clock f, w.heap[b]? = some (.map f clock) → f.size = es.length → (∀ (i : Nat) k x C, es[i]? = some (k, x) → f[i]? = some C → V S1 k C.key ∧ V S1 x C.val) →
    ∃g q,(Instr.mapUpdate t (.map (some b)) O U).run P w= .ok () { w with heap:=w.heap.setIfInBounds b (.map g q) }∧g.size=I.length∧∀(i:Nat)k x C,I[i]? =some (k,x)->g[i]? =some C->V S1 k C.key∧V S1 x C.val)->
    ∃w' S' loc',(Instr.mapUpdate t vx O U).run P w= .ok () w'∧Sim P X S' loc' (s.ups (u0++[(id,.map kt vt I)])) tm w':=by
   intro I J b3
   have b5:(s.ups u0).boxes id=some (.map kt vt es):=by rw [tP _ _ _ (b2 J)];exact hb
   obtain⟨b,clock,f,K,rfl,hw,hlen,E⟩:=b0.CT b5 (hx.mono L hle)
   obtain⟨g,q,g1,g2,g3⟩:=b3 b clock f hw hlen E
   have c1:b<w.heap.size:=(Array.getElem?_eq_some_iff.1 hw).1
   have c3:sb (T id) (.map b):=by rw [K];exact .same _
   refine⟨_,S1,upd T id (.map b),g1,?_⟩
   rw [vM,tW]
   refine b0.sW (Step.setBlock w b _) id _ _ (fun b' b6=>by cases b6;exact⟨_,K,rfl⟩) ?_ (fun b' b4=>by cases b4;exact .inl ⟨_,K,rfl⟩) c3
   exact .map kt vt I b q g (by simp [c1]) g2 g3
  have G:(Instr.checkKey false 10000 kt O).run P w= .ok () w:=ya 20 9980 false kt kp O a5 H
  cases r' with
  |none=>
   simp only [hf]at F
   split at F
   ·exact fE s.boxes F
   rename_i J
   obtain⟨D, -, -⟩:=M.pZ F
   cases D
   obtain ⟨w', S', loc', g1, g2⟩ := go (es ++ [(kp, p)]) (by simpa using J) (fun b clock f hw hlen E => by
    obtain⟨c4,e1,e2⟩:=Aq (w:=w) a5 H es f.toList (by simpa using hlen) (fun j k x C h3 F=>E j k x C h3 (by simpa using F)) hf
    rcases e2 with⟨-,rfl⟩|⟨j,x0,x',y',e3,_⟩
    rotate_left
    ·cases e3
    refine⟨f.push { key:=O,val:=U,born:=clock },clock+1,?_,by simp [hlen],fun i k x C D N=>?_⟩
    ·simp [Instr.mapUpdate,run_underlying hu,MapKept.run_getObj_map hw,G,e1,MapKept.run_setObj_map _ hw,Er]
    ·by_cases hi:i<es.length
     ·rw [List.getElem?_append_left hi]at D
      rw [Array.getElem?_push_lt za]at N
      exact E i k x C D (by rw [Array.getElem?_eq_getElem za];exact N)
     ·rw [List.getElem?_append_right za]at D
      have:i=es.length:=by
       have:=(List.getElem?_eq_some_iff.1 D).1
       simp at this;omega
      subst this
      simp at D
      obtain⟨rfl,rfl⟩:=D
      rw [<-hlen]at N
      simp at N
      subst N
      exact⟨H,hp⟩)
   exact⟨w',S',loc',g1,g2,rfl⟩
  |some r'=>
   obtain⟨i,x0,x'⟩:=r'
   simp only [hf]at F
   split at F
   ·exact fE s.boxes F
   rename_i J
   obtain⟨D, -,c2⟩:=M.rE F
   cases D
   obtain ⟨w', S', loc', g1, g2⟩ := go (es.set i (kp, p)) (by simpa using J) (fun b clock f hw hlen E => by
    obtain⟨c4,e1,e2⟩:=Aq (w:=w) a5 H es f.toList (by simpa using hlen) (fun j k x C h3 F=>E j k x C h3 (by simpa using F)) hf
    rcases e2 with⟨e3,_⟩|⟨j,c7,x',y',e3,rfl,hj,_,a9,e5,e6⟩
    ·cases e3
    simp only [Nat.zero_add,DJ,Prod.mk.injEq]at e3
    obtain⟨rfl,rfl,rfl⟩:=e3
    simp only [Nat.zero_add]at e1
    have a6:f[i]? =some a9:=by simpa using e5
    obtain⟨b1,W⟩:=DD c2.symm H e6
    have Y:(Instr.keyThatStays a9.key O).run P w= .ok O w:=by
     rw [<-b1];simp [Instr.keyThatStays,W]
    refine⟨f.modify i fun e=>{ e with key:=O,val:=U },clock,?_,by simp [hlen],fun m k x C D N=>?_⟩
    ·simp [Instr.mapUpdate,run_underlying hu,MapKept.run_getObj_map hw,G,e1,a6,Y,MapKept.run_setObj_map _ hw,Er]
    ·by_cases hm:i=m
     ·subst hm
      rw [List.getElem?_set_self za]at D
      cases D
      simp [Array.getElem?_modify,a6]at N
      subst N
      exact⟨H,hp⟩
     ·rw [List.getElem?_set_ne hm]at D
      simp [Array.getElem?_modify,hm]at N
      exact E m k x C D N)
   exact⟨w',S',loc',g1,g2,rfl⟩
end
end Go.Dw
