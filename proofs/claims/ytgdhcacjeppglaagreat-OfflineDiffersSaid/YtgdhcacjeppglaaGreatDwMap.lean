
import Derived.Test.YtgdhcacjeppglaaGreatDwCopy
import Derived.Test.YtgdhcacjeppglaaGreatDwEq
import Derived.MapKept
open Go.Result renaming andThen->B3
open Bool renaming and_eq_true->Ac, false_eq_true->Aj
open Option.some renaming injEq->AD

namespace Go.Dw
section
variable {P:Program}{X:Ctx}{S:cp}{loc:cJ}{s:St}{tm:Array Value}{w:World}
theorem ko(h:Sim P X S loc s tm w){id:Nat}{t:TypeId}{v:RV}{u:Ups}{r:List Nat}(hl:eS P id t s.boxes=some ((v,u),r,true)):
  ∃v' w' loc',(Instr.makeMap t none).run P w= .ok v' w'∧Sim P X S loc' (s.ups u) tm w'∧R S loc' v v':=by
 unfold eS at hl
 rcases hu:P.underlying t with _|d0
 ·simp only [hu]at hl;exact fE s.boxes hl
 rw [hu]at hl
 cases d0<;>first|exact fE s.boxes hl|skip
 ·rename_i g j
  obtain⟨_,m,n,h1,e,_⟩:=M.bind_some hl
  obtain⟨hb,_,_⟩:=M.cU h1
  obtain⟨f, -, -⟩:=M.cd e
  cases f
  have a:=h.cE hb
  have c:cj (loc id) (.map w.heap.size):=by rw [a];trivial
  refine⟨.map (some w.heap.size),w.alloc (.map #[] 0),upd loc id (.map w.heap.size),by simp [Instr.makeMap],?_,?_⟩
  ·refine h.cw (Step.alloc w _) id _ _ (fun b hc=>by cases hc) ?_ ?_ c
   ·exact .map g j [] w.heap.size 0 #[] (heap_alloc_new w _) rfl (fun i k x l h1 _=>by simp at h1)
   ·intro b hb;cases hb;exact .inr (.inl (Nat.le_refl _))
  ·exact .ptr id 0 _ (.map w.heap.size) rfl (cf _ _ _) (fun b=>⟨(fun he=>by cases he),(fun he=>by cases he;rfl)⟩)
theorem gj:∀(d n:Nat)(e:Bool)(t:TypeId)(k:PD)(u:Value),eD P d t k=true->V S k u->(Instr.checkKey e (n+d) t u).run P w= .ok () w
 |0,_,_,_,_,_,h,_=>by simp [eD]at h
 |d+1,n,e,t,k,u,h,g=>by
  simp only [eD]at h
  rw [show n+(d+1)=(n+d)+1 by omega]
  unfold Instr.checkKey
  split at h
  ·rename_i q z m hu
   cases g
   simp [run_underlying hu]
  ·rename_i hu
   cases g
   simp [run_underlying hu]
  ·rename_i hu
   cases g
   simp [run_underlying hu]
  ·rename_i v cs hu
   obtain⟨vs,rfl,hl,hc⟩:=g.ej
   simp only [Sem.run_bind,run_underlying hu,B3]
   have j : ∀ (l : List Field), (l.all fun f => f.name != "_" && (match fT P f.type cs f.offset with | some p => eD P d f.type p | none => false)) = true →
     (forIn l PUnit.unit fun (f : Field) (_ : PUnit) => (do if f.name ≠ "_" then (do Instr.checkKey e (n + d) f.type (← part f.type vs f.offset); pure (.yield PUnit.unit)) else pure (.yield PUnit.unit) : Sem (ForInStep PUnit))).run P w = .ok PUnit.unit w := by
    intro l b
    induction l with
    |nil=>simp
    |cons f r y=>
     simp only [List.all_cons,Ac]at b
     obtain⟨⟨h1,c⟩,x⟩:=b
     rcases o:fT P f.type cs f.offset with _|p
     ·rw [o]at c;cases c
     rw [o]at c
     obtain⟨v',g1,g2⟩:=eT (P:=P) (S:=S) (w:=w) o hl hc
     have g3:=gj d n e f.type p v' c g2
     have i : f.name ≠ "_" := by simpa using h1
     simp only [List.forIn_cons,Sem.run_bind,i,ne_eq,not_false_eq_true,if_true,g1,B3,g3]
     simpa [Sem.run_bind,B3]using y x
   have a:=j v.toList h
   simp only [<-Array.forIn_toList]
   simp only [ne_eq,ite_not]at a⊢
   simp only [bind_pure_comp]at a⊢
   rw [a]
   simp
  ·cases h
theorem kB{a b:PD}{va vb:Value}(h:hJ a b=true)(c:V S a va)(hb:V S b vb):va=vb∧∀n,Instr.sameBits n va va=true:=by
 unfold hJ at h
 split at h
 ·cases c;cases hb
  simp only [Ac,decide_eq_true_eq]at h
  obtain⟨rfl,rfl⟩:=h
  exact⟨rfl,fun n=>by cases n<;>simp [Instr.sameBits]⟩
 ·cases c;cases hb
  simp only [decide_eq_true_eq]at h
  subst h
  exact⟨rfl,fun n=>by cases n<;>simp [Instr.sameBits,MapKept.bytes_beq]⟩
 ·cases c;cases hb
  simp only [decide_eq_true_eq]at h
  subst h
  exact⟨rfl,fun n=>by cases n<;>simp [Instr.sameBits]⟩
 ·cases h
theorem kC:∀{a b:List PD}{va vb:List Value},hM a b=true->va.length=a.length->vb.length=b.length->(∀(i:Nat)p v,a[i]? =some p->va[i]? =some v->V S p v)->(∀(i:Nat)p v,b[i]? =some p->vb[i]? =some v->V S p v)->va=vb∧∀n,∀v∈va,Instr.sameBits n v v=true
 | [],[],va,vb,_,h1,c,_,_=>by
  cases va<;>cases vb<;>first|exact⟨rfl,fun _ _ h=>by cases h⟩|simp at h1 c
 | [],_::_,_,_,h,_,_,_,_=>by simp [hM]at h
 |_::_,[],_,_,h,_,_,_,_=>by simp [hM]at h
 |a::r,b::q,va,vb,h,h1,c,f,g=>by
  simp only [hM,Ac]at h
  cases va with
  |nil=>simp at h1
  |cons x va=>
  cases vb with
  |nil=>simp at c
  |cons y vb=>
  obtain⟨j,e2⟩:=kB h.1 (f 0 a x rfl rfl) (g 0 b y rfl rfl)
  obtain⟨k,l⟩:=kC h.2 (by simpa using h1) (by simpa using c) (fun i p v g1 g2=>f (i+1) p v g1 g2) (fun i p v g1 g2=>g (i+1) p v g1 g2)
  subst j;subst k
  refine⟨rfl,fun n v e=>?_⟩
  cases e with
  |head=>exact e2 n
  |tail _ e=>exact l n v e
theorem lf{a b:PD}{va vb:Value}(h:ix a b=true)(e:V S a va)(hb:V S b vb):va=vb∧Instr.sameBits 10000 va va=true:=by
 unfold ix at h
 split at h
 ·obtain⟨xs,rfl,h1,f⟩:=e.ej
  obtain⟨ys,rfl,g,j⟩:=hb.ej
  obtain⟨c,e2⟩:=kC (va:=xs.toList) (vb:=ys.toList) h (by simpa using h1) (by simpa using g) (fun i p v g1 g2=>f i p v g1 (by simpa using g2)) (fun i p v g1 g2=>j i p v g1 (by simpa using g2))
  have c:xs=ys:=Array.toList_inj.1 c
  subst c
  refine⟨rfl,?_⟩
  show Instr.sameBits (9999+1) _ _=true
  have:∀l:List Value,(∀v∈l,Instr.sameBits 9999 v v=true)->((l.zip l).all fun(x,y)=>Instr.sameBits 9999 x y)=true:=by
   intro l hl
   induction l with
   |nil=>rfl
   |cons v l m=>simp only [List.zip_cons_cons,List.all_cons,hl v (.head _),Bool.true_and];exact m fun x k=>hl x (.tail _ k)
  simp [Instr.sameBits,this xs.toList (e2 9999)]
 ·obtain⟨c,e2⟩:=kB h e hb
  exact⟨c,e2 10000⟩
theorem jH{t:TypeId}{d:TypeDesc}(hu:P.underlying t=some d){k x:PD}{g i:Value}(hk:di P t k=true)(h1:V S k g)(f:V S x i){b:Bool}(c:e9 k x=some b):Instr.sameNow d g i=some b:=by
 unfold di at hk
 simp only [eD]at hk
 split at hk
 ·rename_i q j n e
  rw [hu]at e
  cases e
  have:=of_decide_eq_true hk
  subst this
  cases h1
  cases x<;>simp only [e9]at c<;>first|(cases c;done)|skip
  cases f
  exact c
 ·rename_i e
  rw [hu]at e
  cases e
  cases h1
  cases x<;>simp only [e9]at c<;>first|(cases c;done)|skip
  cases f
  rename_i a
  simp only [Instr.sameNow,AD]at c⊢
  rw [<-c,Bool.eq_iff_iff,MapKept.bytes_beq]
  simp
 ·rename_i e
  rw [hu]at e
  cases e
  cases h1
  cases x<;>simp only [e9]at c<;>first|(cases c;done)|skip
  cases f
  exact c
 ·cases x<;>cases c
 ·cases hk
def Found(S:cp)(es:List (PD×PD))(a:List MapEntry)(i:Nat)(r:Option (Nat×PD×PD))(c:Option (Nat×Value)):Prop:=
 r=none∧c=none∨∃j x y v,r=some (i+j,x,y)∧c=some (i+j,v)∧j<es.length∧V S y v∧∃b,a[j]? =some b∧V S x b.key
theorem Found.cons{es:List (PD×PD)}{a:List MapEntry}{i:Nat}{r:Option (Nat×PD×PD)}{c:Option (Nat×Value)}(h:Found S es a (i+1) r c)(e:PD×PD)(m:MapEntry):Found S (e::es) (m::a) i r c:=by
 rcases h with h|⟨j,x,y,v,f,e2,n,g,b,k,l⟩
 ·exact .inl h
 ·exact .inr ⟨j+1,x,y,v,by rw [f];congr 2;omega,by rw [e2];congr 2;omega,so,g,b,k,l⟩
theorem mw{t:TypeId}{d:TypeDesc}(hu:P.underlying t=some d){k:PD}{p:Value}(hk:di P t k=true)(m:dL k=false)(h1:V S k p):∀(es:List (PD×PD))(a:List MapEntry)(i:Nat){r:Option (Nat×PD×PD)},a.length=es.length->
  (∀(j:Nat)k x e,es[j]? =some (k,x)->a[j]? =some e->V S k e.key∧V S x e.val)->cO P t k es i=some r->
  ∃g,Instr.findNow d p a i=some g∧Found S es a i r g
 | [],[],i,r,_,_,c=>by
  simp only [cO,AD]at c
  subst c
  exact⟨none,rfl,.inl ⟨rfl,rfl⟩⟩
 | [],_::_,_,_,hl,_,_=>by simp at hl
 |_::_,[],_,_,hl,_,_=>by simp at hl
 |(x,v)::es,e::a,i,r,hl,hc,c=>by
  obtain⟨l,a2⟩:=hc 0 x v e rfl rfl
  simp only [cO,iO,m]at c
  cases o:dL x with
  |true=>simp [o]at c
  |false=>
  simp only [o]at c
  cases f:e9 k x with
  |none=>simp [f]at c
  |some b=>
   have n:=jH hu hk h1 l f
   cases b with
   |true=>
    simp only [f,AD]at c
    subst c
    exact⟨some (i,e.val),by simp only [Instr.findNow,n],.inr ⟨0,x,v,e.val,rfl,rfl,sm,a2,e,rfl,l⟩⟩
   |false=>
    simp only [f]at c
    obtain⟨g,g1,g2⟩:=mw hu hk m h1 es a (i+1) (by simpa using hl) (fun j k x e h1 q=>hc (j+1) k x e h1 q) c
    exact⟨g,by simp only [Instr.findNow,n];exact g1,g2.cons _ _⟩
theorem mu{t:TypeId}{k:PD}{l:Value}(n:dL k=true)(h1:V S k l):∀(es:List (PD×PD))(a:List MapEntry)(i:Nat){r:Option (Nat×PD×PD)},a.length=es.length->
  (∀(j:Nat)k x c,es[j]? =some (k,x)->a[j]? =some c->V S k c.key∧V S x c.val)->cO P t k es i=some r->
  ∃g,(Instr.findAsking t l a i).run P w= .ok g w∧Found S es a i r g
 | [],[],i,r,_,_,e=>by
  simp only [cO,AD]at e
  subst e
  exact⟨none,rfl,.inl ⟨rfl,rfl⟩⟩
 | [],_::_,_,_,hl,_,_=>by simp at hl
 |_::_,[],_,_,hl,_,_=>by simp at hl
 |(x,v)::es,c::a,i,r,hl,hc,e=>by
  obtain⟨m,a2⟩:=hc 0 x v c rfl rfl
  simp only [cO,iO,n]at e
  cases p:dL x with
  |false=>simp [p]at e
  |true=>
  simp only [p]at e
  cases f:jN P 20 t k x with
  |none=>simp [f]at e
  |some b=>
   have o:(Op.equal t l c.key).run P w= .ok b w:=dF (P:=P) (S:=S) (w:=w) 20 9980 t _ _ b _ _ f h1 m
   cases b with
   |true=>
    simp only [f,AD]at e
    subst e
    exact⟨some (i,c.val),by simp [Instr.findAsking,o,B3],.inr ⟨0,x,v,c.val,rfl,rfl,sm,a2,c,rfl,m⟩⟩
   |false=>
    simp only [f]at e
    obtain⟨g,g1,g2⟩:=mu n h1 es a (i+1) (by simpa using hl) (fun j k x c h1 q=>hc (j+1) k x c h1 q) e
    exact⟨g,by simp [Instr.findAsking,o,B3,g1],g2.cons _ _⟩
theorem kf{t:TypeId}{k:PD}{i:Value}(hk:di P t k=true)(h1:V S k i)(es:List (PD×PD))(a:List MapEntry){r:Option (Nat×PD×PD)}(hl:a.length=es.length)
  (hc:∀(j:Nat)k x c,es[j]? =some (k,x)->a[j]? =some c->V S k c.key∧V S x c.val) (l:cO P t k es 0=some r):
  ∃b,(Instr.findKey t i a).run P w= .ok b w∧Found S es a 0 r b:=by
 have hu:∃d,P.underlying t=some d:=by
  unfold di at hk
  simp only [eD]at hk
  cases h:P.underlying t with
  |none=>rw [h]at hk;simp at hk
  |some d=>exact⟨d,rfl⟩
 obtain⟨d,hu⟩:=hu
 cases f:dL k with
 |false=>
  obtain⟨b,g1,g2⟩:=mw hu hk f h1 es a 0 hl hc l
  exact⟨b,MapKept.run_findKey hu g1,g2⟩
 |true=>
  obtain⟨b,g1,g2⟩:=mu (w:=w) f h1 es a 0 hl hc l
  refine⟨b,?_,g2⟩
  have g:∃e,d= .struct e:=by
   unfold di at hk
   simp only [eD,hu]at hk
   cases k<;>simp only [dL,Aj]at f
   cases d<;>simp only [Aj]at hk
   exact⟨_,rfl⟩
  obtain⟨e,rfl⟩:=g
  cases a with
  |nil=>simpa [Instr.findKey,run_underlying hu,B3,Instr.findNow,Instr.findAsking]using g1
  |cons c a=>
   have m:Instr.findNow (.struct e) i (c::a) 0=none:=by
    simp only [Instr.findNow,Instr.sameNow]
   simpa [Instr.findKey,run_underlying hu,B3,m]using g1
theorem nO{v:Value}{p:PD}(h:ey v=some p):V S p v:=by
 unfold ey at h
 split at h
 ·rename_i cs
  cases a:hO cs.toList with
  |none=>simp [a]at h
  |some c=>
   simp only [a,Option.map_some,AD]at h
   subst h
   obtain⟨i1,i2⟩:=jr (S:=S) a
   exact .agg c cs (by simpa using i1.symm) (fun i p v h1 b=>(i2 i p v h1 (by simpa using b)).1)
 ·exact(jq h).1
theorem kO(h:Sim P X S loc s tm w){t:TypeId}{x k v:RV}{u:Ups}{r:List Nat}{L C:Value}{ok:Bool}(hl:fb P t x k ok s.boxes=some ((v,u),r,true))(U:R S loc x L)(hk:R S loc k C):
  ∃v',(Instr.lookup t L C ok).run P w= .ok v' w∧R S loc v v'∧u=[]:=by
 unfold fb at hl
 rcases hu:P.underlying t with _|d0
 ·simp only [hu]at hl;exact fE s.boxes hl
 rw [hu]at hl
 cases d0<;>first|exact fE s.boxes hl|skip
 rename_i H vt
 rcases x with _|_|_|_|_|_|_|⟨id,off⟩|_|_|_|_|_<;>first|exact fE s.boxes hl|skip
 cases off<;>first|exact fE s.boxes hl|skip
 rcases k with K|_|_|_|_|_|_|_|_|_|_|_|_<;>first|exact fE s.boxes hl|skip
 obtain⟨O,r1,r2,h1,a,_⟩:=M.bind_some hl
 obtain⟨hb,_,_⟩:=M.get_some h1
 cases O with
 |var _=>exact fE s.boxes a
 |arr _ _ _=>exact fE s.boxes a
 |dead=>exact fE s.boxes a
 |nest _ _ _ _ _=>exact fE s.boxes a
 |mapn _ _ _ _ _=>exact fE s.boxes a
 |hole _ _ _ _ _ _=>exact fE s.boxes a
 |deep _ _ _ _ _ _ _=>exact fE s.boxes a
 |map W a0 es=>
  simp only at a
  split at a
  rotate_left
  ·exact fE s.boxes a
  rename_i hc
  obtain⟨rfl,rfl,n⟩:=hc
  cases hk with
  |d hk=>
  obtain⟨b,clock,e,J,rfl,hw,hlen,D⟩:=h.nB hb U
  have two : ∀ {p : PD} {y : Value} (o : Bool), V S p y → R S loc (.tup [.d p, .d (.bool o)]) (.tuple #[y, .bool o]) := fun o B => .tup _ _ rfl (fun i c u hc hu => by
   match i with
   |0=>simp at hc hu;subst hc hu;exact .d B
   |1=>simp at hc hu;subst hc hu;exact .d (.bool o)
   |i+2=>simp at hc)
  rcases hf:cO P H K es 0 with _|r'
  ·simp only [hf]at a;exact fE s.boxes a
  obtain⟨Y,l,g2⟩:=kf (w:=w) n hk es e.toList (by simpa using hlen) (fun j k x Q f T=>D j k x Q f (by simpa using T)) hf
  have g:(Instr.checkKey e.isEmpty 10000 H C).run P w= .ok () w:=gj 20 9980 e.isEmpty H K C n hk
  rcases g2 with⟨rfl,rfl⟩|⟨j,x0,x',y,rfl,rfl,hj,B, -⟩
  ·rcases E:(df P vt).bind ey with _|z
   ·simp only [hf,E]at a;exact fE s.boxes a
   simp only [hf,E]at a
   obtain⟨N,F,G⟩:=Option.bind_eq_some_iff.1 E
   obtain⟨i,I,m⟩:=c8 F
   have q:=nO (S:=S) G
   cases ok with
   |true=>
    obtain⟨f, -, -⟩:=ch a
    cases f
    refine⟨.tuple #[N,.bool false],?_,two false q,rfl⟩
    simp [Instr.lookup,run_underlying hu,MapKept.run_getObj_map hw,g,l,zeroValue,typeInfo,I,m,B3]
   |false=>
    obtain⟨f, -, -⟩:=ch a
    cases f
    refine⟨N,?_,.d q,rfl⟩
    simp [Instr.lookup,run_underlying hu,MapKept.run_getObj_map hw,g,l,zeroValue,typeInfo,I,m,B3]
  ·simp only [hf]at a
   cases ok with
   |true=>
    obtain⟨f, -, -⟩:=ch a
    cases f
    refine⟨.tuple #[y,.bool true],?_,two true B,rfl⟩
    simp [Instr.lookup,run_underlying hu,MapKept.run_getObj_map hw,g,l,B3]
   |false=>
    obtain⟨f, -, -⟩:=ch a
    cases f
    refine⟨y,?_,.d B,rfl⟩
    simp [Instr.lookup,run_underlying hu,MapKept.run_getObj_map hw,g,l,B3]
theorem Step.setBlock(w:World)(b:Nat)(o:Obj):Step (some b) w { w with heap:=w.heap.setIfInBounds b o }:=
 ⟨rfl, rfl, rfl, sm, fun i _ a => by
  have:b≠i:=fun e=>a (by rw [e])
  simp [Array.getElem?_setIfInBounds_ne this],Nat.le_refl _⟩
theorem kP(h:Sim P X S loc s tm w){t:TypeId}{x k y v:RV}{u:Ups}{r:List Nat}{vx H J:Value}(hl:gp P t x k y s.boxes=some ((v,u),r,true))(hx:R S loc x vx)(hk:R S loc k H)(hy:R S loc y J):
  ∃w' S' loc',(Instr.mapUpdate t vx H J).run P w= .ok () w'∧Sim P X S' loc' (s.ups u) tm w'∧v= .undef:=by
 unfold gp at hl
 rcases hu:P.underlying t with _|d0
 ·simp only [hu]at hl;exact fE s.boxes hl
 rw [hu]at hl
 cases d0<;>first|exact fE s.boxes hl|skip
 rename_i T vt
 rcases x with _|_|_|_|_|_|_|⟨id,off⟩|_|_|_|_|_<;>first|exact fE s.boxes hl|skip
 cases off<;>first|exact fE s.boxes hl|skip
 rcases k with kp|_|_|_|_|_|_|_|_|_|_|_|_<;>first|exact fE s.boxes hl|skip
 obtain⟨bx,r1,r2,h1,C,_⟩:=M.bind_some hl
 obtain⟨hb,_,_⟩:=M.get_some h1
 cases bx with
 |var _=>exact fE s.boxes C
 |arr _ _ _=>exact fE s.boxes C
 |dead=>exact fE s.boxes C
 |nest _ _ _ _ _=>exact fE s.boxes C
 |mapn _ _ _ _ _=>exact fE s.boxes C
 |hole _ _ _ _ _ _=>exact fE s.boxes C
 |deep _ _ _ _ _ _ _=>exact fE s.boxes C
 |map b5 b6 es=>
  simp only at C
  split at C
  rotate_left
  ·exact fE s.boxes C
  rename_i hc
  obtain⟨rfl,rfl,O⟩:=hc
  cases hk with
  |d hk=>
  obtain⟨⟨p,U⟩,r3,r4,h3,o,_⟩:=M.bind_some C
  obtain⟨a1,a2,a3⟩:=fW h3
  obtain⟨K,I,a0,F,hle,b0⟩:=h.gf U a1 (fun x hx=>.inl (a2 x hx))
  have hp:V K p J:=a3 S loc K J hy F b0
  have z:=hk.mono F
  rcases hf:cO P T kp es 0 with _|r'
  ·simp only [hf]at o;exact fE s.boxes o
  have a5:∀(hc:(U.map (·.1)).contains id=false),id∉U.map (·.1):=fun hc hm=>by
   rw [List.contains_iff_mem.2 hm]at hc;cases hc
  have go : ∀ (B : List (PD × PD)), ((U.map (·.1)).contains id = false) → (∀ b clock a, w.heap[b]? = some (.map a clock) → a.size = es.length → (∀ (i : Nat) k x g, es[i]? = some (k, x) → a[i]? = some g → V K k g.key ∧ V K x g.val) →
    ∃c f,(Instr.mapUpdate t (.map (some b)) H J).run P w= .ok () { w with heap:=w.heap.setIfInBounds b (.map c f) }∧c.size=B.length∧∀(i:Nat)k x g,B[i]? =some (k,x)->c[i]? =some g->V K k g.key∧V K x g.val)->
    ∃w' S' loc',(Instr.mapUpdate t vx H J).run P w= .ok () w'∧Sim P X S' loc' (s.ups (U++[(id,.map T vt B)])) tm w':=by
   intro B D a6
   have a8:(s.ups U).boxes id=some (.map T vt es):=by rw [dy _ _ _ (a5 D)];exact hb
   obtain⟨b,clock,a,E,rfl,hw,hlen,n⟩:=a0.nB a8 (hx.mono F hle)
   obtain⟨c,f,g1,g2,g3⟩:=a6 b clock a hw hlen n
   have b1:b<w.heap.size:=(Array.getElem?_eq_some_iff.1 hw).1
   have b3:cj (I id) (.map b):=by rw [E];exact .same _
   refine⟨_,K,upd I id (.map b),g1,?_⟩
   rw [eL,du]
   refine a0.cw (Step.setBlock w b _) id _ _ (fun b' a9=>by cases a9;exact⟨_,E,rfl⟩) ?_ (fun b' a7=>by cases a7;exact .inl ⟨_,E,rfl⟩) b3
   exact .map T vt B b f c (by simp [b1]) g2 g3
  have q:(Instr.checkKey false 10000 T H).run P w= .ok () w:=gj 20 9980 false T kp H O z
  cases r' with
  |none=>
   simp only [hf]at o
   split at o
   ·exact fE s.boxes o
   rename_i D
   obtain⟨l, -, -⟩:=M.cd o
   cases l
   obtain ⟨w', S', loc', g1, g2⟩ := go (es ++ [(kp, p)]) (by simpa using D) (fun b clock a hw hlen n => by
    obtain⟨b4,e1,e2⟩:=kf (w:=w) O z es a.toList (by simpa using hlen) (fun j k x g h3 o=>n j k x g h3 (by simpa using o)) hf
    rcases e2 with⟨-,rfl⟩|⟨j,x0,x',y',Q,_⟩
    rotate_left
    ·cases Q
    refine⟨a.push { key:=H,val:=J,born:=clock },clock+1,?_,by simp [hlen],fun i k x g l G=>?_⟩
    ·simp [Instr.mapUpdate,run_underlying hu,MapKept.run_getObj_map hw,q,e1,MapKept.run_setObj_map _ hw,B3]
    ·by_cases hi:i<es.length
     ·rw [List.getElem?_append_left hi]at l
      rw [Array.getElem?_push_lt om]at G
      exact n i k x g l (by rw [Array.getElem?_eq_getElem om];exact G)
     ·rw [List.getElem?_append_right om]at l
      have:i=es.length:=by
       have:=(List.getElem?_eq_some_iff.1 l).1
       simp at this;omega
      subst this
      simp at l
      obtain⟨rfl,rfl⟩:=l
      rw [<-hlen]at G
      simp at G
      subst G
      exact⟨z,hp⟩)
   exact⟨w',S',loc',g1,g2,rfl⟩
  |some r'=>
   obtain⟨i,x0,x'⟩:=r'
   simp only [hf]at o
   split at o
   ·exact fE s.boxes o
   rename_i D
   obtain⟨l, -,b2⟩:=M.cg o
   cases l
   obtain ⟨w', S', loc', g1, g2⟩ := go (es.set i (kp, p)) (by simpa using D) (fun b clock a hw hlen n => by
    obtain⟨b4,e1,e2⟩:=kf (w:=w) O z es a.toList (by simpa using hlen) (fun j k x g h3 o=>n j k x g h3 (by simpa using o)) hf
    rcases e2 with⟨Q,_⟩|⟨j,b7,x',y',Q,rfl,hj,_,Y,e5,e6⟩
    ·cases Q
    simp only [Nat.zero_add,AD,Prod.mk.injEq]at Q
    obtain⟨rfl,rfl,rfl⟩:=Q
    simp only [Nat.zero_add]at e1
    have W:a[i]? =some Y:=by simpa using e5
    obtain⟨a4,L⟩:=lf b2.symm z e6
    have N:(Instr.keyThatStays Y.key H).run P w= .ok H w:=by
     rw [<-a4];simp [Instr.keyThatStays,L]
    refine⟨a.modify i fun e=>{ e with key:=H,val:=J },clock,?_,by simp [hlen],fun m k x g l G=>?_⟩
    ·simp [Instr.mapUpdate,run_underlying hu,MapKept.run_getObj_map hw,q,e1,W,N,MapKept.run_setObj_map _ hw,B3]
    ·by_cases hm:i=m
     ·subst hm
      rw [List.getElem?_set_self om]at l
      cases l
      simp [Array.getElem?_modify,W]at G
      subst G
      exact⟨z,hp⟩
     ·rw [List.getElem?_set_ne hm]at l
      simp [Array.getElem?_modify,hm]at G
      exact n m k x g l G)
   exact⟨w',S',loc',g1,g2,rfl⟩
end
end Go.Dw
