
import Derived.Test.YtikangmionpjfaaGreatDwCopy
import Derived.Test.YtikangmionpjfaaGreatDwEq
import Derived.MapKept
open Go.Result renaming andThen->DO
open Bool renaming and_eq_true->C4, false_eq_true->Cb
open Option.some renaming injEq->B7

namespace Go.Dw
section
variable {P:Program}{X:Ctx}{S:pr}{loc:pY}{s:St}{tm:Array Value}{w:World}
theorem yr(h:Sim P X S loc s tm w){id:Nat}{t:TypeId}{v:RV}{u:Ups}{r:List Nat}(a:tD P id t s.boxes=some ((v,u),r,true)):
  ∃v' w' loc',(Instr.makeMap t none).run P w= .ok v' w'∧Sim P X S loc' (s.ups u) tm w'∧R S loc' v v':=by
 unfold tD at a
 rcases hu:P.underlying t with _|d0
 ·simp only [hu]at a;exact fE s.boxes a
 rw [hu]at a
 cases d0<;>first|exact fE s.boxes a|skip
 ·rename_i p q
  obtain⟨_,z,B,h1,j,_⟩:=M.bind_some a
  obtain⟨f,_,_⟩:=M.qj h1
  obtain⟨l, -, -⟩:=M.pj j
  cases l
  have c:=h.pS f
  have g:pN (loc id) (.map w.heap.size):=by rw [c];trivial
  refine⟨.map (some w.heap.size),w.alloc (.map #[] 0),upd loc id (.map w.heap.size),by simp [Instr.makeMap],?_,?_⟩
  ·refine h.qh (Step.alloc w _) id _ _ (fun b hc=>by cases hc) ?_ ?_ g
   ·exact .map p q [] w.heap.size 0 #[] (heap_alloc_new w _) rfl (fun i k x y h1 _=>by simp at h1)
   ·intro b f;cases f;exact .inr (.inl (Nat.le_refl _))
  ·exact .ptr id 0 _ (.map w.heap.size) rfl (pz _ _ _) (fun b=>⟨(fun he=>by cases he),(fun he=>by cases he;rfl)⟩)
theorem wg:∀(d n:Nat)(e:Bool)(t:TypeId)(k:PD)(y:Value),tC P d t k=true->V S k y->(Instr.checkKey e (n+d) t y).run P w= .ok () w
 |0,_,_,_,_,_,h,_=>by simp [tC]at h
 |d+1,n,e,t,k,y,h,j=>by
  simp only [tC]at h
  rw [show n+(d+1)=(n+d)+1 by omega]
  unfold Instr.checkKey
  split at h
  ·rename_i q E m hu
   cases j
   simp [run_underlying hu]
  ·rename_i hu
   cases j
   simp [run_underlying hu]
  ·rename_i hu
   cases j
   simp [run_underlying hu]
  ·rename_i z cs hu
   obtain⟨vs,rfl,C,hc⟩:=j.rR
   simp only [Sem.run_bind,run_underlying hu,DO]
   have x : ∀ (l : List Field), (l.all fun f => f.name != "_" && (match um P f.type cs f.offset with | some p => tC P d f.type p | none => false)) = true →
     (forIn l PUnit.unit fun (f : Field) (_ : PUnit) => (do if f.name ≠ "_" then (do Instr.checkKey e (n + d) f.type (← part f.type vs f.offset); pure (.yield PUnit.unit)) else pure (.yield PUnit.unit) : Sem (ForInStep PUnit))).run P w = .ok PUnit.unit w := by
    intro l c
    induction l with
    |nil=>simp
    |cons f r D=>
     simp only [List.all_cons,C4]at c
     obtain⟨⟨h1,g⟩,B⟩:=c
     rcases hp:um P f.type cs f.offset with _|p
     ·rw [hp]at g;cases g
     rw [hp]at g
     obtain⟨v',g1,g2⟩:=sP (P:=P) (S:=S) (w:=w) hp C hc
     have g3:=wg d n e f.type p v' g g2
     have u : f.name ≠ "_" := by simpa using h1
     simp only [List.forIn_cons,Sem.run_bind,u,ne_eq,not_false_eq_true,if_true,g1,DO,g3]
     simpa [Sem.run_bind,DO]using D B
   have a:=x z.toList h
   simp only [<-Array.forIn_toList]
   simp only [ne_eq,ite_not]at a⊢
   simp only [bind_pure_comp]at a⊢
   rw [a]
   simp
  ·cases h
theorem yz{a b:PD}{va vb:Value}(h:vO a b=true)(c:V S a va)(f:V S b vb):va=vb∧∀n,Instr.sameBits n va va=true:=by
 unfold vO at h
 split at h
 ·cases c;cases f
  simp only [C4,decide_eq_true_eq]at h
  obtain⟨rfl,rfl⟩:=h
  exact⟨rfl,fun n=>by cases n<;>simp [Instr.sameBits]⟩
 ·cases c;cases f
  simp only [decide_eq_true_eq]at h
  subst h
  exact⟨rfl,fun n=>by cases n<;>simp [Instr.sameBits,MapKept.bytes_beq]⟩
 ·cases c;cases f
  simp only [decide_eq_true_eq]at h
  subst h
  exact⟨rfl,fun n=>by cases n<;>simp [Instr.sameBits]⟩
 ·cases h
theorem yA:∀{a b:List PD}{va vb:List Value},vQ a b=true->va.length=a.length->vb.length=b.length->(∀(i:Nat)p v,a[i]? =some p->va[i]? =some v->V S p v)->(∀(i:Nat)p v,b[i]? =some p->vb[i]? =some v->V S p v)->va=vb∧∀n,∀v∈va,Instr.sameBits n v v=true
 | [],[],va,vb,_,h1,c,_,_=>by
  cases va<;>cases vb<;>first|exact⟨rfl,fun _ _ h=>by cases h⟩|simp at h1 c
 | [],_::_,_,_,h,_,_,_,_=>by simp [vQ]at h
 |_::_,[],_,_,h,_,_,_,_=>by simp [vQ]at h
 |a::r,b::q,va,vb,h,h1,c,g,j=>by
  simp only [vQ,C4]at h
  cases va with
  |nil=>simp at h1
  |cons x va=>
  cases vb with
  |nil=>simp at c
  |cons y vb=>
  obtain⟨k,e2⟩:=yz h.1 (g 0 a x rfl rfl) (j 0 b y rfl rfl)
  obtain⟨l,t⟩:=yA h.2 (by simpa using h1) (by simpa using c) (fun i p v g1 g2=>g (i+1) p v g1 g2) (fun i p v g1 g2=>j (i+1) p v g1 g2)
  subst k;subst l
  refine⟨rfl,fun n v f=>?_⟩
  cases f with
  |head=>exact e2 n
  |tail _ f=>exact t n v f
theorem BV{a b:PD}{va vb:Value}(h:xd a b=true)(f:V S a va)(g:V S b vb):va=vb∧Instr.sameBits 10000 va va=true:=by
 unfold xd at h
 split at h
 ·obtain⟨xs,rfl,h1,k⟩:=f.rR
  obtain⟨ys,rfl,q,r⟩:=g.rR
  obtain⟨c,e2⟩:=yA (va:=xs.toList) (vb:=ys.toList) h (by simpa using h1) (by simpa using q) (fun i p v g1 g2=>k i p v g1 (by simpa using g2)) (fun i p v g1 g2=>r i p v g1 (by simpa using g2))
  have c:xs=ys:=Array.toList_inj.1 c
  subst c
  refine⟨rfl,?_⟩
  show Instr.sameBits (9999+1) _ _=true
  have:∀l:List Value,(∀v∈l,Instr.sameBits 9999 v v=true)->((l.zip l).all fun(x,y)=>Instr.sameBits 9999 x y)=true:=by
   intro l j
   induction l with
   |nil=>rfl
   |cons v l u=>simp only [List.zip_cons_cons,List.all_cons,j v (.head _),Bool.true_and];exact u fun x t=>j x (.tail _ t)
  simp [Instr.sameBits,this xs.toList (e2 9999)]
 ·obtain⟨c,e2⟩:=yz h f g
  exact⟨c,e2 10000⟩
theorem Ay{t:TypeId}{d:TypeDesc}(hu:P.underlying t=some d){k x:PD}{g j:Value}(hk:rX P t k=true)(h1:V S k g)(f:V S x j){b:Bool}(hs:tL k x=some b):Instr.sameNow d g j=some b:=by
 unfold rX at hk
 simp only [tC]at hk
 split at hk
 ·rename_i q l n c
  rw [hu]at c
  cases c
  have:=of_decide_eq_true hk
  subst this
  cases h1
  cases x<;>simp only [tL]at hs<;>first|(cases hs;done)|skip
  cases f
  exact hs
 ·rename_i c
  rw [hu]at c
  cases c
  cases h1
  cases x<;>simp only [tL]at hs<;>first|(cases hs;done)|skip
  cases f
  rename_i a
  simp only [Instr.sameNow,B7]at hs⊢
  rw [<-hs,Bool.eq_iff_iff,MapKept.bytes_beq]
  simp
 ·rename_i c
  rw [hu]at c
  cases c
  cases h1
  cases x<;>simp only [tL]at hs<;>first|(cases hs;done)|skip
  cases f
  exact hs
 ·cases x<;>cases hs
 ·cases hk
def Found(S:pr)(es:List (PD×PD))(a:List MapEntry)(i:Nat)(r:Option (Nat×PD×PD))(f:Option (Nat×Value)):Prop:=
 r=none∧f=none∨∃j x y v,r=some (i+j,x,y)∧f=some (i+j,v)∧j<es.length∧V S y v∧∃c,a[j]? =some c∧V S x c.key
theorem Found.cons{es:List (PD×PD)}{a:List MapEntry}{i:Nat}{r:Option (Nat×PD×PD)}{f:Option (Nat×Value)}(h:Found S es a (i+1) r f)(e:PD×PD)(q:MapEntry):Found S (e::es) (q::a) i r f:=by
 rcases h with h|⟨j,x,y,v,g,e2,t,k,c,l,p⟩
 ·exact .inl h
 ·exact .inr ⟨j+1,x,y,v,by rw [g];congr 2;omega,by rw [e2];congr 2;omega,so,k,c,l,p⟩
theorem Au{t:TypeId}{d:TypeDesc}(hu:P.underlying t=some d){k:PD}{y:Value}(hk:rX P t k=true)(p:tV k=false)(h1:V S k y):∀(es:List (PD×PD))(a:List MapEntry)(i:Nat){r:Option (Nat×PD×PD)},a.length=es.length->
  (∀(j:Nat)k x f,es[j]? =some (k,x)->a[j]? =some f->V S k f.key∧V S x f.val)->qv P t k es i=some r->
  ∃l,Instr.findNow d y a i=some l∧Found S es a i r l
 | [],[],i,r,_,_,c=>by
  simp only [qv,B7]at c
  subst c
  exact⟨none,rfl,.inl ⟨rfl,rfl⟩⟩
 | [],_::_,_,_,g,_,_=>by simp at g
 |_::_,[],_,_,g,_,_=>by simp at g
 |(x,v)::es,f::a,i,r,g,hc,c=>by
  obtain⟨a1,a2⟩:=hc 0 x v f rfl rfl
  simp only [qv,yp,p]at c
  cases u:tV x with
  |true=>simp [u]at c
  |false=>
  simp only [u]at c
  cases hs:tL k x with
  |none=>simp [hs]at c
  |some b=>
   have q:=Ay hu hk h1 a1 hs
   cases b with
   |true=>
    simp only [hs,B7]at c
    subst c
    exact⟨some (i,f.val),by simp only [Instr.findNow,q],.inr ⟨0,x,v,f.val,rfl,rfl,sm,a2,f,rfl,a1⟩⟩
   |false=>
    simp only [hs]at c
    obtain⟨l,g1,g2⟩:=Au hu hk p h1 es a (i+1) (by simpa using g) (fun j k x f h1 z=>hc (j+1) k x f h1 z) c
    exact⟨l,by simp only [Instr.findNow,q];exact g1,g2.cons _ _⟩
theorem As{t:TypeId}{k:PD}{p:Value}(q:tV k=true)(h1:V S k p):∀(es:List (PD×PD))(a:List MapEntry)(i:Nat){r:Option (Nat×PD×PD)},a.length=es.length->
  (∀(j:Nat)k x c,es[j]? =some (k,x)->a[j]? =some c->V S k c.key∧V S x c.val)->qv P t k es i=some r->
  ∃l,(Instr.findAsking t p a i).run P w= .ok l w∧Found S es a i r l
 | [],[],i,r,_,_,f=>by
  simp only [qv,B7]at f
  subst f
  exact⟨none,rfl,.inl ⟨rfl,rfl⟩⟩
 | [],_::_,_,_,g,_,_=>by simp at g
 |_::_,[],_,_,g,_,_=>by simp at g
 |(x,v)::es,c::a,i,r,g,hc,f=>by
  obtain⟨a1,a2⟩:=hc 0 x v c rfl rfl
  simp only [qv,yp,q]at f
  cases y:tV x with
  |false=>simp [y]at f
  |true=>
  simp only [y]at f
  cases hs:yi P 20 t k x with
  |none=>simp [hs]at f
  |some b=>
   have u:(Op.equal t p c.key).run P w= .ok b w:=rF (P:=P) (S:=S) (w:=w) 20 9980 t _ _ b _ _ hs h1 a1
   cases b with
   |true=>
    simp only [hs,B7]at f
    subst f
    exact⟨some (i,c.val),by simp [Instr.findAsking,u,DO],.inr ⟨0,x,v,c.val,rfl,rfl,sm,a2,c,rfl,a1⟩⟩
   |false=>
    simp only [hs]at f
    obtain⟨l,g1,g2⟩:=As q h1 es a (i+1) (by simpa using g) (fun j k x c h1 z=>hc (j+1) k x c h1 z) f
    exact⟨l,by simp [Instr.findAsking,u,DO,g1],g2.cons _ _⟩
theorem yl{t:TypeId}{k:PD}{q:Value}(hk:rX P t k=true)(h1:V S k q)(es:List (PD×PD))(a:List MapEntry){r:Option (Nat×PD×PD)}(u:a.length=es.length)
  (hc:∀(j:Nat)k x f,es[j]? =some (k,x)->a[j]? =some f->V S k f.key∧V S x f.val) (y:qv P t k es 0=some r):
  ∃c,(Instr.findKey t q a).run P w= .ok c w∧Found S es a 0 r c:=by
 have hu:∃d,P.underlying t=some d:=by
  unfold rX at hk
  simp only [tC]at hk
  cases h:P.underlying t with
  |none=>rw [h]at hk;simp at hk
  |some d=>exact⟨d,rfl⟩
 obtain⟨d,hu⟩:=hu
 cases l:tV k with
 |false=>
  obtain⟨c,g1,g2⟩:=Au hu hk l h1 es a 0 u hc y
  exact⟨c,MapKept.run_findKey hu g1,g2⟩
 |true=>
  obtain⟨c,g1,g2⟩:=As (w:=w) l h1 es a 0 u hc y
  refine⟨c,?_,g2⟩
  have p:∃g,d= .struct g:=by
   unfold rX at hk
   simp only [tC,hu]at hk
   cases k<;>simp only [tV,Cb]at l
   cases d<;>simp only [Cb]at hk
   exact⟨_,rfl⟩
  obtain⟨g,rfl⟩:=p
  cases a with
  |nil=>simpa [Instr.findKey,run_underlying hu,DO,Instr.findNow,Instr.findAsking]using g1
  |cons f a=>
   have z:Instr.findNow (.struct g) q (f::a) 0=none:=by
    simp only [Instr.findNow,Instr.sameNow]
   simpa [Instr.findKey,run_underlying hu,DO,z]using g1
theorem Bq{v:Value}{p:PD}(h:qt v=some p):V S p v:=by
 unfold qt at h
 split at h
 ·rename_i cs
  cases a:vT cs.toList with
  |none=>simp [a]at h
  |some f=>
   simp only [a,Option.map_some,B7]at h
   subst h
   obtain⟨i1,i2⟩:=xj (S:=S) a
   exact .agg f cs (by simpa using i1.symm) (fun i p v h1 c=>(i2 i p v h1 (by simpa using c)).1)
 ·exact(xi h).1
theorem yP(h:Sim P X S loc s tm w){t:TypeId}{x k v:RV}{u:Ups}{r:List Nat}{Q G:Value}{ok:Bool}(B:te P t x k ok s.boxes=some ((v,u),r,true))(hx:R S loc x Q)(hk:R S loc k G):
  ∃v',(Instr.lookup t Q G ok).run P w= .ok v' w∧R S loc v v'∧u=[]:=by
 unfold te at B
 rcases hu:P.underlying t with _|d0
 ·simp only [hu]at B;exact fE s.boxes B
 rw [hu]at B
 cases d0<;>first|exact fE s.boxes B|skip
 rename_i L vt
 rcases x with _|_|_|_|_|_|_|⟨id,off⟩|_|_|_|_|_<;>first|exact fE s.boxes B|skip
 cases off<;>first|exact fE s.boxes B|skip
 rcases k with O|_|_|_|_|_|_|_|_|_|_|_|_<;>first|exact fE s.boxes B|skip
 obtain⟨W,r1,r2,h1,a,_⟩:=M.bind_some B
 obtain⟨hb,_,_⟩:=M.get_some h1
 cases W with
 |var _=>exact fE s.boxes a
 |arr _ _ _=>exact fE s.boxes a
 |dead=>exact fE s.boxes a
 |nest _ _ _ _ _=>exact fE s.boxes a
 |hole _ _ _ _ _ _=>exact fE s.boxes a
 |map a5 a7 es=>
  simp only at a
  split at a
  rotate_left
  ·exact fE s.boxes a
  rename_i hc
  obtain⟨rfl,rfl,D⟩:=hc
  cases hk with
  |d hk=>
  obtain⟨b,clock,f,N,rfl,hw,hlen,H⟩:=h.Be hb hx
  have two : ∀ {p : PD} {y : Value} (o : Bool), V S p y → R S loc (.tup [.d p, .d (.bool o)]) (.tuple #[y, .bool o]) := fun o F => .tup _ _ rfl (fun i c u hc hu => by
   match i with
   |0=>simp at hc hu;subst hc hu;exact .d F
   |1=>simp at hc hu;subst hc hu;exact .d (.bool o)
   |i+2=>simp at hc)
  rcases hf:qv P L O es 0 with _|r'
  ·simp only [hf]at a;exact fE s.boxes a
  obtain⟨a6,q,g2⟩:=yl (w:=w) D hk es f.toList (by simpa using hlen) (fun j k x Y g h4=>H j k x Y g (by simpa using h4)) hf
  have l:(Instr.checkKey f.isEmpty 10000 L G).run P w= .ok () w:=wg 20 9980 f.isEmpty L O G D hk
  rcases g2 with⟨rfl,rfl⟩|⟨j,x0,x',y,rfl,rfl,hj,F, -⟩
  ·rcases I:(pZ P vt).bind qt with _|z
   ·simp only [hf,I]at a;exact fE s.boxes a
   simp only [hf,I]at a
   obtain⟨T,J,K⟩:=Option.bind_eq_some_iff.1 I
   obtain⟨i,hi,C⟩:=qN J
   have E:=Bq (S:=S) K
   cases ok with
   |true=>
    obtain⟨g, -, -⟩:=pw a
    cases g
    refine⟨.tuple #[T,.bool false],?_,two false E,rfl⟩
    simp [Instr.lookup,run_underlying hu,MapKept.run_getObj_map hw,l,q,zeroValue,typeInfo,hi,C,DO]
   |false=>
    obtain⟨g, -, -⟩:=pw a
    cases g
    refine⟨T,?_,.d E,rfl⟩
    simp [Instr.lookup,run_underlying hu,MapKept.run_getObj_map hw,l,q,zeroValue,typeInfo,hi,C,DO]
  ·simp only [hf]at a
   cases ok with
   |true=>
    obtain⟨g, -, -⟩:=pw a
    cases g
    refine⟨.tuple #[y,.bool true],?_,two true F,rfl⟩
    simp [Instr.lookup,run_underlying hu,MapKept.run_getObj_map hw,l,q,DO]
   |false=>
    obtain⟨g, -, -⟩:=pw a
    cases g
    refine⟨y,?_,.d F,rfl⟩
    simp [Instr.lookup,run_underlying hu,MapKept.run_getObj_map hw,l,q,DO]
theorem Step.setBlock(w:World)(b:Nat)(o:Obj):Step (some b) w { w with heap:=w.heap.setIfInBounds b o }:=
 ⟨rfl, rfl, rfl, sm, fun i _ a => by
  have:b≠i:=fun e=>a (by rw [e])
  simp [Array.getElem?_setIfInBounds_ne this],Nat.le_refl _⟩
theorem yQ(h:Sim P X S loc s tm w){t:TypeId}{x k y v:RV}{u:Ups}{r:List Nat}{vx I N:Value}(K:uI P t x k y s.boxes=some ((v,u),r,true))(hx:R S loc x vx)(hk:R S loc k I)(hy:R S loc y N):
  ∃w' S' loc',(Instr.mapUpdate t vx I N).run P w= .ok () w'∧Sim P X S' loc' (s.ups u) tm w'∧v= .undef:=by
 unfold uI at K
 rcases hu:P.underlying t with _|d0
 ·simp only [hu]at K;exact fE s.boxes K
 rw [hu]at K
 cases d0<;>first|exact fE s.boxes K|skip
 rename_i Y vt
 rcases x with _|_|_|_|_|_|_|⟨id,off⟩|_|_|_|_|_<;>first|exact fE s.boxes K|skip
 cases off<;>first|exact fE s.boxes K|skip
 rcases k with kp|_|_|_|_|_|_|_|_|_|_|_|_<;>first|exact fE s.boxes K|skip
 obtain⟨bx,r1,r2,h1,J,_⟩:=M.bind_some K
 obtain⟨hb,_,_⟩:=M.get_some h1
 cases bx with
 |var _=>exact fE s.boxes J
 |arr _ _ _=>exact fE s.boxes J
 |dead=>exact fE s.boxes J
 |nest _ _ _ _ _=>exact fE s.boxes J
 |hole _ _ _ _ _ _=>exact fE s.boxes J
 |map c4 c5 es=>
  simp only at J
  split at J
  rotate_left
  ·exact fE s.boxes J
  rename_i hc
  obtain⟨rfl,rfl,T⟩:=hc
  cases hk with
  |d hk=>
  obtain⟨⟨p,u0⟩,r3,r4,h3,z,_⟩:=M.bind_some J
  obtain⟨a1,a2,a3⟩:=ur h3
  obtain⟨S1,L,a7,G,hle,b6⟩:=h.uB u0 a1 (fun x hx=>.inl (a2 x hx))
  have hp:V S1 p N:=a3 S loc S1 N hy G b6
  have C:=hk.mono G
  rcases hf:qv P Y kp es 0 with _|r'
  ·simp only [hf]at z;exact fE s.boxes z
  have a9:∀(hc:(u0.map (·.1)).contains id=false),id∉u0.map (·.1):=fun hc hm=>by
   rw [List.contains_iff_mem.2 hm]at hc;cases hc
  have go : ∀ (D : List (PD × PD)), ((u0.map (·.1)).contains id = false) → (∀ b clock a, w.heap[b]? = some (.map a clock) → a.size = es.length → (∀ (i : Nat) k x g, es[i]? = some (k, x) → a[i]? = some g → V S1 k g.key ∧ V S1 x g.val) →
    ∃c f,(Instr.mapUpdate t (.map (some b)) I N).run P w= .ok () { w with heap:=w.heap.setIfInBounds b (.map c f) }∧c.size=D.length∧∀(i:Nat)k x g,D[i]? =some (k,x)->c[i]? =some g->V S1 k g.key∧V S1 x g.val)->
    ∃w' S' loc',(Instr.mapUpdate t vx I N).run P w= .ok () w'∧Sim P X S' loc' (s.ups (u0++[(id,.map Y vt D)])) tm w':=by
   intro D E b0
   have b4:(s.ups u0).boxes id=some (.map Y vt es):=by rw [qY _ _ _ (a9 E)];exact hb
   obtain⟨b,clock,a,F,rfl,hw,hlen,q⟩:=a7.Be b4 (hx.mono G hle)
   obtain⟨c,f,g1,g2,g3⟩:=b0 b clock a hw hlen q
   have c0:b<w.heap.size:=(Array.getElem?_eq_some_iff.1 hw).1
   have c2:pN (L id) (.map b):=by rw [F];exact .same _
   refine⟨_,S1,upd L id (.map b),g1,?_⟩
   rw [tG,rf]
   refine a7.qh (Step.setBlock w b _) id _ _ (fun b' b5=>by cases b5;exact⟨_,F,rfl⟩) ?_ (fun b' b3=>by cases b3;exact .inl ⟨_,F,rfl⟩) c2
   exact .map Y vt D b f c (by simp [c0]) g2 g3
  have B:(Instr.checkKey false 10000 Y I).run P w= .ok () w:=wg 20 9980 false Y kp I T C
  cases r' with
  |none=>
   simp only [hf]at z
   split at z
   ·exact fE s.boxes z
   rename_i E
   obtain⟨l, -, -⟩:=M.pj z
   cases l
   obtain ⟨w', S', loc', g1, g2⟩ := go (es ++ [(kp, p)]) (by simpa using E) (fun b clock a hw hlen q => by
    obtain⟨c3,e1,e2⟩:=yl (w:=w) T C es a.toList (by simpa using hlen) (fun j k x g h3 z=>q j k x g h3 (by simpa using z)) hf
    rcases e2 with⟨-,rfl⟩|⟨j,x0,x',y',W,_⟩
    rotate_left
    ·cases W
    refine⟨a.push { key:=I,val:=N,born:=clock },clock+1,?_,by simp [hlen],fun i k x g l H=>?_⟩
    ·simp [Instr.mapUpdate,run_underlying hu,MapKept.run_getObj_map hw,B,e1,MapKept.run_setObj_map _ hw,DO]
    ·by_cases hi:i<es.length
     ·rw [List.getElem?_append_left hi]at l
      rw [Array.getElem?_push_lt za]at H
      exact q i k x g l (by rw [Array.getElem?_eq_getElem za];exact H)
     ·rw [List.getElem?_append_right za]at l
      have:i=es.length:=by
       have:=(List.getElem?_eq_some_iff.1 l).1
       simp at this;omega
      subst this
      simp at l
      obtain⟨rfl,rfl⟩:=l
      rw [<-hlen]at H
      simp at H
      subst H
      exact⟨C,hp⟩)
   exact⟨w',S',loc',g1,g2,rfl⟩
  |some r'=>
   obtain⟨i,x0,x'⟩:=r'
   simp only [hf]at z
   split at z
   ·exact fE s.boxes z
   rename_i E
   obtain⟨l, -,c1⟩:=M.pq z
   cases l
   obtain ⟨w', S', loc', g1, g2⟩ := go (es.set i (kp, p)) (by simpa using E) (fun b clock a hw hlen q => by
    obtain⟨c3,e1,e2⟩:=yl (w:=w) T C es a.toList (by simpa using hlen) (fun j k x g h3 z=>q j k x g h3 (by simpa using z)) hf
    rcases e2 with⟨W,_⟩|⟨j,c6,x',y',W,rfl,hj,_,a6,e5,e6⟩
    ·cases W
    simp only [Nat.zero_add,B7,Prod.mk.injEq]at W
    obtain⟨rfl,rfl,rfl⟩:=W
    simp only [Nat.zero_add]at e1
    have a5:a[i]? =some a6:=by simpa using e5
    obtain⟨a8,O⟩:=BV c1.symm C e6
    have Q:(Instr.keyThatStays a6.key I).run P w= .ok I w:=by
     rw [<-a8];simp [Instr.keyThatStays,O]
    refine⟨a.modify i fun e=>{ e with key:=I,val:=N },clock,?_,by simp [hlen],fun m k x g l H=>?_⟩
    ·simp [Instr.mapUpdate,run_underlying hu,MapKept.run_getObj_map hw,B,e1,a5,Q,MapKept.run_setObj_map _ hw,DO]
    ·by_cases hm:i=m
     ·subst hm
      rw [List.getElem?_set_self za]at l
      cases l
      simp [Array.getElem?_modify,a5]at H
      subst H
      exact⟨C,hp⟩
     ·rw [List.getElem?_set_ne hm]at l
      simp [Array.getElem?_modify,hm]at H
      exact q m k x g l H)
   exact⟨w',S',loc',g1,g2,rfl⟩
end
end Go.Dw
