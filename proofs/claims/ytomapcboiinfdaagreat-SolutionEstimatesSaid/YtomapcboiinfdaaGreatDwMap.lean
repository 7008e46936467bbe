
import Derived.Test.YtomapcboiinfdaaGreatDwCopy
import Derived.Test.YtomapcboiinfdaaGreatDwEq
import Derived.MapKept
open Go.Result renaming andThen->BT
open Bool renaming and_eq_true->A5, false_eq_true->Ac
open Option.some renaming injEq->AD

namespace Go.Dw
section
variable {P:Program}{X:Ctx}{S:mW}{loc:nB}{s:St}{tm:Array Value}{w:World}
theorem vL(h:Sim P X S loc s tm w){id:Nat}{t:TypeId}{v:RV}{u:Ups}{r:List Nat}(a:qd P id t s.boxes=some ((v,u),r,true)):
  ∃v' w' loc',(Instr.makeMap t none).run P w= .ok v' w'∧Sim P X S loc' (s.ups u) tm w'∧R S loc' v v':=by
 unfold qd at a
 rcases hu:P.underlying t with _|d0
 ·simp only [hu]at a;exact fE s.boxes a
 rw [hu]at a
 cases d0<;>first|exact fE s.boxes a|skip
 ·rename_i m n
  obtain⟨_,p,q,h1,g,_⟩:=M.bind_some a
  obtain⟨e,_,_⟩:=M.nJ h1
  obtain⟨j, -, -⟩:=M.mJ g
  cases j
  have c:=h.nu e
  have f:ni (loc id) (.map w.heap.size):=by rw [c];trivial
  refine⟨.map (some w.heap.size),w.alloc (.map #[] 0),upd loc id (.map w.heap.size),by simp [Instr.makeMap],?_,?_⟩
  ·refine h.nH (Step.alloc w _) id _ _ (fun b l=>by cases l) ?_ ?_ f
   ·exact .map m n [] w.heap.size 0 #[] (heap_alloc_new w _) rfl (fun i k x o h1 _=>by simp at h1)
   ·intro b e;cases e;exact .inr (.inl (Nat.le_refl _))
  ·exact .ptr id 0 _ (.map w.heap.size) rfl (mU _ _ _) (fun b=>⟨(fun he=>by cases he),(fun he=>by cases he;rfl)⟩)
theorem tj:∀(d n:Nat)(e:Bool)(t:TypeId)(k:PD)(u:Value),qc P d t k=true->V S k u->(Instr.checkKey e (n+d) t u).run P w= .ok () w
 |0,_,_,_,_,_,h,_=>by simp [qc]at h
 |d+1,n,e,t,k,u,h,g=>by
  simp only [qc]at h
  rw [show n+(d+1)=(n+d)+1 by omega]
  unfold Instr.checkKey
  split at h
  ·rename_i q C m hu
   cases g
   simp [run_underlying hu]
  ·rename_i hu
   cases g
   simp [run_underlying hu]
  ·rename_i hu
   cases g
   simp [run_underlying hu]
  ·rename_i v cs hu
   obtain⟨vs,rfl,z,y⟩:=g.oS
   simp only [Sem.run_bind,run_underlying hu,BT]
   have j : ∀ (l : List Field), (l.all fun f => f.name != "_" && (match qO P f.type cs f.offset with | some p => qc P d f.type p | none => false)) = true →
     (forIn l PUnit.unit fun (f : Field) (_ : PUnit) => (do if f.name ≠ "_" then (do Instr.checkKey e (n + d) f.type (← part f.type vs f.offset); pure (.yield PUnit.unit)) else pure (.yield PUnit.unit) : Sem (ForInStep PUnit))).run P w = .ok PUnit.unit w := by
    intro l b
    induction l with
    |nil=>simp
    |cons f r B=>
     simp only [List.all_cons,A5]at b
     obtain⟨⟨h1,c⟩,x⟩:=b
     rcases o:qO P f.type cs f.offset with _|p
     ·rw [o]at c;cases c
     rw [o]at c
     obtain⟨v',g1,g2⟩:=pF (P:=P) (S:=S) (w:=w) o z y
     have g3:=tj d n e f.type p v' c g2
     have i : f.name ≠ "_" := by simpa using h1
     simp only [List.forIn_cons,Sem.run_bind,i,ne_eq,not_false_eq_true,if_true,g1,BT,g3]
     simpa [Sem.run_bind,BT]using B x
   have a:=j v.toList h
   simp only [<-Array.forIn_toList]
   simp only [ne_eq,ite_not]at a⊢
   simp only [bind_pure_comp]at a⊢
   rw [a]
   simp
  ·cases h
theorem vY{a b:PD}{va vb:Value}(h:sq a b=true)(c:V S a va)(e:V S b vb):va=vb∧∀n,Instr.sameBits n va va=true:=by
 unfold sq at h
 split at h
 ·cases c;cases e
  simp only [A5,decide_eq_true_eq]at h
  obtain⟨rfl,rfl⟩:=h
  exact⟨rfl,fun n=>by cases n<;>simp [Instr.sameBits]⟩
 ·cases c;cases e
  simp only [decide_eq_true_eq]at h
  subst h
  exact⟨rfl,fun n=>by cases n<;>simp [Instr.sameBits,MapKept.bytes_beq]⟩
 ·cases c;cases e
  simp only [decide_eq_true_eq]at h
  subst h
  exact⟨rfl,fun n=>by cases n<;>simp [Instr.sameBits]⟩
 ·cases h
theorem vZ:∀{a b:List PD}{va vb:List Value},sr a b=true->va.length=a.length->vb.length=b.length->(∀(i:Nat)p v,a[i]? =some p->va[i]? =some v->V S p v)->(∀(i:Nat)p v,b[i]? =some p->vb[i]? =some v->V S p v)->va=vb∧∀n,∀v∈va,Instr.sameBits n v v=true
 | [],[],va,vb,_,h1,c,_,_=>by
  cases va<;>cases vb<;>first|exact⟨rfl,fun _ _ h=>by cases h⟩|simp at h1 c
 | [],_::_,_,_,h,_,_,_,_=>by simp [sr]at h
 |_::_,[],_,_,h,_,_,_,_=>by simp [sr]at h
 |a::r,b::q,va,vb,h,h1,c,f,g=>by
  simp only [sr,A5]at h
  cases va with
  |nil=>simp at h1
  |cons x va=>
  cases vb with
  |nil=>simp at c
  |cons y vb=>
  obtain⟨j,e2⟩:=vY h.1 (f 0 a x rfl rfl) (g 0 b y rfl rfl)
  obtain⟨k,l⟩:=vZ h.2 (by simpa using h1) (by simpa using c) (fun i p v g1 g2=>f (i+1) p v g1 g2) (fun i p v g1 g2=>g (i+1) p v g1 g2)
  subst j;subst k
  refine⟨rfl,fun n v e=>?_⟩
  cases e with
  |head=>exact e2 n
  |tail _ e=>exact l n v e
theorem zz{a b:PD}{va vb:Value}(h:uq a b=true)(e:V S a va)(f:V S b vb):va=vb∧Instr.sameBits 10000 va va=true:=by
 unfold uq at h
 split at h
 ·obtain⟨xs,rfl,h1,k⟩:=e.oS
  obtain⟨j,rfl,m,n⟩:=f.oS
  obtain⟨c,e2⟩:=vZ (va:=xs.toList) (vb:=j.toList) h (by simpa using h1) (by simpa using m) (fun i p v g1 g2=>k i p v g1 (by simpa using g2)) (fun i p v g1 g2=>n i p v g1 (by simpa using g2))
  have c:xs=j:=Array.toList_inj.1 c
  subst c
  refine⟨rfl,?_⟩
  show Instr.sameBits (9999+1) _ _=true
  have:∀l:List Value,(∀v∈l,Instr.sameBits 9999 v v=true)->((l.zip l).all fun(x,y)=>Instr.sameBits 9999 x y)=true:=by
   intro l g
   induction l with
   |nil=>rfl
   |cons v l q=>simp only [List.zip_cons_cons,List.all_cons,g v (.head _),Bool.true_and];exact q fun x o=>g x (.tail _ o)
  simp [Instr.sameBits,this xs.toList (e2 9999)]
 ·obtain⟨c,e2⟩:=vY h e f
  exact⟨c,e2 10000⟩
theorem xM{t:TypeId}{d:TypeDesc}(hu:P.underlying t=some d){k x:PD}{g i:Value}(hk:oW P t k=true)(h1:V S k g)(f:V S x i){b:Bool}(c:qk k x=some b):Instr.sameNow d g i=some b:=by
 unfold oW at hk
 simp only [qc]at hk
 split at hk
 ·rename_i q j n e
  rw [hu]at e
  cases e
  have:=of_decide_eq_true hk
  subst this
  cases h1
  cases x<;>simp only [qk]at c<;>first|(cases c;done)|skip
  cases f
  exact c
 ·rename_i e
  rw [hu]at e
  cases e
  cases h1
  cases x<;>simp only [qk]at c<;>first|(cases c;done)|skip
  cases f
  rename_i a
  simp only [Instr.sameNow,AD]at c⊢
  rw [<-c,Bool.eq_iff_iff,MapKept.bytes_beq]
  simp
 ·rename_i e
  rw [hu]at e
  cases e
  cases h1
  cases x<;>simp only [qk]at c<;>first|(cases c;done)|skip
  cases f
  exact c
 ·cases x<;>cases c
 ·cases hk
def Found(S:mW)(es:List (PD×PD))(a:List MapEntry)(i:Nat)(r:Option (Nat×PD×PD))(c:Option (Nat×Value)):Prop:=
 r=none∧c=none∨∃j x y v,r=some (i+j,x,y)∧c=some (i+j,v)∧j<es.length∧V S y v∧∃b,a[j]? =some b∧V S x b.key
theorem Found.cons{es:List (PD×PD)}{a:List MapEntry}{i:Nat}{r:Option (Nat×PD×PD)}{c:Option (Nat×Value)}(h:Found S es a (i+1) r c)(e:PD×PD)(m:MapEntry):Found S (e::es) (m::a) i r c:=by
 rcases h with h|⟨j,x,y,v,f,e2,n,g,b,k,l⟩
 ·exact .inl h
 ·exact .inr ⟨j+1,x,y,v,by rw [f];congr 2;omega,by rw [e2];congr 2;omega,so,g,b,k,l⟩
theorem xI{t:TypeId}{d:TypeDesc}(hu:P.underlying t=some d){k:PD}{q:Value}(hk:oW P t k=true)(m:qx k=false)(h1:V S k q):∀(es:List (PD×PD))(a:List MapEntry)(i:Nat){r:Option (Nat×PD×PD)},a.length=es.length->
  (∀(j:Nat)k x e,es[j]? =some (k,x)->a[j]? =some e->V S k e.key∧V S x e.val)->nW P t k es i=some r->
  ∃l,Instr.findNow d q a i=some l∧Found S es a i r l
 | [],[],i,r,_,_,c=>by
  simp only [nW,AD]at c
  subst c
  exact⟨none,rfl,.inl ⟨rfl,rfl⟩⟩
 | [],_::_,_,_,f,_,_=>by simp at f
 |_::_,[],_,_,f,_,_=>by simp at f
 |(x,v)::es,e::a,i,r,f,n,c=>by
  obtain⟨a1,a2⟩:=n 0 x v e rfl rfl
  simp only [nW,vH,m]at c
  cases p:qx x with
  |true=>simp [p]at c
  |false=>
  simp only [p]at c
  cases g:qk k x with
  |none=>simp [g]at c
  |some b=>
   have o:=xM hu hk h1 a1 g
   cases b with
   |true=>
    simp only [g,AD]at c
    subst c
    exact⟨some (i,e.val),by simp only [Instr.findNow,o],.inr ⟨0,x,v,e.val,rfl,rfl,sm,a2,e,rfl,a1⟩⟩
   |false=>
    simp only [g]at c
    obtain⟨l,g1,g2⟩:=xI hu hk m h1 es a (i+1) (by simpa using f) (fun j k x e h1 u=>n (j+1) k x e h1 u) c
    exact⟨l,by simp only [Instr.findNow,o];exact g1,g2.cons _ _⟩
theorem xH{t:TypeId}{k:PD}{m:Value}(n:qx k=true)(h1:V S k m):∀(es:List (PD×PD))(a:List MapEntry)(i:Nat){r:Option (Nat×PD×PD)},a.length=es.length->
  (∀(j:Nat)k x c,es[j]? =some (k,x)->a[j]? =some c->V S k c.key∧V S x c.val)->nW P t k es i=some r->
  ∃l,(Instr.findAsking t m a i).run P w= .ok l w∧Found S es a i r l
 | [],[],i,r,_,_,e=>by
  simp only [nW,AD]at e
  subst e
  exact⟨none,rfl,.inl ⟨rfl,rfl⟩⟩
 | [],_::_,_,_,f,_,_=>by simp at f
 |_::_,[],_,_,f,_,_=>by simp at f
 |(x,v)::es,c::a,i,r,f,o,e=>by
  obtain⟨a1,a2⟩:=o 0 x v c rfl rfl
  simp only [nW,vH,n]at e
  cases q:qx x with
  |false=>simp [q]at e
  |true=>
  simp only [q]at e
  cases g:vA P 20 t k x with
  |none=>simp [g]at e
  |some b=>
   have p:(Op.equal t m c.key).run P w= .ok b w:=oM (P:=P) (S:=S) (w:=w) 20 9980 t _ _ b _ _ g h1 a1
   cases b with
   |true=>
    simp only [g,AD]at e
    subst e
    exact⟨some (i,c.val),by simp [Instr.findAsking,p,BT],.inr ⟨0,x,v,c.val,rfl,rfl,sm,a2,c,rfl,a1⟩⟩
   |false=>
    simp only [g]at e
    obtain⟨l,g1,g2⟩:=xH n h1 es a (i+1) (by simpa using f) (fun j k x c h1 u=>o (j+1) k x c h1 u) e
    exact⟨l,by simp [Instr.findAsking,p,BT,g1],g2.cons _ _⟩
theorem vC{t:TypeId}{k:PD}{i:Value}(hk:oW P t k=true)(h1:V S k i)(es:List (PD×PD))(a:List MapEntry){r:Option (Nat×PD×PD)}(m:a.length=es.length)
  (l:∀(j:Nat)k x c,es[j]? =some (k,x)->a[j]? =some c->V S k c.key∧V S x c.val) (n:nW P t k es 0=some r):
  ∃b,(Instr.findKey t i a).run P w= .ok b w∧Found S es a 0 r b:=by
 have hu:∃d,P.underlying t=some d:=by
  unfold oW at hk
  simp only [qc]at hk
  cases h:P.underlying t with
  |none=>rw [h]at hk;simp at hk
  |some d=>exact⟨d,rfl⟩
 obtain⟨d,hu⟩:=hu
 cases f:qx k with
 |false=>
  obtain⟨b,g1,g2⟩:=xI hu hk f h1 es a 0 m l n
  exact⟨b,MapKept.run_findKey hu g1,g2⟩
 |true=>
  obtain⟨b,g1,g2⟩:=xH (w:=w) f h1 es a 0 m l n
  refine⟨b,?_,g2⟩
  have g:∃e,d= .struct e:=by
   unfold oW at hk
   simp only [qc,hu]at hk
   cases k<;>simp only [qx,Ac]at f
   cases d<;>simp only [Ac]at hk
   exact⟨_,rfl⟩
  obtain⟨e,rfl⟩:=g
  cases a with
  |nil=>simpa [Instr.findKey,run_underlying hu,BT,Instr.findNow,Instr.findAsking]using g1
  |cons c a=>
   have o:Instr.findNow (.struct e) i (c::a) 0=none:=by
    simp only [Instr.findNow,Instr.sameNow]
   simpa [Instr.findKey,run_underlying hu,BT,o]using g1
theorem yQ{v:Value}{p:PD}(h:oB v=some p):V S p v:=by
 unfold oB at h
 split at h
 ·rename_i cs
  cases a:sw cs.toList with
  |none=>simp [a]at h
  |some c=>
   simp only [a,Option.map_some,AD]at h
   subst h
   obtain⟨i1,i2⟩:=uA (S:=S) a
   exact .agg c cs (by simpa using i1.symm) (fun i p v h1 b=>(i2 i p v h1 (by simpa using b)).1)
 ·exact(uz h).1
theorem wo(h:Sim P X S loc s tm w){t:TypeId}{x k v:RV}{u:Ups}{r:List Nat}{N E:Value}{ok:Bool}(m:pQ P t x k ok s.boxes=some ((v,u),r,true))(hx:R S loc x N)(hk:R S loc k E):
  ∃v',(Instr.lookup t N E ok).run P w= .ok v' w∧R S loc v v'∧u=[]:=by
 unfold pQ at m
 rcases hu:P.underlying t with _|d0
 ·simp only [hu]at m;exact fE s.boxes m
 rw [hu]at m
 cases d0<;>first|exact fE s.boxes m|skip
 rename_i J vt
 rcases x with _|_|_|_|_|_|_|⟨id,off⟩|_|_|_|_|_<;>first|exact fE s.boxes m|skip
 cases off<;>first|exact fE s.boxes m|skip
 rcases k with L|_|_|_|_|_|_|_|_|_|_|_|_<;>first|exact fE s.boxes m|skip
 obtain⟨Q,r1,r2,h1,a,_⟩:=M.bind_some m
 obtain⟨Y,_,_⟩:=M.get_some h1
 cases Q with
 |var _=>exact fE s.boxes a
 |arr _ _ _=>exact fE s.boxes a
 |dead=>exact fE s.boxes a
 |nest _ _ _ _ _=>exact fE s.boxes a
 |hole _ _ _ _ _ _=>exact fE s.boxes a
 |map a5 a7 es=>
  simp only at a
  split at a
  rotate_left
  ·exact fE s.boxes a
  rename_i n
  obtain⟨rfl,rfl,B⟩:=n
  cases hk with
  |d hk=>
  obtain⟨b,clock,e,K,rfl,hw,hlen,F⟩:=h.yC Y hx
  have two : ∀ {p : PD} {y : Value} (o : Bool), V S p y → R S loc (.tup [.d p, .d (.bool o)]) (.tuple #[y, .bool o]) := fun o D => .tup _ _ rfl (fun i c u n hu => by
   match i with
   |0=>simp at n hu;subst n hu;exact .d D
   |1=>simp at n hu;subst n hu;exact .d (.bool o)
   |i+2=>simp at n)
  rcases hf:nW P J L es 0 with _|r'
  ·simp only [hf]at a;exact fE s.boxes a
  obtain⟨a6,l,g2⟩:=vC (w:=w) B hk es e.toList (by simpa using hlen) (fun j k x T f W=>F j k x T f (by simpa using W)) hf
  have g:(Instr.checkKey e.isEmpty 10000 J E).run P w= .ok () w:=tj 20 9980 e.isEmpty J L E B hk
  rcases g2 with⟨rfl,rfl⟩|⟨j,x0,x',y,rfl,rfl,hj,D, -⟩
  ·rcases G:(n0 P vt).bind oB with _|z
   ·simp only [hf,G]at a;exact fE s.boxes a
   simp only [hf,G]at a
   obtain⟨O,H,I⟩:=Option.bind_eq_some_iff.1 G
   obtain⟨i,hi,q⟩:=oc H
   have C:=yQ (S:=S) I
   cases ok with
   |true=>
    obtain⟨f, -, -⟩:=mQ a
    cases f
    refine⟨.tuple #[O,.bool false],?_,two false C,rfl⟩
    simp [Instr.lookup,run_underlying hu,MapKept.run_getObj_map hw,g,l,zeroValue,typeInfo,hi,q,BT]
   |false=>
    obtain⟨f, -, -⟩:=mQ a
    cases f
    refine⟨O,?_,.d C,rfl⟩
    simp [Instr.lookup,run_underlying hu,MapKept.run_getObj_map hw,g,l,zeroValue,typeInfo,hi,q,BT]
  ·simp only [hf]at a
   cases ok with
   |true=>
    obtain⟨f, -, -⟩:=mQ a
    cases f
    refine⟨.tuple #[y,.bool true],?_,two true D,rfl⟩
    simp [Instr.lookup,run_underlying hu,MapKept.run_getObj_map hw,g,l,BT]
   |false=>
    obtain⟨f, -, -⟩:=mQ a
    cases f
    refine⟨y,?_,.d D,rfl⟩
    simp [Instr.lookup,run_underlying hu,MapKept.run_getObj_map hw,g,l,BT]
theorem Step.setBlock(w:World)(b:Nat)(o:Obj):Step (some b) w { w with heap:=w.heap.setIfInBounds b o }:=
 ⟨rfl, rfl, rfl, sm, fun i _ a => by
  have:b≠i:=fun e=>a (by rw [e])
  simp [Array.getElem?_setIfInBounds_ne this],Nat.le_refl _⟩
theorem wq(h:Sim P X S loc s tm w){t:TypeId}{x k y v:RV}{u:Ups}{r:List Nat}{vx G K:Value}(I:rq P t x k y s.boxes=some ((v,u),r,true))(hx:R S loc x vx)(hk:R S loc k G)(hy:R S loc y K):
  ∃w' S' loc',(Instr.mapUpdate t vx G K).run P w= .ok () w'∧Sim P X S' loc' (s.ups u) tm w'∧v= .undef:=by
 unfold rq at I
 rcases hu:P.underlying t with _|d0
 ·simp only [hu]at I;exact fE s.boxes I
 rw [hu]at I
 cases d0<;>first|exact fE s.boxes I|skip
 rename_i T vt
 rcases x with _|_|_|_|_|_|_|⟨id,off⟩|_|_|_|_|_<;>first|exact fE s.boxes I|skip
 cases off<;>first|exact fE s.boxes I|skip
 rcases k with kp|_|_|_|_|_|_|_|_|_|_|_|_<;>first|exact fE s.boxes I|skip
 obtain⟨bx,r1,r2,h1,H,_⟩:=M.bind_some I
 obtain⟨hb,_,_⟩:=M.get_some h1
 cases bx with
 |var _=>exact fE s.boxes H
 |arr _ _ _=>exact fE s.boxes H
 |dead=>exact fE s.boxes H
 |nest _ _ _ _ _=>exact fE s.boxes H
 |hole _ _ _ _ _ _=>exact fE s.boxes H
 |map c1 c2 es=>
  simp only at H
  split at H
  rotate_left
  ·exact fE s.boxes H
  rename_i hc
  obtain⟨rfl,rfl,O⟩:=hc
  cases hk with
  |d hk=>
  obtain⟨⟨p,W⟩,r3,r4,h3,o,_⟩:=M.bind_some H
  obtain⟨a1,a2,a3⟩:=qU h3
  obtain⟨S1,J,a6,E,hle,b3⟩:=h.re W a1 (fun x hx=>.inl (a2 x hx))
  have hp:V S1 p K:=a3 S loc S1 K hy E b3
  have z:=hk.mono E
  rcases hf:nW P T kp es 0 with _|r'
  ·simp only [hf]at o;exact fE s.boxes o
  have a8:∀(hc:(W.map (·.1)).contains id=false),id∉W.map (·.1):=fun hc hm=>by
   rw [List.contains_iff_mem.2 hm]at hc;cases hc
  have go : ∀ (B : List (PD × PD)), ((W.map (·.1)).contains id = false) → (∀ b clock a, w.heap[b]? = some (.map a clock) → a.size = es.length → (∀ (i : Nat) k x g, es[i]? = some (k, x) → a[i]? = some g → V S1 k g.key ∧ V S1 x g.val) →
    ∃c f,(Instr.mapUpdate t (.map (some b)) G K).run P w= .ok () { w with heap:=w.heap.setIfInBounds b (.map c f) }∧c.size=B.length∧∀(i:Nat)k x g,B[i]? =some (k,x)->c[i]? =some g->V S1 k g.key∧V S1 x g.val)->
    ∃w' S' loc',(Instr.mapUpdate t vx G K).run P w= .ok () w'∧Sim P X S' loc' (s.ups (W++[(id,.map T vt B)])) tm w':=by
   intro B C a9
   have b1:(s.ups W).boxes id=some (.map T vt es):=by rw [oj _ _ _ (a8 C)];exact hb
   obtain⟨b,clock,a,D,rfl,hw,hlen,n⟩:=a6.yC b1 (hx.mono E hle)
   obtain⟨c,f,g1,g2,g3⟩:=a9 b clock a hw hlen n
   have b4:b<w.heap.size:=(Array.getElem?_eq_some_iff.1 hw).1
   have b6:ni (J id) (.map b):=by rw [D];exact .same _
   refine⟨_,S1,upd J id (.map b),g1,?_⟩
   rw [qg,oz]
   refine a6.nH (Step.setBlock w b _) id _ _ (fun b' b2=>by cases b2;exact⟨_,D,rfl⟩) ?_ (fun b' b0=>by cases b0;exact .inl ⟨_,D,rfl⟩) b6
   exact .map T vt B b f c (by simp [b4]) g2 g3
  have q:(Instr.checkKey false 10000 T G).run P w= .ok () w:=tj 20 9980 false T kp G O z
  cases r' with
  |none=>
   simp only [hf]at o
   split at o
   ·exact fE s.boxes o
   rename_i C
   obtain⟨l, -, -⟩:=M.mJ o
   cases l
   obtain ⟨w', S', loc', g1, g2⟩ := go (es ++ [(kp, p)]) (by simpa using C) (fun b clock a hw hlen n => by
    obtain⟨c0,e1,e2⟩:=vC (w:=w) O z es a.toList (by simpa using hlen) (fun j k x g h3 o=>n j k x g h3 (by simpa using o)) hf
    rcases e2 with⟨-,rfl⟩|⟨j,x0,x',y',Q,_⟩
    rotate_left
    ·cases Q
    refine⟨a.push { key:=G,val:=K,born:=clock },clock+1,?_,by simp [hlen],fun i k x g l F=>?_⟩
    ·simp [Instr.mapUpdate,run_underlying hu,MapKept.run_getObj_map hw,q,e1,MapKept.run_setObj_map _ hw,BT]
    ·by_cases hi:i<es.length
     ·rw [List.getElem?_append_left hi]at l
      rw [Array.getElem?_push_lt om]at F
      exact n i k x g l (by rw [Array.getElem?_eq_getElem om];exact F)
     ·rw [List.getElem?_append_right om]at l
      have:i=es.length:=by
       have:=(List.getElem?_eq_some_iff.1 l).1
       simp at this;omega
      subst this
      simp at l
      obtain⟨rfl,rfl⟩:=l
      rw [<-hlen]at F
      simp at F
      subst F
      exact⟨z,hp⟩)
   exact⟨w',S',loc',g1,g2,rfl⟩
  |some r'=>
   obtain⟨i,x0,x'⟩:=r'
   simp only [hf]at o
   split at o
   ·exact fE s.boxes o
   rename_i C
   obtain⟨l, -,b5⟩:=M.mP o
   cases l
   obtain ⟨w', S', loc', g1, g2⟩ := go (es.set i (kp, p)) (by simpa using C) (fun b clock a hw hlen n => by
    obtain⟨c0,e1,e2⟩:=vC (w:=w) O z es a.toList (by simpa using hlen) (fun j k x g h3 o=>n j k x g h3 (by simpa using o)) hf
    rcases e2 with⟨Q,_⟩|⟨j,c3,x',y',Q,rfl,hj,_,a5,e5,e6⟩
    ·cases Q
    simp only [Nat.zero_add,AD,Prod.mk.injEq]at Q
    obtain⟨rfl,rfl,rfl⟩:=Q
    simp only [Nat.zero_add]at e1
    have Y:a[i]? =some a5:=by simpa using e5
    obtain⟨a7,L⟩:=zz b5.symm z e6
    have N:(Instr.keyThatStays a5.key G).run P w= .ok G w:=by
     rw [<-a7];simp [Instr.keyThatStays,L]
    refine⟨a.modify i fun e=>{ e with key:=G,val:=K },clock,?_,by simp [hlen],fun m k x g l F=>?_⟩
    ·simp [Instr.mapUpdate,run_underlying hu,MapKept.run_getObj_map hw,q,e1,Y,N,MapKept.run_setObj_map _ hw,BT]
    ·by_cases hm:i=m
     ·subst hm
      rw [List.getElem?_set_self om]at l
      cases l
      simp [Array.getElem?_modify,Y]at F
      subst F
      exact⟨z,hp⟩
     ·rw [List.getElem?_set_ne hm]at l
      simp [Array.getElem?_modify,hm]at F
      exact n m k x g l F)
   exact⟨w',S',loc',g1,g2,rfl⟩
end
end Go.Dw
