
import Derived.Test.YtgiepghgloiinaaGreatDoorDwCopy
import Derived.Test.YtgiepghgloiinaaGreatDoorDwEq
import Derived.MapKept
open Go.Result renaming andThen->B3
open Bool renaming and_eq_true->Ac, false_eq_true->Aj
open Option.some renaming injEq->AD

namespace Go.Dw
section
variable {P:Program}{X:Ctx}{S:kd}{loc:kH}{s:St}{tm:Array Value}{w:World}
theorem tf(h:Sim P X S loc s tm w){id:Nat}{t:TypeId}{v:RV}{u:Ups}{r:List Nat}(hl:ng P id t s.boxes=some ((v,u),r,true)):
  ∃v' w' loc',(Instr.makeMap t none).run P w= .ok v' w'∧Sim P X S loc' (s.ups u) tm w'∧R S loc' v v':=by
 unfold ng at hl
 rcases hu:P.underlying t with _|d0
 ·simp only [hu]at hl;exact fE s.boxes hl
 rw [hu]at hl
 cases d0<;>first|exact fE s.boxes hl|skip
 ·rename_i g j
  obtain⟨_,m,n,h1,e,_⟩:=M.bind_some hl
  obtain⟨hb,_,_⟩:=M.kQ h1
  obtain⟨f, -, -⟩:=M.jv e
  cases f
  have a:=h.ky hb
  have c:j3 (loc id) (.map w.heap.size):=by rw [a];trivial
  refine⟨.map (some w.heap.size),w.alloc (.map #[] 0),upd loc id (.map w.heap.size),by simp [Instr.makeMap],?_,?_⟩
  ·refine h.kl (Step.alloc w _) id _ _ (fun b hc=>by cases hc) ?_ ?_ c
   ·exact .map g j [] w.heap.size 0 #[] (heap_alloc_new w _) rfl (fun i k x l h1 _=>by simp at h1)
   ·intro b hb;cases hb;exact .inr (.inl (Nat.le_refl _))
  ·exact .ptr id 0 _ (.map w.heap.size) rfl (jQ _ _ _) (fun b=>⟨(fun he=>by cases he),(fun he=>by cases he;rfl)⟩)
theorem ow:∀(d n:Nat)(e:Bool)(t:TypeId)(k:PD)(u:Value),mP P d t k=true->V S k u->(Instr.checkKey e (n+d) t u).run P w= .ok () w
 |0,_,_,_,_,_,h,_=>by simp [mP]at h
 |d+1,n,e,t,k,u,h,g=>by
  simp only [mP]at h
  rw [show n+(d+1)=(n+d)+1 by omega]
  unfold Instr.checkKey
  split at h
  ·rename_i q z m hu
   cases g
   simp [run_underlying hu]
  ·rename_i hu
   cases g
   simp [run_underlying hu]
  ·rename_i hu
   cases g
   simp [run_underlying hu]
  ·rename_i v cs hu
   obtain⟨vs,rfl,hl,hc⟩:=g.my
   simp only [Sem.run_bind,run_underlying hu,B3]
   have j : ∀ (l : List Field), (l.all fun f => f.name != "_" && (match oe P f.type cs f.offset with | some p => mP P d f.type p | none => false)) = true →
     (forIn l PUnit.unit fun (f : Field) (_ : PUnit) => (do if f.name ≠ "_" then (do Instr.checkKey e (n + d) f.type (← part f.type vs f.offset); pure (.yield PUnit.unit)) else pure (.yield PUnit.unit) : Sem (ForInStep PUnit))).run P w = .ok PUnit.unit w := by
    intro l b
    induction l with
    |nil=>simp
    |cons f r y=>
     simp only [List.all_cons,Ac]at b
     obtain⟨⟨h1,c⟩,x⟩:=b
     rcases o:oe P f.type cs f.offset with _|p
     ·rw [o]at c;cases c
     rw [o]at c
     obtain⟨v',g1,g2⟩:=nh (P:=P) (S:=S) (w:=w) o hl hc
     have g3:=ow d n e f.type p v' c g2
     have i : f.name ≠ "_" := by simpa using h1
     simp only [List.forIn_cons,Sem.run_bind,i,ne_eq,not_false_eq_true,if_true,g1,B3,g3]
     simpa [Sem.run_bind,B3]using y x
   have a:=j v.toList h
   simp only [<-Array.forIn_toList]
   simp only [ne_eq,ite_not]at a⊢
   simp only [bind_pure_comp]at a⊢
   rw [a]
   simp
  ·cases h
theorem tu{a b:PD}{va vb:Value}(h:pA a b=true)(c:V S a va)(hb:V S b vb):va=vb∧∀n,Instr.sameBits n va va=true:=by
 unfold pA at h
 split at h
 ·cases c;cases hb
  simp only [Ac,decide_eq_true_eq]at h
  obtain⟨rfl,rfl⟩:=h
  exact⟨rfl,fun n=>by cases n<;>simp [Instr.sameBits]⟩
 ·cases c;cases hb
  simp only [decide_eq_true_eq]at h
  subst h
  exact⟨rfl,fun n=>by cases n<;>simp [Instr.sameBits,MapKept.bytes_beq]⟩
 ·cases c;cases hb
  simp only [decide_eq_true_eq]at h
  subst h
  exact⟨rfl,fun n=>by cases n<;>simp [Instr.sameBits]⟩
 ·cases h
theorem tv:∀{a b:List PD}{va vb:List Value},pB a b=true->va.length=a.length->vb.length=b.length->(∀(i:Nat)p v,a[i]? =some p->va[i]? =some v->V S p v)->(∀(i:Nat)p v,b[i]? =some p->vb[i]? =some v->V S p v)->va=vb∧∀n,∀v∈va,Instr.sameBits n v v=true
 | [],[],va,vb,_,h1,c,_,_=>by
  cases va<;>cases vb<;>first|exact⟨rfl,fun _ _ h=>by cases h⟩|simp at h1 c
 | [],_::_,_,_,h,_,_,_,_=>by simp [pB]at h
 |_::_,[],_,_,h,_,_,_,_=>by simp [pB]at h
 |a::r,b::q,va,vb,h,h1,c,f,g=>by
  simp only [pB,Ac]at h
  cases va with
  |nil=>simp at h1
  |cons x va=>
  cases vb with
  |nil=>simp at c
  |cons y vb=>
  obtain⟨j,e2⟩:=tu h.1 (f 0 a x rfl rfl) (g 0 b y rfl rfl)
  obtain⟨k,l⟩:=tv h.2 (by simpa using h1) (by simpa using c) (fun i p v g1 g2=>f (i+1) p v g1 g2) (fun i p v g1 g2=>g (i+1) p v g1 g2)
  subst j;subst k
  refine⟨rfl,fun n v e=>?_⟩
  cases e with
  |head=>exact e2 n
  |tail _ e=>exact l n v e
theorem ui{a b:PD}{va vb:Value}(h:pX a b=true)(e:V S a va)(hb:V S b vb):va=vb∧Instr.sameBits 10000 va va=true:=by
 unfold pX at h
 split at h
 ·obtain⟨xs,rfl,h1,f⟩:=e.my
  obtain⟨ys,rfl,g,j⟩:=hb.my
  obtain⟨c,e2⟩:=tv (va:=xs.toList) (vb:=ys.toList) h (by simpa using h1) (by simpa using g) (fun i p v g1 g2=>f i p v g1 (by simpa using g2)) (fun i p v g1 g2=>j i p v g1 (by simpa using g2))
  have c:xs=ys:=Array.toList_inj.1 c
  subst c
  refine⟨rfl,?_⟩
  show Instr.sameBits (9999+1) _ _=true
  have:∀l:List Value,(∀v∈l,Instr.sameBits 9999 v v=true)->((l.zip l).all fun(x,y)=>Instr.sameBits 9999 x y)=true:=by
   intro l hl
   induction l with
   |nil=>rfl
   |cons v l m=>simp only [List.zip_cons_cons,List.all_cons,hl v (.head _),Bool.true_and];exact m fun x k=>hl x (.tail _ k)
  simp [Instr.sameBits,this xs.toList (e2 9999)]
 ·obtain⟨c,e2⟩:=tu h e hb
  exact⟨c,e2 10000⟩
theorem rO{t:TypeId}{d:TypeDesc}(hu:P.underlying t=some d){k x:PD}{g i:Value}(hk:lC P t k=true)(h1:V S k g)(f:V S x i){b:Bool}(c:nu k x=some b):Instr.sameNow d g i=some b:=by
 unfold lC at hk
 simp only [mP]at hk
 split at hk
 ·rename_i q j n e
  rw [hu]at e
  cases e
  have:=of_decide_eq_true hk
  subst this
  cases h1
  cases x<;>simp only [nu]at c<;>first|(cases c;done)|skip
  cases f
  exact c
 ·rename_i e
  rw [hu]at e
  cases e
  cases h1
  cases x<;>simp only [nu]at c<;>first|(cases c;done)|skip
  cases f
  rename_i a
  simp only [Instr.sameNow,AD]at c⊢
  rw [<-c,Bool.eq_iff_iff,MapKept.bytes_beq]
  simp
 ·rename_i e
  rw [hu]at e
  cases e
  cases h1
  cases x<;>simp only [nu]at c<;>first|(cases c;done)|skip
  cases f
  exact c
 ·cases x<;>cases c
 ·cases hk
def Found(S:kd)(es:List (PD×PD))(a:List MapEntry)(i:Nat)(r:Option (Nat×PD×PD))(c:Option (Nat×Value)):Prop:=
 r=none∧c=none∨∃j x y v,r=some (i+j,x,y)∧c=some (i+j,v)∧j<es.length∧V S y v∧∃b,a[j]? =some b∧V S x b.key
theorem Found.cons{es:List (PD×PD)}{a:List MapEntry}{i:Nat}{r:Option (Nat×PD×PD)}{c:Option (Nat×Value)}(h:Found S es a (i+1) r c)(e:PD×PD)(m:MapEntry):Found S (e::es) (m::a) i r c:=by
 rcases h with h|⟨j,x,y,v,f,e2,n,g,b,k,l⟩
 ·exact .inl h
 ·exact .inr ⟨j+1,x,y,v,by rw [f];congr 2;omega,by rw [e2];congr 2;omega,so,g,b,k,l⟩
theorem vO{t:TypeId}{d:TypeDesc}(hu:P.underlying t=some d){k:PD}{o:Value}(hk:lC P t k=true)(l:lZ k=false)(h1:V S k o):∀(es:List (PD×PD))(a:List MapEntry)(i:Nat){r:Option (Nat×PD×PD)},a.length=es.length->
  (∀(j:Nat)k x e,es[j]? =some (k,x)->a[j]? =some e->V S k e.key∧V S x e.val)->kN P t k es i=some r->
  ∃g,Instr.findNow d o a i=some g∧Found S es a i r g
 | [],[],i,r,_,_,c=>by
  simp only [kN,AD]at c
  subst c
  exact⟨none,rfl,.inl ⟨rfl,rfl⟩⟩
 | [],_::_,_,_,hl,_,_=>by simp at hl
 |_::_,[],_,_,hl,_,_=>by simp at hl
 |(x,v)::es,e::a,i,r,hl,hc,c=>by
  obtain⟨a1,a2⟩:=hc 0 x v e rfl rfl
  simp only [kN,qt,l]at c
  cases n:lZ x with
  |true=>simp [n]at c
  |false=>
  simp only [n]at c
  cases f:nu k x with
  |none=>simp [f]at c
  |some b=>
   have m:=rO hu hk h1 a1 f
   cases b with
   |true=>
    simp only [f,AD]at c
    subst c
    exact⟨some (i,e.val),by simp only [Instr.findNow,m],.inr ⟨0,x,v,e.val,rfl,rfl,sm,a2,e,rfl,a1⟩⟩
   |false=>
    simp only [f]at c
    obtain⟨g,g1,g2⟩:=vO hu hk l h1 es a (i+1) (by simpa using hl) (fun j k x e h1 p=>hc (j+1) k x e h1 p) c
    exact⟨g,by simp only [Instr.findNow,m];exact g1,g2.cons _ _⟩
theorem vN{t:TypeId}{k:PD}{l:Value}(m:lZ k=true)(h1:V S k l):∀(es:List (PD×PD))(a:List MapEntry)(i:Nat){r:Option (Nat×PD×PD)},a.length=es.length->
  (∀(j:Nat)k x c,es[j]? =some (k,x)->a[j]? =some c->V S k c.key∧V S x c.val)->kN P t k es i=some r->
  ∃g,(Instr.findAsking t l a i).run P w= .ok g w∧Found S es a i r g
 | [],[],i,r,_,_,e=>by
  simp only [kN,AD]at e
  subst e
  exact⟨none,rfl,.inl ⟨rfl,rfl⟩⟩
 | [],_::_,_,_,hl,_,_=>by simp at hl
 |_::_,[],_,_,hl,_,_=>by simp at hl
 |(x,v)::es,c::a,i,r,hl,hc,e=>by
  obtain⟨a1,a2⟩:=hc 0 x v c rfl rfl
  simp only [kN,qt,m]at e
  cases o:lZ x with
  |false=>simp [o]at e
  |true=>
  simp only [o]at e
  cases f:rZ P 20 t k x with
  |none=>simp [f]at e
  |some b=>
   have n:(Op.equal t l c.key).run P w= .ok b w:=lR (P:=P) (S:=S) (w:=w) 20 9980 t _ _ b _ _ f h1 a1
   cases b with
   |true=>
    simp only [f,AD]at e
    subst e
    exact⟨some (i,c.val),by simp [Instr.findAsking,n,B3],.inr ⟨0,x,v,c.val,rfl,rfl,sm,a2,c,rfl,a1⟩⟩
   |false=>
    simp only [f]at e
    obtain⟨g,g1,g2⟩:=vN m h1 es a (i+1) (by simpa using hl) (fun j k x c h1 p=>hc (j+1) k x c h1 p) e
    exact⟨g,by simp [Instr.findAsking,n,B3,g1],g2.cons _ _⟩
theorem sY{t:TypeId}{k:PD}{i:Value}(hk:lC P t k=true)(h1:V S k i)(es:List (PD×PD))(a:List MapEntry){r:Option (Nat×PD×PD)}(hl:a.length=es.length)
  (hc:∀(j:Nat)k x c,es[j]? =some (k,x)->a[j]? =some c->V S k c.key∧V S x c.val) (l:kN P t k es 0=some r):
  ∃b,(Instr.findKey t i a).run P w= .ok b w∧Found S es a 0 r b:=by
 have hu:∃d,P.underlying t=some d:=by
  unfold lC at hk
  simp only [mP]at hk
  cases h:P.underlying t with
  |none=>rw [h]at hk;simp at hk
  |some d=>exact⟨d,rfl⟩
 obtain⟨d,hu⟩:=hu
 cases f:lZ k with
 |false=>
  obtain⟨b,g1,g2⟩:=vO hu hk f h1 es a 0 hl hc l
  exact⟨b,MapKept.run_findKey hu g1,g2⟩
 |true=>
  obtain⟨b,g1,g2⟩:=vN (w:=w) f h1 es a 0 hl hc l
  refine⟨b,?_,g2⟩
  have g:∃e,d= .struct e:=by
   unfold lC at hk
   simp only [mP,hu]at hk
   cases k<;>simp only [lZ,Aj]at f
   cases d<;>simp only [Aj]at hk
   exact⟨_,rfl⟩
  obtain⟨e,rfl⟩:=g
  cases a with
  |nil=>simpa [Instr.findKey,run_underlying hu,B3,Instr.findNow,Instr.findAsking]using g1
  |cons c a=>
   have m:Instr.findNow (.struct e) i (c::a) 0=none:=by
    simp only [Instr.findNow,Instr.sameNow]
   simpa [Instr.findKey,run_underlying hu,B3,m]using g1
theorem xb{v:Value}{p:PD}(h:l6 v=some p):V S p v:=by
 unfold l6 at h
 split at h
 ·rename_i cs
  cases a:pC cs.toList with
  |none=>simp [a]at h
  |some c=>
   simp only [a,Option.map_some,AD]at h
   subst h
   obtain⟨i1,i2⟩:=rp (S:=S) a
   exact .agg c cs (by simpa using i1.symm) (fun i p v h1 b=>(i2 i p v h1 (by simpa using b)).1)
 ·exact(rn h).1
theorem tP(h:Sim P X S loc s tm w){t:TypeId}{x k v:RV}{u:Ups}{r:List Nat}{K C:Value}{ok:Bool}(hl:nv P t x k ok s.boxes=some ((v,u),r,true))(T:R S loc x K)(hk:R S loc k C):
  ∃v',(Instr.lookup t K C ok).run P w= .ok v' w∧R S loc v v'∧u=[]:=by
 unfold nv at hl
 rcases hu:P.underlying t with _|d0
 ·simp only [hu]at hl;exact fE s.boxes hl
 rw [hu]at hl
 cases d0<;>first|exact fE s.boxes hl|skip
 rename_i H Y
 rcases x with _|_|_|_|_|_|_|⟨id,off⟩|_|_|_|_|_<;>first|exact fE s.boxes hl|skip
 cases off<;>first|exact fE s.boxes hl|skip
 rcases k with J|_|_|_|_|_|_|_|_|_|_|_|_<;>first|exact fE s.boxes hl|skip
 obtain⟨N,r1,r2,h1,a,_⟩:=M.bind_some hl
 obtain⟨hb,_,_⟩:=M.get_some h1
 cases N with
 |var _=>exact fE s.boxes a
 |arr _ _ _=>exact fE s.boxes a
 |dead=>exact fE s.boxes a
 |nest _ _ _ _ _=>exact fE s.boxes a
 |mapn _ _ _ _ _=>exact fE s.boxes a
 |hole _ _ _ _ _ _=>exact fE s.boxes a
 |deep _ _ _ _ _ _ _=>exact fE s.boxes a
 |map U a4 es=>
  simp only at a
  split at a
  rotate_left
  ·exact fE s.boxes a
  rename_i hc
  obtain⟨rfl,rfl,n⟩:=hc
  cases hk with
  |d hk=>
  obtain⟨b,clock,e,I,rfl,hw,hlen,D⟩:=h.wX hb T
  have two : ∀ {p : PD} {y : Value} (o : Bool), V S p y → R S loc (.tup [.d p, .d (.bool o)]) (.tuple #[y, .bool o]) := fun o B => .tup _ _ rfl (fun i c u hc hu => by
   match i with
   |0=>simp at hc hu;subst hc hu;exact .d B
   |1=>simp at hc hu;subst hc hu;exact .d (.bool o)
   |i+2=>simp at hc)
  rcases hf:kN P H J es 0 with _|r'
  ·simp only [hf]at a;exact fE s.boxes a
  obtain⟨W,l,g2⟩:=sY (w:=w) n hk es e.toList (by simpa using hlen) (fun j k x O f Q=>D j k x O f (by simpa using Q)) hf
  have g:(Instr.checkKey e.isEmpty 10000 H C).run P w= .ok () w:=ow 20 9980 e.isEmpty H J C n hk
  rcases g2 with⟨rfl,rfl⟩|⟨j,x0,x',y,rfl,rfl,hj,B, -⟩
  ·rcases E:(kZ P Y).bind l6 with _|z
   ·simp only [hf,E]at a;exact fE s.boxes a
   simp only [hf,E]at a
   obtain⟨L,F,G⟩:=Option.bind_eq_some_iff.1 E
   obtain⟨i,hi,m⟩:=k8 F
   have q:=xb (S:=S) G
   cases ok with
   |true=>
    obtain⟨f, -, -⟩:=kc a
    cases f
    refine⟨.tuple #[L,.bool false],?_,two false q,rfl⟩
    simp [Instr.lookup,run_underlying hu,MapKept.run_getObj_map hw,g,l,zeroValue,typeInfo,hi,m,B3]
   |false=>
    obtain⟨f, -, -⟩:=kc a
    cases f
    refine⟨L,?_,.d q,rfl⟩
    simp [Instr.lookup,run_underlying hu,MapKept.run_getObj_map hw,g,l,zeroValue,typeInfo,hi,m,B3]
  ·simp only [hf]at a
   cases ok with
   |true=>
    obtain⟨f, -, -⟩:=kc a
    cases f
    refine⟨.tuple #[y,.bool true],?_,two true B,rfl⟩
    simp [Instr.lookup,run_underlying hu,MapKept.run_getObj_map hw,g,l,B3]
   |false=>
    obtain⟨f, -, -⟩:=kc a
    cases f
    refine⟨y,?_,.d B,rfl⟩
    simp [Instr.lookup,run_underlying hu,MapKept.run_getObj_map hw,g,l,B3]
theorem Step.setBlock(w:World)(b:Nat)(o:Obj):Step (some b) w { w with heap:=w.heap.setIfInBounds b o }:=
 ⟨rfl, rfl, rfl, sm, fun i _ a => by
  have:b≠i:=fun e=>a (by rw [e])
  simp [Array.getElem?_setIfInBounds_ne this],Nat.le_refl _⟩
theorem tQ(h:Sim P X S loc s tm w){t:TypeId}{x k y v:RV}{u:Ups}{r:List Nat}{vx H J:Value}(hl:oC P t x k y s.boxes=some ((v,u),r,true))(hx:R S loc x vx)(hk:R S loc k H)(hy:R S loc y J):
  ∃w' S' loc',(Instr.mapUpdate t vx H J).run P w= .ok () w'∧Sim P X S' loc' (s.ups u) tm w'∧v= .undef:=by
 unfold oC at hl
 rcases hu:P.underlying t with _|d0
 ·simp only [hu]at hl;exact fE s.boxes hl
 rw [hu]at hl
 cases d0<;>first|exact fE s.boxes hl|skip
 rename_i T vt
 rcases x with _|_|_|_|_|_|_|⟨id,off⟩|_|_|_|_|_<;>first|exact fE s.boxes hl|skip
 cases off<;>first|exact fE s.boxes hl|skip
 rcases k with kp|_|_|_|_|_|_|_|_|_|_|_|_<;>first|exact fE s.boxes hl|skip
 obtain⟨bx,r1,r2,h1,C,_⟩:=M.bind_some hl
 obtain⟨hb,_,_⟩:=M.get_some h1
 cases bx with
 |var _=>exact fE s.boxes C
 |arr _ _ _=>exact fE s.boxes C
 |dead=>exact fE s.boxes C
 |nest _ _ _ _ _=>exact fE s.boxes C
 |mapn _ _ _ _ _=>exact fE s.boxes C
 |hole _ _ _ _ _ _=>exact fE s.boxes C
 |deep _ _ _ _ _ _ _=>exact fE s.boxes C
 |map c3 c4 es=>
  simp only at C
  split at C
  rotate_left
  ·exact fE s.boxes C
  rename_i hc
  obtain⟨rfl,rfl,O⟩:=hc
  cases hk with
  |d hk=>
  obtain⟨⟨p,U⟩,r3,r4,h3,o,_⟩:=M.bind_some C
  obtain⟨a1,a2,a3⟩:=oh h3
  obtain⟨K,I,a4,F,hle,b4⟩:=h.oq U a1 (fun x hx=>.inl (a2 x hx))
  have hp:V K p J:=a3 S loc K J hy F b4
  have z:=hk.mono F
  rcases hf:kN P T kp es 0 with _|r'
  ·simp only [hf]at o;exact fE s.boxes o
  have a9:∀(hc:(U.map (·.1)).contains id=false),id∉U.map (·.1):=fun hc hm=>by
   rw [List.contains_iff_mem.2 hm]at hc;cases hc
  have go : ∀ (B : List (PD × PD)), ((U.map (·.1)).contains id = false) → (∀ b clock a, w.heap[b]? = some (.map a clock) → a.size = es.length → (∀ (i : Nat) k x g, es[i]? = some (k, x) → a[i]? = some g → V K k g.key ∧ V K x g.val) →
    ∃c f,(Instr.mapUpdate t (.map (some b)) H J).run P w= .ok () { w with heap:=w.heap.setIfInBounds b (.map c f) }∧c.size=B.length∧∀(i:Nat)k x g,B[i]? =some (k,x)->c[i]? =some g->V K k g.key∧V K x g.val)->
    ∃w' S' loc',(Instr.mapUpdate t vx H J).run P w= .ok () w'∧Sim P X S' loc' (s.ups (U++[(id,.map T vt B)])) tm w':=by
   intro B D b0
   have b2:(s.ups U).boxes id=some (.map T vt es):=by rw [lL _ _ _ (a9 D)];exact hb
   obtain⟨b,clock,a,E,rfl,hw,hlen,n⟩:=a4.wX b2 (hx.mono F hle)
   obtain⟨c,f,g1,g2,g3⟩:=b0 b clock a hw hlen n
   have b5:b<w.heap.size:=(Array.getElem?_eq_some_iff.1 hw).1
   have c1:j3 (I id) (.map b):=by rw [E];exact .same _
   refine⟨_,K,upd I id (.map b),g1,?_⟩
   rw [mU,lI]
   refine a4.kl (Step.setBlock w b _) id _ _ (fun b' b3=>by cases b3;exact⟨_,E,rfl⟩) ?_ (fun b' b1=>by cases b1;exact .inl ⟨_,E,rfl⟩) c1
   exact .map T vt B b f c (by simp [b5]) g2 g3
  have q:(Instr.checkKey false 10000 T H).run P w= .ok () w:=ow 20 9980 false T kp H O z
  cases r' with
  |none=>
   simp only [hf]at o
   split at o
   ·exact fE s.boxes o
   rename_i D
   obtain⟨l, -, -⟩:=M.jv o
   cases l
   obtain ⟨w', S', loc', g1, g2⟩ := go (es ++ [(kp, p)]) (by simpa using D) (fun b clock a hw hlen n => by
    obtain⟨c2,e1,e2⟩:=sY (w:=w) O z es a.toList (by simpa using hlen) (fun j k x g h3 o=>n j k x g h3 (by simpa using o)) hf
    rcases e2 with⟨-,rfl⟩|⟨j,x0,x',y',Q,_⟩
    rotate_left
    ·cases Q
    refine⟨a.push { key:=H,val:=J,born:=clock },clock+1,?_,by simp [hlen],fun i k x g l G=>?_⟩
    ·simp [Instr.mapUpdate,run_underlying hu,MapKept.run_getObj_map hw,q,e1,MapKept.run_setObj_map _ hw,B3]
    ·by_cases hi:i<es.length
     ·rw [List.getElem?_append_left hi]at l
      rw [Array.getElem?_push_lt om]at G
      exact n i k x g l (by rw [Array.getElem?_eq_getElem om];exact G)
     ·rw [List.getElem?_append_right om]at l
      have:i=es.length:=by
       have:=(List.getElem?_eq_some_iff.1 l).1
       simp at this;omega
      subst this
      simp at l
      obtain⟨rfl,rfl⟩:=l
      rw [<-hlen]at G
      simp at G
      subst G
      exact⟨z,hp⟩)
   exact⟨w',S',loc',g1,g2,rfl⟩
  |some r'=>
   obtain⟨i,x0,x'⟩:=r'
   simp only [hf]at o
   split at o
   ·exact fE s.boxes o
   rename_i D
   obtain⟨l, -,c0⟩:=M.j0 o
   cases l
   obtain ⟨w', S', loc', g1, g2⟩ := go (es.set i (kp, p)) (by simpa using D) (fun b clock a hw hlen n => by
    obtain⟨c2,e1,e2⟩:=sY (w:=w) O z es a.toList (by simpa using hlen) (fun j k x g h3 o=>n j k x g h3 (by simpa using o)) hf
    rcases e2 with⟨Q,_⟩|⟨j,c5,x',y',Q,rfl,hj,_,Y,e5,e6⟩
    ·cases Q
    simp only [Nat.zero_add,AD,Prod.mk.injEq]at Q
    obtain⟨rfl,rfl,rfl⟩:=Q
    simp only [Nat.zero_add]at e1
    have W:a[i]? =some Y:=by simpa using e5
    obtain⟨a5,L⟩:=ui c0.symm z e6
    have N:(Instr.keyThatStays Y.key H).run P w= .ok H w:=by
     rw [<-a5];simp [Instr.keyThatStays,L]
    refine⟨a.modify i fun e=>{ e with key:=H,val:=J },clock,?_,by simp [hlen],fun m k x g l G=>?_⟩
    ·simp [Instr.mapUpdate,run_underlying hu,MapKept.run_getObj_map hw,q,e1,W,N,MapKept.run_setObj_map _ hw,B3]
    ·by_cases hm:i=m
     ·subst hm
      rw [List.getElem?_set_self om]at l
      cases l
      simp [Array.getElem?_modify,W]at G
      subst G
      exact⟨z,hp⟩
     ·rw [List.getElem?_set_ne hm]at l
      simp [Array.getElem?_modify,hm]at G
      exact n m k x g l G)
   exact⟨w',S',loc',g1,g2,rfl⟩
end
end Go.Dw
