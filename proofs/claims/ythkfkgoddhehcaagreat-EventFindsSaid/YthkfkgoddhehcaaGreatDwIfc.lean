
import Derived.Test.YthkfkgoddhehcaaGreatDwCall2

namespace Go.Dw
section
variable {P:Program}{X:Ctx}{S:tG}{loc:ui}{s:St}{tm:Array Value}{w:World}
def Df(S:tG)(es:List (PD×PD))(a:List MapEntry)(i:Nat)(r:Option (Nat×PD×PD))(f:Option (Nat×Value)):Prop:=
 r=none∧f=none∨∃j x y c,r=some (i+j,x,y)∧f=some (i+j,c.val)∧es[j]? =some (x,y)∧a[j]? =some c∧V S x c.key
theorem Df.cons{es:List (PD×PD)}{a:List MapEntry}{i:Nat}{r:Option (Nat×PD×PD)}{c:Option (Nat×Value)}(h:Df S es a (i+1) r c)(e:PD×PD)(p:MapEntry):Df S (e::es) (p::a) i r c:=by
 rcases h with h|⟨j,x,y,v,f,e2,g,k,l⟩
 ·exact .inl h
 ·exact .inr ⟨j+1,x,y,v,by rw [f];congr 2;omega,by rw [e2];congr 2;omega,by simpa using g,by simpa using k,l⟩
theorem C7(w:World){b:Nat}{o:Obj}(h:w.heap[b]? =some o):{ w with heap:=w.heap.setIfInBounds b o }=w:=by
 have:w.heap.setIfInBounds b o=w.heap:=by
  apply Array.ext_getElem?
  intro i
  rw [Array.getElem?_setIfInBounds]
  by_cases hi:b=i
  ·subst hi
   rw [if_pos rfl,if_pos (Array.getElem?_eq_some_iff.1 h).1,h]
  ·rw [if_neg hi]
 rw [this]
theorem Sim.newRow(h:Sim P X S loc s tm w){new sz:Nat}{e2:TypeId}{row:List PD}{v:Value}{ys:List Value}(g:s.boxes new=none)(l:szT P e2=some sz)(how:rowAt w e2 sz v row.length ys)(hf:Flat S sz row ys)
  (f:∀b,tM v=some b->(∀i L,loc i=some L->¬L.has b)∧(∀o,S ⟨b,o,none⟩=none)∧(b∈X.B0∨X.w0.heap.size<=b)):
  ∃loc',Sim P X S loc' { s with boxes:=upd s.boxes new (.arr 0 e2 row) } tm w∧R S loc' (.ref new 0) v∧tO loc loc':=by
 have k:loc new=none:=h.uj g
 have j:uc (loc new) (.arr 0 e2 sz v):=by rw [k];trivial
 have ho:v.oneCell'=true:=by obtain⟨a,c,rfl,_⟩:=how.hdr;rfl
 refine⟨upd loc new (.arr 0 e2 sz v),h.uO (Step.refl none w) new _ _ (λb hc=>by cases hc) (.arr 0 e2 row sz v ys l how hf) (λb r=>?_) j,?_,tO.upd j⟩
 ·exact .inr (.inr (f b r))
 ·exact .ref new 0 v _ ho (tJ _ _ _) λq u t p he=>by cases he;exact⟨Nat.le_refl _,λ_=>rfl⟩
end
end Go.Dw
namespace Go.Dw
section
variable {P:Program}{S:tG}{loc:ui}{w:World}
theorem DB{t:TypeId}{x v:RV}{b:tY}{u:Ups}{r:List Nat}{c:Value}(a:ifcD P t x b=some ((v,u),r,true))(g:R S loc x c):
  ∃v',(Instr.makeInterface t c).run P w= .ok v' w∧R S loc v v'∧u=[]:=by
 unfold ifcD at a
 rcases hu:P.underlying t with _|j
 ·simp only [hu]at a;exact fE b a
 cases j<;>cases x<;>first
  |(simp only [hu]at a;exact fE b a)
  |(simp only [hu]at a;obtain⟨f, -, -⟩:=tR a;cases f;exact⟨.iface t c,by simp [Instr.makeInterface,run_underlying hu],.ifc t _ c g,rfl⟩)
theorem BI{t xt:TypeId}{ok:Bool}{x v:RV}{b:tY}{u:Ups}{r:List Nat}{p:Value}(f:xL P x t ok b=some ((v,u),r,true))(z:R S loc x p):
  ∃v',(Instr.typeAssert p xt t ok).run P w= .ok v' w∧R S loc v v'∧u=[]:=by
 unfold xL at f
 rcases hu:P.underlying t with _|l
 ·simp only [hu]at f;exact fE b f
 have key:∀t' c,x= .ifc t' c->(if t'=t then uB (if ok then .tup [c,.d (.bool true)]else c)else M.fail) b=some ((v,u),r,true)->(∀ms,l≠ .interface ms)->
   ∃v',(Instr.typeAssert p xt t ok).run P w= .ok v' w∧R S loc v v'∧u=[]:=by
  intro t' c k a j
  clear f
  subst k
  by_cases he:t'=t
  rotate_left
  ·rw [if_neg he]at a;exact fE b a
  rw [if_pos he]at a
  subst he
  obtain⟨y, -, -⟩:=tR a
  cases y
  cases z with
  |ifc _ _ v0 q=>
   refine⟨if ok then .tuple #[v0,.bool true]else v0,?_,?_,rfl⟩
   ·simp only [Instr.typeAssert,run_underlying hu,Sem.run_bind,Result.andThen_ok]
    cases l<;>first|(exact(j _ rfl).elim)|simp
   ·cases ok with
    |false=>exact q
    |true=>
     refine .tup _ _ rfl λi B v' h1 g=>?_
     match i,h1,g with
     |0,h1,g=>cases h1;cases g;exact q
     |1,h1,g=>cases h1;cases g;exact .d (.bool _)
 cases l<;>cases x<;>first
  |(simp only [hu]at f;exact fE b f)
  |(simp only [hu]at f;exact key _ _ rfl f (λ_ h=>by cases h))
theorem Ej{e:TypeId}{c v':Value}{w w':World}(h:(Instr.loadAt e c).run P w= .ok v' w'):∃a,c= .pointer (some a)∧(loadVar e a).run P w= .ok v' w':=by
 cases c with
 |pointer a=>
  cases a with
  |none=>simp [Instr.loadAt,Instr.sureAddr,stuck]at h
  |some a=>exact⟨a,rfl,by simpa [Instr.loadAt,Instr.sureAddr]using h⟩
 |_=>simp [Instr.loadAt,Instr.sureAddr,stuck]at h
theorem El{t:TypeId}{name:String}{f:FuncId}{e:Option TypeId}(h:Bu P t name=some (f,e)){v v':Value}{w:World}(c:match e with|none=>v'=v|some e=>(Instr.loadAt e v).run P w= .ok v' w)(k:Nat):
  (method (k+1) t v name).run P w= .ok (f,v') w:=by
 unfold Bu at h
 split at h
 rotate_left
 ·cases h
 rename_i i hi
 split at h
 rotate_left
 ·cases h
 rename_i m u hm hu
 split at h
 ·rename_i g p hp hf
  cases h
  subst c
  simp [method,typeInfo,hi,hm,hp,hf,follow,receiverAt,run_underlying hu,Place.get]
 ·rename_i g l hp hf
  cases h
  obtain⟨a,rfl,j⟩:=Ej c
  have he:m.path= #[]:=Array.ext' hp
  have hw : ∀ n, (Builtin.ssaWrapNilChk_ #[t] t #[.pointer (some a), strVal "", strVal n]).run P w = .ok (.pointer (some a)) w := λ_ => rfl
  simp [method,typeInfo,hi,hm,hp,hf,follow,receiverAt,run_underlying hu,Place.get,he,hw,asAddr,j]
 ·cases h
theorem yq{t:TypeId}{name:String}{f:FuncId}{e:Option TypeId}(h:Bu P t name=some (f,e)){v v':Value}{w:World}(a:match e with|none=>v'=v|some e=>(Instr.loadAt e v).run P w= .ok v' w)(args:Array Value):
  (callMethod (.iface t v) name args).run P w=(callFunc f (#[v']++args)).run P w:=by
 obtain ⟨k, hk⟩ : ∃ k, P.types.size + Made.depth = k + 1 := ⟨P.types.size + Made.depth - 1, by
  have:0<Made.depth:=by decide
  omega⟩
 have hm:=El h a k
 rw [<-hk]at hm
 simp [callMethod,hm]
theorem Cl{mt:Hf}{call:tI}{base:Nat}{x:RV}{name:String}{as:List RV}{b:tY}{z:RV×Ups}{r:List Nat}(a:xR P mt call base x name as b=some (z,r,true)):
  ∃ t c f, x = .ifc t c ∧ ((Bu P t name = some (f, none) ∧ vA mt.by_ call f base (c :: as) b = some (z, r, true)) ∨
   ∃e v u g j,Bu P t name=some (f,some e)∧wg P e c b=some ((v,u),g,true)∧vA mt.by_ call f base (v::as) b=some (z,j,true)):=by
 unfold xR at a
 cases x<;>first|exact fE b a|skip
 rename_i t c
 rcases hm:Bu P t name with _|⟨f,_|e⟩
 ·simp only [hm]at a;exact fE b a
 ·simp only [hm]at a
  exact⟨t,c,f,rfl,.inl ⟨hm,a⟩⟩
 ·simp only [hm]at a
  obtain⟨⟨v,u⟩,g,j,h1,k, -⟩:=M.bind_some a
  exact⟨t,c,f,rfl,.inr ⟨e,v,u,g,j,hm,h1,k⟩⟩
end
end Go.Dw
