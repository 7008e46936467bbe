
import Derived.Test.YtikangmionpjfaaGreatDwMapN

namespace Go.Dw
section
variable {P:Program}{S:pr}{loc:pY}{w:World}
theorem A9{t:TypeId}{x v:RV}{b:pP}{u:Ups}{r:List Nat}{c:Value}(a:ifcD P t x b=some ((v,u),r,true))(g:R S loc x c):
  ∃v',(Instr.makeInterface t c).run P w= .ok v' w∧R S loc v v'∧u=[]:=by
 unfold ifcD at a
 rcases hu:P.underlying t with _|j
 ·simp only [hu]at a;exact fE b a
 cases j<;>cases x<;>first
  |(simp only [hu]at a;exact fE b a)
  |(simp only [hu]at a;obtain⟨f, -, -⟩:=pw a;cases f;exact⟨.iface t c,by simp [Instr.makeInterface,run_underlying hu],.ifc t _ c g,rfl⟩)
theorem yN{t xt:TypeId}{ok:Bool}{x v:RV}{b:pP}{u:Ups}{r:List Nat}{p:Value}(f:uv P x t ok b=some ((v,u),r,true))(z:R S loc x p):
  ∃v',(Instr.typeAssert p xt t ok).run P w= .ok v' w∧R S loc v v'∧u=[]:=by
 unfold uv at f
 rcases hu:P.underlying t with _|l
 ·simp only [hu]at f;exact fE b f
 have key:∀t' c,x= .ifc t' c->(if t'=t then qe (if ok then .tup [c,.d (.bool true)]else c)else M.fail) b=some ((v,u),r,true)->(∀ms,l≠ .interface ms)->
   ∃v',(Instr.typeAssert p xt t ok).run P w= .ok v' w∧R S loc v v'∧u=[]:=by
  intro t' c k a j
  clear f
  subst k
  by_cases he:t'=t
  rotate_left
  ·rw [if_neg he]at a;exact fE b a
  rw [if_pos he]at a
  subst he
  obtain⟨y, -, -⟩:=pw a
  cases y
  cases z with
  |ifc _ _ v0 q=>
   refine⟨if ok then .tuple #[v0,.bool true]else v0,?_,?_,rfl⟩
   ·simp only [Instr.typeAssert,run_underlying hu,Sem.run_bind,Result.andThen_ok]
    cases l<;>first|(exact(j _ rfl).elim)|simp
   ·cases ok with
    |false=>exact q
    |true=>
     refine .tup _ _ rfl fun i B v' h1 g=>?_
     match i,h1,g with
     |0,h1,g=>cases h1;cases g;exact q
     |1,h1,g=>cases h1;cases g;exact .d (.bool _)
 cases l<;>cases x<;>first
  |(simp only [hu]at f;exact fE b f)
  |(simp only [hu]at f;exact key _ _ rfl f (fun _ h=>by cases h))
theorem BP{e:TypeId}{c v':Value}{w w':World}(h:(Instr.loadAt e c).run P w= .ok v' w'):∃a,c= .pointer (some a)∧(loadVar e a).run P w= .ok v' w':=by
 cases c with
 |pointer a=>
  cases a with
  |none=>simp [Instr.loadAt,Instr.sureAddr,stuck]at h
  |some a=>exact⟨a,rfl,by simpa [Instr.loadAt,Instr.sureAddr]using h⟩
 |_=>simp [Instr.loadAt,Instr.sureAddr,stuck]at h
theorem BR{t:TypeId}{name:String}{f:FuncId}{e:Option TypeId}(h:yw P t name=some (f,e)){v v':Value}{w:World}(c:match e with|none=>v'=v|some e=>(Instr.loadAt e v).run P w= .ok v' w)(k:Nat):
  (method (k+1) t v name).run P w= .ok (f,v') w:=by
 unfold yw at h
 split at h
 rotate_left
 ·cases h
 rename_i i hi
 split at h
 rotate_left
 ·cases h
 rename_i m u hm hu
 split at h
 ·rename_i g p hp hf
  cases h
  subst c
  simp [method,typeInfo,hi,hm,hp,hf,follow,receiverAt,run_underlying hu,Place.get]
 ·rename_i g l hp hf
  cases h
  obtain⟨a,rfl,j⟩:=BP c
  have he:m.path= #[]:=Array.ext' hp
  have hw : ∀ n, (Builtin.ssaWrapNilChk_ #[t] t #[.pointer (some a), strVal "", strVal n]).run P w = .ok (.pointer (some a)) w := fun _ => rfl
  simp [method,typeInfo,hi,hm,hp,hf,follow,receiverAt,run_underlying hu,Place.get,he,hw,asAddr,j]
 ·cases h
theorem vj{t:TypeId}{name:String}{f:FuncId}{e:Option TypeId}(h:yw P t name=some (f,e)){v v':Value}{w:World}(a:match e with|none=>v'=v|some e=>(Instr.loadAt e v).run P w= .ok v' w)(args:Array Value):
  (callMethod (.iface t v) name args).run P w=(callFunc f (#[v']++args)).run P w:=by
 obtain ⟨k, hk⟩ : ∃ k, P.types.size + Made.depth = k + 1 := ⟨P.types.size + Made.depth - 1, by
  have:0<Made.depth:=by decide
  omega⟩
 have hm:=BR h a k
 rw [<-hk]at hm
 simp [callMethod,hm]
theorem zJ{mt:Hf}{call:pA}{base:Nat}{x:RV}{name:String}{as:List RV}{b:pP}{z:RV×Ups}{r:List Nat}(a:uF P mt call base x name as b=some (z,r,true)):
  ∃ t c f, x = .ifc t c ∧ ((yw P t name = some (f, none) ∧ rn mt.by_ call f base (c :: as) b = some (z, r, true)) ∨
   ∃e v u g j,yw P t name=some (f,some e)∧si P e c b=some ((v,u),g,true)∧rn mt.by_ call f base (v::as) b=some (z,j,true)):=by
 unfold uF at a
 cases x<;>first|exact fE b a|skip
 rename_i t c
 rcases hm:yw P t name with _|⟨f,_|e⟩
 ·simp only [hm]at a;exact fE b a
 ·simp only [hm]at a
  exact⟨t,c,f,rfl,.inl ⟨hm,a⟩⟩
 ·simp only [hm]at a
  obtain⟨⟨v,u⟩,g,j,h1,k, -⟩:=M.bind_some a
  exact⟨t,c,f,rfl,.inr ⟨e,v,u,g,j,hm,h1,k⟩⟩
end
end Go.Dw
