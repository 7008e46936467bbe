
import Derived.Test.YtgdhcacjeppglaaGreatDwMapN

namespace Go.Dw
section
variable {P:Program}{S:cp}{loc:cJ}{w:World}
theorem nv{t:TypeId}{x v:RV}{b:cI}{u:Ups}{r:List Nat}{a:Value}(hl:ifcD P t x b=some ((v,u),r,true))(e:R S loc x a):
  ∃v',(Instr.makeInterface t a).run P w= .ok v' w∧R S loc v v'∧u=[]:=by
 unfold ifcD at hl
 rcases hu:P.underlying t with _|f
 ·simp only [hu]at hl;exact fE b hl
 cases f<;>cases x<;>first
  |(simp only [hu]at hl;exact fE b hl)
  |(simp only [hu]at hl;obtain⟨c, -, -⟩:=ch hl;cases c;exact⟨.iface t a,by simp [Instr.makeInterface,run_underlying hu],.ifc t _ a e,rfl⟩)
theorem kM{t xt:TypeId}{ok:Bool}{x v:RV}{b:cI}{u:Ups}{r:List Nat}{k:Value}(hl:ga P x t ok b=some ((v,u),r,true))(n:R S loc x k):
  ∃v',(Instr.typeAssert k xt t ok).run P w= .ok v' w∧R S loc v v'∧u=[]:=by
 unfold ga at hl
 rcases hu:P.underlying t with _|j
 ·simp only [hu]at hl;exact fE b hl
 have key:∀t' c,x= .ifc t' c->(if t'=t then cQ (if ok then .tup [c,.d (.bool true)]else c)else M.fail) b=some ((v,u),r,true)->(∀ms,j≠ .interface ms)->
   ∃v',(Instr.typeAssert k xt t ok).run P w= .ok v' w∧R S loc v v'∧u=[]:=by
  intro t' c g a f
  clear hl
  subst g
  by_cases he:t'=t
  rotate_left
  ·rw [if_neg he]at a;exact fE b a
  rw [if_pos he]at a
  subst he
  obtain⟨m, -, -⟩:=ch a
  cases m
  cases n with
  |ifc _ _ v0 l=>
   refine⟨if ok then .tuple #[v0,.bool true]else v0,?_,?_,rfl⟩
   ·simp only [Instr.typeAssert,run_underlying hu,Sem.run_bind,Result.andThen_ok]
    cases j<;>first|(exact(f _ rfl).elim)|simp
   ·cases ok with
    |false=>exact l
    |true=>
     refine .tup _ _ rfl fun i o v' h1 e=>?_
     match i,h1,e with
     |0,h1,e=>cases h1;cases e;exact l
     |1,h1,e=>cases h1;cases e;exact .d (.bool _)
 cases j<;>cases x<;>first
  |(simp only [hu]at hl;exact fE b hl)
  |(simp only [hu]at hl;exact key _ _ rfl hl (fun _ h=>by cases h))
theorem oj{e:TypeId}{b v':Value}{w w':World}(h:(Instr.loadAt e b).run P w= .ok v' w'):∃a,b= .pointer (some a)∧(loadVar e a).run P w= .ok v' w':=by
 cases b with
 |pointer a=>
  cases a with
  |none=>simp [Instr.loadAt,Instr.sureAddr,stuck]at h
  |some a=>exact⟨a,rfl,by simpa [Instr.loadAt,Instr.sureAddr]using h⟩
 |_=>simp [Instr.loadAt,Instr.sureAddr,stuck]at h
theorem oq{t:TypeId}{name:String}{f:FuncId}{e:Option TypeId}(h:ku P t name=some (f,e)){v v':Value}{w:World}(g:match e with|none=>v'=v|some e=>(Instr.loadAt e v).run P w= .ok v' w)(k:Nat):
  (method (k+1) t v name).run P w= .ok (f,v') w:=by
 unfold ku at h
 split at h
 rotate_left
 ·cases h
 rename_i i c
 split at h
 rotate_left
 ·cases h
 rename_i m u hm hu
 split at h
 ·rename_i j p b hf
  cases h
  subst g
  simp [method,typeInfo,c,hm,b,hf,follow,receiverAt,run_underlying hu,Place.get]
 ·rename_i j o b hf
  cases h
  obtain⟨a,rfl,l⟩:=oj g
  have he:m.path= #[]:=Array.ext' b
  have hw : ∀ n, (Builtin.ssaWrapNilChk_ #[t] t #[.pointer (some a), strVal "", strVal n]).run P w = .ok (.pointer (some a)) w := fun _ => rfl
  simp [method,typeInfo,c,hm,b,hf,follow,receiverAt,run_underlying hu,Place.get,he,hw,asAddr,l]
 ·cases h
theorem gL{t:TypeId}{name:String}{f:FuncId}{e:Option TypeId}(h:ku P t name=some (f,e)){v v':Value}{w:World}(a:match e with|none=>v'=v|some e=>(Instr.loadAt e v).run P w= .ok v' w)(args:Array Value):
  (callMethod (.iface t v) name args).run P w=(callFunc f (#[v']++args)).run P w:=by
 obtain ⟨k, hk⟩ : ∃ k, P.types.size + Made.depth = k + 1 := ⟨P.types.size + Made.depth - 1, by
  have:0<Made.depth:=by decide
  omega⟩
 have hm:=oq h a k
 rw [<-hk]at hm
 simp [callMethod,hm]
theorem lO{mt:Hf}{call:cB}{base:Nat}{x:RV}{name:String}{as:List RV}{b:cI}{z:RV×Ups}{r:List Nat}(hl:gi P mt call base x name as b=some (z,r,true)):
  ∃ t c f, x = .ifc t c ∧ ((ku P t name = some (f, none) ∧ dN mt.by_ call f base (c :: as) b = some (z, r, true)) ∨
   ∃e v u a g,ku P t name=some (f,some e)∧e7 P e c b=some ((v,u),a,true)∧dN mt.by_ call f base (v::as) b=some (z,g,true)):=by
 unfold gi at hl
 cases x<;>first|exact fE b hl|skip
 rename_i t c
 rcases hm:ku P t name with _|⟨f,_|e⟩
 ·simp only [hm]at hl;exact fE b hl
 ·simp only [hm]at hl
  exact⟨t,c,f,rfl,.inl ⟨hm,hl⟩⟩
 ·simp only [hm]at hl
  obtain⟨⟨v,u⟩,a,g,h1,i, -⟩:=M.bind_some hl
  exact⟨t,c,f,rfl,.inr ⟨e,v,u,a,g,hm,h1,i⟩⟩
end
end Go.Dw
