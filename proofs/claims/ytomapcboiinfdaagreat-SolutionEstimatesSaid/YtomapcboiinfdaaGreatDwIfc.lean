
import Derived.Test.YtomapcboiinfdaaGreatDwMapN

namespace Go.Dw
section
variable {P:Program}{S:mW}{loc:nB}{w:World}
theorem yx{t:TypeId}{x v:RV}{b:nn}{u:Ups}{r:List Nat}{c:Value}(a:ifcD P t x b=some ((v,u),r,true))(f:R S loc x c):
    ∃v',(Instr.makeInterface t c).run P w= .ok v' w∧R S loc v v'∧u=[]:=by
  unfold ifcD at a
  rcases hu:P.underlying t with _|g
  · simp only [hu]at a;exact fE b a
  cases g<;>cases x<;>first
    |(simp only [hu]at a;exact fE b a)
    | (simp only [hu] at a
       obtain⟨e, -, -⟩:=mQ a
       cases e
       exact⟨.iface t c,by simp [Instr.makeInterface,run_underlying hu],.ifc t _ c f,rfl⟩)
theorem wk{t xt:TypeId}{ok:Bool}{x v:RV}{b:nn}{u:Ups}{r:List Nat}{l:Value}(e:qW P x t ok b=some ((v,u),r,true))(o:R S loc x l):
    ∃v',(Instr.typeAssert l xt t ok).run P w= .ok v' w∧R S loc v v'∧u=[]:=by
  unfold qW at e
  rcases hu:P.underlying t with _|k
  · simp only [hu]at e;exact fE b e
  have key:∀t' c,x= .ifc t' c->(if t'=t then nG (if ok then .tup [c,.d (.bool true)]else c)else M.fail) b=some ((v,u),r,true)->(∀ms,k≠ .interface ms)->
      ∃v',(Instr.typeAssert l xt t ok).run P w= .ok v' w∧R S loc v v'∧u=[]:=by
    intro t' c j a g
    clear e
    subst j
    by_cases he:t'=t
    rotate_left
    · rw [if_neg he]at a;exact fE b a
    rw [if_pos he]at a
    subst he
    obtain⟨n, -, -⟩:=mQ a
    cases n
    cases o with
    |ifc _ _ v0 m=>
      refine⟨if ok then .tuple #[v0,.bool true]else v0,?_,?_,rfl⟩
      · simp only [Instr.typeAssert,run_underlying hu,Sem.run_bind,Result.andThen_ok]
        cases k<;>first|(exact(g _ rfl).elim)|simp
      · cases ok with
        |false=>exact m
        |true=>
          refine .tup _ _ rfl fun i p v' h1 f=>?_
          match i,h1,f with
          |0,h1,f=>cases h1;cases f;exact m
          |1,h1,f=>cases h1;cases f;exact .d (.bool _)
  cases k<;>cases x<;>first
    |(simp only [hu]at e;exact fE b e)
    |(simp only [hu]at e;exact key _ _ rfl e (fun _ h=>by cases h))
theorem zr{e:TypeId}{b v':Value}{w w':World}(h:(Instr.loadAt e b).run P w= .ok v' w'):∃a,b= .pointer (some a)∧(loadVar e a).run P w= .ok v' w':=by
  cases b with
  |pointer a=>
    cases a with
    |none=>simp [Instr.loadAt,Instr.sureAddr,stuck]at h
    |some a=>exact⟨a,rfl,by simpa [Instr.loadAt,Instr.sureAddr]using h⟩
  |_=>simp [Instr.loadAt,Instr.sureAddr,stuck]at h
theorem zu{t:TypeId}{name:String}{f:FuncId}{e:Option TypeId}(h:vQ P t name=some (f,e)){v v':Value}{w:World}(c:match e with|none=>v'=v|some e=>(Instr.loadAt e v).run P w= .ok v' w)(k:Nat):
    (method (k+1) t v name).run P w= .ok (f,v') w:=by
  unfold vQ at h
  split at h
  rotate_left
  · cases h
  rename_i i hi
  split at h
  rotate_left
  · cases h
  rename_i m u hm hu
  split at h
  · rename_i g o b hf
    cases h
    subst c
    simp [method,typeInfo,hi,hm,b,hf,follow,receiverAt,run_underlying hu,Place.get]
  · rename_i g l b hf
    cases h
    obtain⟨a,rfl,j⟩:=zr c
    have he:m.path= #[]:=Array.ext' b
    have hw : ∀ n, (Builtin.ssaWrapNilChk_ #[t] t #[.pointer (some a), strVal "", strVal n]).run P w = .ok (.pointer (some a)) w := fun _ => rfl
    simp [method,typeInfo,hi,hm,b,hf,follow,receiverAt,run_underlying hu,Place.get,he,hw,asAddr,j]
  · cases h
theorem rQ{t:TypeId}{name:String}{f:FuncId}{e:Option TypeId}(h:vQ P t name=some (f,e)){v v':Value}{w:World}(a:match e with|none=>v'=v|some e=>(Instr.loadAt e v).run P w= .ok v' w)(args:Array Value):
    (callMethod (.iface t v) name args).run P w=(callFunc f (#[v']++args)).run P w:=by
  obtain ⟨k, hk⟩ : ∃ k, P.types.size + Made.depth = k + 1 := ⟨P.types.size + Made.depth - 1, by
    have:0<Made.depth:=by decide
    omega⟩
  have hm:=zu h a k
  rw [<-hk]at hm
  simp [callMethod,hm]
theorem w4{mt:Hf}{call:ng}{base:Nat}{x:RV}{name:String}{as:List RV}{b:nn}{z:RV×Ups}{r:List Nat}(a:rm P mt call base x name as b=some (z,r,true)):
    ∃ t c f, x = .ifc t c ∧ ((vQ P t name = some (f, none) ∧ pj mt.by_ call f base (c :: as) b = some (z, r, true)) ∨
      ∃e v u g i,vQ P t name=some (f,some e)∧pN P e c b=some ((v,u),g,true)∧pj mt.by_ call f base (v::as) b=some (z,i,true)):=by
  unfold rm at a
  cases x<;>first|exact fE b a|skip
  rename_i t c
  rcases hm:vQ P t name with _|⟨f,_|e⟩
  · simp only [hm]at a;exact fE b a
  · simp only [hm]at a
    exact⟨t,c,f,rfl,.inl ⟨hm,a⟩⟩
  · simp only [hm]at a
    obtain⟨⟨v,u⟩,g,i,h1,j, -⟩:=M.bind_some a
    exact⟨t,c,f,rfl,.inr ⟨e,v,u,g,i,hm,h1,j⟩⟩
end
end Go.Dw
