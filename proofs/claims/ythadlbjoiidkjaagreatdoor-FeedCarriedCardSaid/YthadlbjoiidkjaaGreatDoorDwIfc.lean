
import Derived.Test.YthadlbjoiidkjaaGreatDoorDwMapN

namespace Go.Dw
section
variable {P:Program}{S:pR}{loc:qe}{w:World}
theorem A1{t:TypeId}{x v:RV}{b:p8}{u:Ups}{r:List Nat}{vx:Value}(hl:ifcD P t x b=some ((v,u),r,true))(hx:R S loc x vx):
    ∃v',(Instr.makeInterface t vx).run P w= .ok v' w∧R S loc v v'∧u=[]:=by
  unfold ifcD at hl
  rcases hu:P.underlying t with _|td
  · simp only [hu]at hl;exact fE b hl
  cases td<;>cases x<;>first
    |(simp only [hu]at hl;exact fE b hl)
    | (simp only [hu] at hl
       obtain⟨h3, -, -⟩:=pQ hl
       cases h3
       exact⟨.iface t vx,by simp [Instr.makeInterface,run_underlying hu],.ifc t _ vx hx,rfl⟩)
theorem yJ{t xt:TypeId}{ok:Bool}{x v:RV}{b:p8}{u:Ups}{r:List Nat}{vx:Value}(hl:ur P x t ok b=some ((v,u),r,true))(hx:R S loc x vx):
    ∃v',(Instr.typeAssert vx xt t ok).run P w= .ok v' w∧R S loc v v'∧u=[]:=by
  unfold ur at hl
  rcases hu:P.underlying t with _|td
  · simp only [hu]at hl;exact fE b hl
  have key:∀t' c,x= .ifc t' c->(if t'=t then qu (if ok then .tup [c,.d (.bool true)]else c)else M.fail) b=some ((v,u),r,true)->(∀ms,td≠ .interface ms)->
      ∃v',(Instr.typeAssert vx xt t ok).run P w= .ok v' w∧R S loc v v'∧u=[]:=by
    intro t' c hxe hl2 hni
    clear hl
    subst hxe
    by_cases he:t'=t
    rotate_left
    · rw [if_neg he]at hl2;exact fE b hl2
    rw [if_pos he]at hl2
    subst he
    obtain⟨h3, -, -⟩:=pQ hl2
    cases h3
    cases hx with
    |ifc _ _ v0 h0=>
      refine⟨if ok then .tuple #[v0,.bool true]else v0,?_,?_,rfl⟩
      · simp only [Instr.typeAssert,run_underlying hu,Sem.run_bind,Result.andThen_ok]
        cases td<;>first|(exact(hni _ rfl).elim)|simp
      · cases ok with
        |false=>exact h0
        |true=>
          refine .tup _ _ rfl fun i c' v' h1 h2=>?_
          match i,h1,h2 with
          |0,h1,h2=>cases h1;cases h2;exact h0
          |1,h1,h2=>cases h1;cases h2;exact .d (.bool _)
  cases td<;>cases x<;>first
    |(simp only [hu]at hl;exact fE b hl)
    |(simp only [hu]at hl;exact key _ _ rfl hl (fun _ h=>by cases h))
theorem BF{e:TypeId}{vc v':Value}{w w':World}(h:(Instr.loadAt e vc).run P w= .ok v' w'):∃a,vc= .pointer (some a)∧(loadVar e a).run P w= .ok v' w':=by
  cases vc with
  |pointer a=>
    cases a with
    |none=>simp [Instr.loadAt,Instr.sureAddr,stuck]at h
    |some a=>exact⟨a,rfl,by simpa [Instr.loadAt,Instr.sureAddr]using h⟩
  |_=>simp [Instr.loadAt,Instr.sureAddr,stuck]at h
theorem BI{t:TypeId}{name:String}{f:FuncId}{e:Option TypeId}(h:yp P t name=some (f,e)){v v':Value}{w:World}(hv:match e with|none=>v'=v|some e=>(Instr.loadAt e v).run P w= .ok v' w)(k:Nat):
    (method (k+1) t v name).run P w= .ok (f,v') w:=by
  unfold yp at h
  split at h
  rotate_left
  · cases h
  rename_i i hi
  split at h
  rotate_left
  · cases h
  rename_i m u hm hu
  split at h
  · rename_i f' tt hp hf
    cases h
    subst hv
    simp [method,typeInfo,hi,hm,hp,hf,follow,receiverAt,run_underlying hu,Place.get]
  · rename_i f' e' hp hf
    cases h
    obtain⟨a,rfl,ha⟩:=BF hv
    have he:m.path= #[]:=Array.ext' hp
    have hw : ∀ n, (Builtin.ssaWrapNilChk_ #[t] t #[.pointer (some a), strVal "", strVal n]).run P w = .ok (.pointer (some a)) w := fun _ => rfl
    simp [method,typeInfo,hi,hm,hp,hf,follow,receiverAt,run_underlying hu,Place.get,he,hw,asAddr,ha]
  · cases h
theorem uZ{t:TypeId}{name:String}{f:FuncId}{e:Option TypeId}(h:yp P t name=some (f,e)){v v':Value}{w:World}(hv:match e with|none=>v'=v|some e=>(Instr.loadAt e v).run P w= .ok v' w)(args:Array Value):
    (callMethod (.iface t v) name args).run P w=(callFunc f (#[v']++args)).run P w:=by
  obtain ⟨k, hk⟩ : ∃ k, P.types.size + Made.depth = k + 1 := ⟨P.types.size + Made.depth - 1, by
    have:0<Made.depth:=by decide
    omega⟩
  have hm:=BI h hv k
  rw [<-hk]at hm
  simp [callMethod,hm]
theorem zw{mt:Hf}{call:pT}{base:Nat}{x:RV}{name:String}{as:List RV}{b:p8}{z:RV×Ups}{r:List Nat}(hl:uD P mt call base x name as b=some (z,r,true)):
    ∃ t c f, x = .ifc t c ∧ ((yp P t name = some (f, none) ∧ sk mt.by_ call f base (c :: as) b = some (z, r, true)) ∨
      ∃e v u r1 r2,yp P t name=some (f,some e)∧tp P e c b=some ((v,u),r1,true)∧sk mt.by_ call f base (v::as) b=some (z,r2,true)):=by
  unfold uD at hl
  cases x<;>first|exact fE b hl|skip
  rename_i t c
  rcases hm:yp P t name with _|⟨f,_|e⟩
  · simp only [hm]at hl;exact fE b hl
  · simp only [hm]at hl
    exact⟨t,c,f,rfl,.inl ⟨hm,hl⟩⟩
  · simp only [hm]at hl
    obtain⟨⟨v,u⟩,r1,r2,h1,h2, -⟩:=M.bind_some hl
    exact⟨t,c,f,rfl,.inr ⟨e,v,u,r1,r2,hm,h1,h2⟩⟩
end
end Go.Dw
