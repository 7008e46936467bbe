
import Derived.Test.YtfmoipelhfkdkaaGreatDoorDwCall2

namespace Go.Dw
section
variable {P:Program}{X:Ctx}{S:rP}{loc:ss}{s:St}{tm:Array Value}{w:World}
def Ct(S:rP)(es:List (PD×PD))(f:List MapEntry)(i:Nat)(r:Option (Nat×PD×PD))(k:Option (Nat×Value)):Prop:=
 r=none∧k=none∨∃j x y g,r=some (i+j,x,y)∧k=some (i+j,g.val)∧es[j]? =some (x,y)∧f[j]? =some g∧V S x g.key
theorem Ct.cons{es:List (PD×PD)}{f:List MapEntry}{i:Nat}{r:Option (Nat×PD×PD)}{g:Option (Nat×Value)}(h:Ct S es f (i+1) r g)(e:PD×PD)(D:MapEntry):Ct S (e::es) (D::f) i r g:=by
 rcases h with h|⟨j,x,y,v,k,e2,q,u,C⟩
 ·exact .inl h
 ·exact .inr ⟨j+1,x,y,v,by rw [k];congr 2;omega,by rw [e2];congr 2;omega,by simpa using q,by simpa using u,C⟩
theorem Sim.newRow(h:Sim P X S loc s tm w){new sz:Nat}{e2:TypeId}{row:List PD}{v:Value}{r:List Value}(g:s.boxes new=none)(q:szT P e2=some sz)(how:rowAt w e2 sz v row.length r)(hf:Flat S sz row r)
  (f:∀b,tp v=some b->(∀i L,loc i=some L->¬L.has b)∧(∀o,S ⟨b,o,none⟩=none)∧(b∈X.B0∨X.w0.heap.size<=b)):
  ∃loc',Sim P X S loc' { s with boxes:=upd s.boxes new (.arr 0 e2 row) } tm w∧R S loc' (.ref new 0) v∧rT loc loc':=by
 have k:loc new=none:=h.si g
 have j:sb (loc new) (.arr 0 e2 sz v):=by rw [k];trivial
 have ho:v.oneCell'=true:=by obtain⟨a,c,rfl,_⟩:=how.hdr;rfl
 refine⟨upd loc new (.arr 0 e2 sz v),h.sW (Step.refl none w) new _ _ (fun b hc=>by cases hc) (.arr 0 e2 row sz v r q how hf) (fun b D=>?_) j,?_,rT.upd j⟩
 ·exact .inr (.inr (f b D))
 ·exact .ref new 0 v _ ho (rK _ _ _) fun C F E u he=>by cases he;exact⟨Nat.le_refl _,fun _=>rfl⟩
end
end Go.Dw
namespace Go.Dw
section
variable {P:Program}{S:rP}{loc:ss}{w:World}
theorem CN{t:TypeId}{x v:RV}{b:sj}{u:Ups}{r:List Nat}{f:Value}(hl:ifcD P t x b=some ((v,u),r,true))(j:R S loc x f):
  ∃v',(Instr.makeInterface t f).run P w= .ok v' w∧R S loc v v'∧u=[]:=by
 unfold ifcD at hl
 rcases hu:P.underlying t with _|k
 ·simp only [hu]at hl;exact fE b hl
 cases k<;>cases x<;>first
  |(simp only [hu]at hl;exact fE b hl)
  |(simp only [hu]at hl;obtain⟨g, -, -⟩:=rH hl;cases g;exact⟨.iface t f,by simp [Instr.makeInterface,run_underlying hu],.ifc t _ f j,rfl⟩)
theorem AV{t xt:TypeId}{ok:Bool}{x v:RV}{b:sj}{u:Ups}{r:List Nat}{C:Value}(hl:wz P x t ok b=some ((v,u),r,true))(F:R S loc x C):
  ∃v',(Instr.typeAssert C xt t ok).run P w= .ok v' w∧R S loc v v'∧u=[]:=by
 unfold wz at hl
 rcases hu:P.underlying t with _|q
 ·simp only [hu]at hl;exact fE b hl
 have key:∀t' c,x= .ifc t' c->(if t'=t then sQ (if ok then .tup [c,.d (.bool true)]else c)else M.fail) b=some ((v,u),r,true)->(∀ms,q≠ .interface ms)->
   ∃v',(Instr.typeAssert C xt t ok).run P w= .ok v' w∧R S loc v v'∧u=[]:=by
  intro t' c k f j
  clear hl
  subst k
  by_cases he:t'=t
  rotate_left
  ·rw [if_neg he]at f;exact fE b f
  rw [if_pos he]at f
  subst he
  obtain⟨E, -, -⟩:=rH f
  cases E
  cases F with
  |ifc _ _ v0 D=>
   refine⟨if ok then .tuple #[v0,.bool true]else v0,?_,?_,rfl⟩
   ·simp only [Instr.typeAssert,run_underlying hu,Sem.run_bind,Result.andThen_ok]
    cases q<;>first|(exact(j _ rfl).elim)|simp
   ·cases ok with
    |false=>exact D
    |true=>
     refine .tup _ _ rfl fun i G v' h1 g=>?_
     match i,h1,g with
     |0,h1,g=>cases h1;cases g;exact D
     |1,h1,g=>cases h1;cases g;exact .d (.bool _)
 cases q<;>cases x<;>first
  |(simp only [hu]at hl;exact fE b hl)
  |(simp only [hu]at hl;exact key _ _ rfl hl (fun _ h=>by cases h))
theorem Dy{e:TypeId}{f v':Value}{w w':World}(h:(Instr.loadAt e f).run P w= .ok v' w'):∃a,f= .pointer (some a)∧(loadVar e a).run P w= .ok v' w':=by
 cases f with
 |pointer a=>
  cases a with
  |none=>simp [Instr.loadAt,Instr.sureAddr,stuck]at h
  |some a=>exact⟨a,rfl,by simpa [Instr.loadAt,Instr.sureAddr]using h⟩
 |_=>simp [Instr.loadAt,Instr.sureAddr,stuck]at h
theorem DA{t:TypeId}{name:String}{f:FuncId}{e:Option TypeId}(h:AE P t name=some (f,e)){v v':Value}{w:World}(g:match e with|none=>v'=v|some e=>(Instr.loadAt e v).run P w= .ok v' w)(k:Nat):
  (method (k+1) t v name).run P w= .ok (f,v') w:=by
 unfold AE at h
 split at h
 rotate_left
 ·cases h
 rename_i i hi
 split at h
 rotate_left
 ·cases h
 rename_i m u hm hu
 split at h
 ·rename_i j C hp hf
  cases h
  subst g
  simp [method,typeInfo,hi,hm,hp,hf,follow,receiverAt,run_underlying hu,Place.get]
 ·rename_i j r hp hf
  cases h
  obtain⟨a,rfl,q⟩:=Dy g
  have he:m.path= #[]:=Array.ext' hp
  have hw : ∀ n, (Builtin.ssaWrapNilChk_ #[t] t #[.pointer (some a), strVal "", strVal n]).run P w = .ok (.pointer (some a)) w := fun _ => rfl
  simp [method,typeInfo,hi,hm,hp,hf,follow,receiverAt,run_underlying hu,Place.get,he,hw,asAddr,q]
 ·cases h
theorem xd{t:TypeId}{name:String}{f:FuncId}{e:Option TypeId}(h:AE P t name=some (f,e)){v v':Value}{w:World}(g:match e with|none=>v'=v|some e=>(Instr.loadAt e v).run P w= .ok v' w)(args:Array Value):
  (callMethod (.iface t v) name args).run P w=(callFunc f (#[v']++args)).run P w:=by
 obtain ⟨k, hk⟩ : ∃ k, P.types.size + Made.depth = k + 1 := ⟨P.types.size + Made.depth - 1, by
  have:0<Made.depth:=by decide
  omega⟩
 have hm:=DA h g k
 rw [<-hk]at hm
 simp [callMethod,hm]
theorem Bw{mt:Hf}{call:rO}{base:Nat}{x:RV}{name:String}{as:List RV}{b:sj}{z:RV×Ups}{r:List Nat}(hl:wK P mt call base x name as b=some (z,r,true)):
  ∃ t c f, x = .ifc t c ∧ ((AE P t name = some (f, none) ∧ uc mt.by_ call f base (c :: as) b = some (z, r, true)) ∨
   ∃e v u g j,AE P t name=some (f,some e)∧uw P e c b=some ((v,u),g,true)∧uc mt.by_ call f base (v::as) b=some (z,j,true)):=by
 unfold wK at hl
 cases x<;>first|exact fE b hl|skip
 rename_i t c
 rcases hm:AE P t name with _|⟨f,_|e⟩
 ·simp only [hm]at hl;exact fE b hl
 ·simp only [hm]at hl
  exact⟨t,c,f,rfl,.inl ⟨hm,hl⟩⟩
 ·simp only [hm]at hl
  obtain⟨⟨v,u⟩,g,j,h1,k, -⟩:=M.bind_some hl
  exact⟨t,c,f,rfl,.inr ⟨e,v,u,g,j,hm,h1,k⟩⟩
end
end Go.Dw
