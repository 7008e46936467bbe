
import Derived.Test.YthadlbjoiidkjaaGreatDoorDwCall2

namespace Go.Dw
section
variable {P:Program}{X:Ctx}{S:pR}{loc:qe}{s:St}{tm:Array Value}{w:World}
def AI(S:pR)(es:List (PD×PD))(ents:List MapEntry)(i:Nat)(r:Option (Nat×PD×PD))(r':Option (Nat×Value)):Prop:=
 r=none∧r'=none∨∃j x y en,r=some (i+j,x,y)∧r'=some (i+j,en.val)∧es[j]? =some (x,y)∧ents[j]? =some en∧V S x en.key
theorem AI.cons{es:List (PD×PD)}{ents:List MapEntry}{i:Nat}{r:Option (Nat×PD×PD)}{r':Option (Nat×Value)}(h:AI S es ents (i+1) r r')(e:PD×PD)(en:MapEntry):AI S (e::es) (en::ents) i r r':=by
 rcases h with h|⟨j,x,y,v,e1,e2,e3,e4,e5⟩
 ·exact .inl h
 ·exact .inr ⟨j+1,x,y,v,by rw [e1];congr 2;omega,by rw [e2];congr 2;omega,by simpa using e3,by simpa using e4,e5⟩
theorem Sim.newRow(h:Sim P X S loc s tm w){new sz:Nat}{e2:TypeId}{row:List PD}{v:Value}{ys:List Value}(hnew:s.boxes new=none)(hsz:szT P e2=some sz)(how:rowAt w e2 sz v row.length ys)(hf:Flat S sz row ys)
  (hfree:∀b,rk v=some b->(∀i L,loc i=some L->¬L.has b)∧(∀o,S ⟨b,o,none⟩=none)∧(b∈X.B0∨X.w0.heap.size<=b)):
  ∃loc',Sim P X S loc' { s with boxes:=upd s.boxes new (.arr 0 e2 row) } tm w∧R S loc' (.ref new 0) v∧qa loc loc':=by
 have hvac:loc new=none:=h.qf hnew
 have hst:qp (loc new) (.arr 0 e2 sz v):=by rw [hvac];trivial
 have ho:v.oneCell'=true:=by obtain⟨a,c,rfl,_⟩:=how.hdr;rfl
 refine⟨upd loc new (.arr 0 e2 sz v),h.sf (Step.refl none w) new _ _ (fun b hc=>by cases hc) (.arr 0 e2 row sz v ys hsz how hf) (fun b hb=>?_) hst,?_,qa.upd hst⟩
 ·exact .inr (.inr (hfree b hb))
 ·exact .ref new 0 v _ ho (pW _ _ _) fun ver' e' sz' hdr' he=>by cases he;exact⟨Nat.le_refl _,fun _=>rfl⟩
end
end Go.Dw
