
import Derived.Test.YtikangmionpjfaaGreatDwCall2

namespace Go.Dw
section
variable {P:Program}{X:Ctx}{S:pr}{loc:pY}{s:St}{tm:Array Value}{w:World}
def AQ(S:pr)(es:List (PD×PD))(a:List MapEntry)(i:Nat)(r:Option (Nat×PD×PD))(f:Option (Nat×Value)):Prop:=
 r=none∧f=none∨∃j x y c,r=some (i+j,x,y)∧f=some (i+j,c.val)∧es[j]? =some (x,y)∧a[j]? =some c∧V S x c.key
theorem AQ.cons{es:List (PD×PD)}{a:List MapEntry}{i:Nat}{r:Option (Nat×PD×PD)}{c:Option (Nat×Value)}(h:AQ S es a (i+1) r c)(e:PD×PD)(p:MapEntry):AQ S (e::es) (p::a) i r c:=by
 rcases h with h|⟨j,x,y,v,f,e2,g,k,l⟩
 ·exact .inl h
 ·exact .inr ⟨j+1,x,y,v,by rw [f];congr 2;omega,by rw [e2];congr 2;omega,by simpa using g,by simpa using k,l⟩
theorem AI(w:World){b:Nat}{o:Obj}(h:w.heap[b]? =some o):{ w with heap:=w.heap.setIfInBounds b o }=w:=by
 have:w.heap.setIfInBounds b o=w.heap:=by
  apply Array.ext_getElem?
  intro i
  rw [Array.getElem?_setIfInBounds]
  by_cases hi:b=i
  ·subst hi
   rw [if_pos rfl,if_pos (Array.getElem?_eq_some_iff.1 h).1,h]
  ·rw [if_neg hi]
 rw [this]
theorem Sim.newRow(h:Sim P X S loc s tm w){new sz:Nat}{e2:TypeId}{row:List PD}{v:Value}{ys:List Value}(g:s.boxes new=none)(l:szT P e2=some sz)(how:rowAt w e2 sz v row.length ys)(hf:Flat S sz row ys)
  (f:∀b,pB v=some b->(∀i L,loc i=some L->¬L.has b)∧(∀o,S ⟨b,o,none⟩=none)∧(b∈X.B0∨X.w0.heap.size<=b)):
  ∃loc',Sim P X S loc' { s with boxes:=upd s.boxes new (.arr 0 e2 row) } tm w∧R S loc' (.ref new 0) v∧pD loc loc':=by
 have k:loc new=none:=h.pS g
 have j:pN (loc new) (.arr 0 e2 sz v):=by rw [k];trivial
 have ho:v.oneCell'=true:=by obtain⟨a,c,rfl,_⟩:=how.hdr;rfl
 refine⟨upd loc new (.arr 0 e2 sz v),h.qh (Step.refl none w) new _ _ (fun b hc=>by cases hc) (.arr 0 e2 row sz v ys l how hf) (fun b r=>?_) j,?_,pD.upd j⟩
 ·exact .inr (.inr (f b r))
 ·exact .ref new 0 v _ ho (pz _ _ _) fun q u t p he=>by cases he;exact⟨Nat.le_refl _,fun _=>rfl⟩
end
end Go.Dw
