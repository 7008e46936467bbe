
import Derived.Test.YtomapcboiinfdaaGreatDwCall2

namespace Go.Dw
section
variable {P:Program}{X:Ctx}{S:mW}{loc:nB}{s:St}{tm:Array Value}{w:World}
def yd(S:mW)(es:List (PD×PD))(a:List MapEntry)(i:Nat)(r:Option (Nat×PD×PD))(c:Option (Nat×Value)):Prop:=
 r=none∧c=none∨∃j x y b,r=some (i+j,x,y)∧c=some (i+j,b.val)∧es[j]? =some (x,y)∧a[j]? =some b∧V S x b.key
theorem yd.cons{es:List (PD×PD)}{a:List MapEntry}{i:Nat}{r:Option (Nat×PD×PD)}{b:Option (Nat×Value)}(h:yd S es a (i+1) r b)(e:PD×PD)(l:MapEntry):yd S (e::es) (l::a) i r b:=by
 rcases h with h|⟨j,x,y,v,c,e2,f,g,k⟩
 ·exact .inl h
 ·exact .inr ⟨j+1,x,y,v,by rw [c];congr 2;omega,by rw [e2];congr 2;omega,by simpa using f,by simpa using g,k⟩
theorem xW(w:World){b:Nat}{o:Obj}(h:w.heap[b]? =some o):{ w with heap:=w.heap.setIfInBounds b o }=w:=by
 have:w.heap.setIfInBounds b o=w.heap:=by
  apply Array.ext_getElem?
  intro i
  rw [Array.getElem?_setIfInBounds]
  by_cases hi:b=i
  ·subst hi
   rw [if_pos rfl,if_pos (Array.getElem?_eq_some_iff.1 h).1,h]
  ·rw [if_neg hi]
 rw [this]
theorem Sim.newRow(h:Sim P X S loc s tm w){new sz:Nat}{e2:TypeId}{row:List PD}{v:Value}{l:List Value}(f:s.boxes new=none)(k:szT P e2=some sz)(how:rowAt w e2 sz v row.length l)(hf:Flat S sz row l)
  (e:∀b,nT v=some b->(∀i L,loc i=some L->¬L.has b)∧(∀o,S ⟨b,o,none⟩=none)∧(b∈X.B0∨X.w0.heap.size<=b)):
  ∃loc',Sim P X S loc' { s with boxes:=upd s.boxes new (.arr 0 e2 row) } tm w∧R S loc' (.ref new 0) v∧mZ loc loc':=by
 have j:loc new=none:=h.nu f
 have g:ni (loc new) (.arr 0 e2 sz v):=by rw [j];trivial
 have r:v.oneCell'=true:=by obtain⟨a,c,rfl,_⟩:=how.hdr;rfl
 refine⟨upd loc new (.arr 0 e2 sz v),h.nH (Step.refl none w) new _ _ (fun b q=>by cases q) (.arr 0 e2 row sz v l k how hf) (fun b p=>?_) g,?_,mZ.upd g⟩
 ·exact .inr (.inr (e b p))
 ·exact .ref new 0 v _ r (mU _ _ _) fun n u t m he=>by cases he;exact⟨Nat.le_refl _,fun _=>rfl⟩
end
end Go.Dw
