
import Derived.Test.YthkfkgoddhehcaaGreatDwLift4

namespace Go.Dw
def vp(l:List Int):Option (List Int):=if l.length<4611686018427387904 then some (l.mergeSort λx y=>decide (x<=y))else none
theorem BW{l:List Int}(h:l.length<=1000000):∃r,vp l=some r∧r.Perm l∧r.Pairwise (· <= ·):=by
 refine⟨_,by unfold vp;rw [if_pos za],List.mergeSort_perm _ _,?_⟩
 refine(List.pairwise_mergeSort ?_ ?_ l).imp λh=>by simpa using h
 ·intro a b c h1 f
  simp only [decide_eq_true_eq]at*
  omega
 ·intro a b
  simp only [Bool.or_eq_true,decide_eq_true_eq]
  omega
end Go.Dw
