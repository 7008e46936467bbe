
import Derived.Test.YtgiepghgloiinaaGreatDoorDwNest

namespace Go.Dw
def lG{α:Type}(l:List α)(i:Nat)(f:α->α):List α:=match l[i]? with|some x=>l.set i (f x)|none=>l
theorem wi{α:Type}{g:α->PD}{f:α->α}{l:List α}{i o:Nat}{p:PD}(hf:∀x,(g x).put o [p]=g (f x)):(l.map g).set i (((l.map g).getD i default).put o [p])=(lG l i f).map g:=by
 unfold lG
 by_cases hi:i<l.length
 ·rw [zc hi]
  have:(l.map g).getD i default=g l[i]:=by simp [List.getD,hi]
  rw [this,hf,List.map_set]
 ·rw [List.getElem?_eq_none om]
  exact List.set_eq_of_length_le (by simpa using hi)
section
variable {P:Program}{nb:Nat}{R:List (Nat×RV)}{B:List (Nat×Box)}{s':St}{gs:List oV}{α β:Type}{g:α->PD}{g2:β->PD}{l:List α}{es:List β}{id k ver kv i o:Nat}{e e2:TypeId}
end
section
variable {P:Program}{H:Hints}{ext:FuncId->Option ko}{mt:Hf}{ops:Array Oper}{l:List Oper}{R:List (Nat×RV)}{B:List (Nat×Box)}{K:List (Nat×RV)->List (Nat×Box)->List Tr->Prop}{o:Oper}{d:Nat}
end
end Go.Dw
