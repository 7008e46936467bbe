
import Derived.Test.YthadlbjoiidkjaaGreatDoorDwOk
import Derived.Test.YthadlbjoiidkjaaGreatDoorDwAtoi
import Derived.Test.YthadlbjoiidkjaaGreatDoorDwItoa
import Derived.Test.YthadlbjoiidkjaaGreatDoorDwSplit
import Derived.Lib.AtoiAllCases

namespace Go.Dw
open Go.Lib
theorem qg{c:UInt8}:∀{w:List UInt8},c∉w->jL c w=[w]
 | [],_=>rfl
 |x::r,h=>by
  rw [jL,if_neg (fun e=>h (by simp [e])),qg (fun e=>h (List.mem_cons_of_mem _ e))]
theorem qf{c:UInt8}:∀{w:List UInt8}(r:List UInt8),c∉w->jL c (w++c::r)=w::jL c r
 | [],r,_=>by simp [jL]
 |x::w,r,h=>by
  show jL c (x::(w++c::r))=_
  rw [jL,if_neg (fun e=>h (by simp [e])),qf r (fun e=>h (List.mem_cons_of_mem _ e))]
theorem join_one(w s:List UInt8):Lib.join [w] s=w:=by simp [Lib.join,List.intercalate,List.intersperse]
theorem join_cons(w v s:List UInt8)(l:List (List UInt8)):Lib.join (w::v::l) s=w++s++Lib.join (v::l) s:=by simp [Lib.join,List.intercalate,List.intersperse]
theorem qh{c:UInt8}:∀{l:List (List UInt8)},l≠ []->(∀w∈l,c∉w)->jL c (Lib.join l [c])=l
 | [],h,_=>(h rfl).elim
 | [w],_,h=>by rw [join_one];exact qg (h w sm)
 |w::v::l,_,h=>by
  rw [join_cons,List.append_assoc]
  show jL c (w++c::Lib.join (v::l) [c])=_
  rw [qf _ (h w sm),qh sm (fun x hx=>h x (List.mem_cons_of_mem _ hx))]
end Go.Dw
