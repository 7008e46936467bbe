
import Derived.Test.YtgiepghgloiinaaGreatDoorDwLift4

namespace Go.Dw
def atO(n:Int)(j:Nat):Option Unit:=if n.toNat=j then some ()else none
theorem vw{n:Int}{j:Nat}{y:Unit}(h:atO n j=some y):n.toNat=j:=by unfold atO at h;split at h<;>first|assumption|cases h
section
variable {P:Program}{nb:Nat}{R:List (Nat×RV)}{B:List (Nat×Box)}{s':St}{gs:List oV}{α:Type}{g:α->PD}{l:List (List α)}{es:List α}{id new k ver kv i:Nat}{e e2:TypeId}
theorem kL{x:oV}{s s1:St}(h1:kU P nb s x=some s1)(h:kx P nb s1 gs=some s'):kx P nb s (x::gs)=some s':=by
 simp only [kx,h1];exact h
end
section
variable {P:Program}{H:Hints}{ext:FuncId->Option ko}{mt:Hf}{ops:Array Oper}{l:List Oper}{R:List (Nat×RV)}{B:List (Nat×Box)}{K:List (Nat×RV)->List (Nat×Box)->List Tr->Prop}{o:Oper}{d:Nat}
end
end Go.Dw
