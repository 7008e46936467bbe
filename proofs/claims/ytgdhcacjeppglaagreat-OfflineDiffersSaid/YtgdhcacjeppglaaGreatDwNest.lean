
import Derived.Test.YtgdhcacjeppglaaGreatDwLift4

namespace Go.Dw
section
variable {P:Program}{nb:Nat}{R:List (Nat×RV)}{B:List (Nat×Box)}{s':St}{gs:List ju}{α:Type}{g:α->PD}{l:List (List α)}{es:List α}{id new k ver kv i:Nat}{e e2:TypeId}
end
section
variable {P:Program}{H:Hints}{ext:FuncId->Option cB}{mt:Hf}{ops:Array Oper}{l:List Oper}{R:List (Nat×RV)}{B:List (Nat×Box)}{K:List (Nat×RV)->List (Nat×Box)->List Tr->Prop}{o:Oper}{d:Nat}
end
end Go.Dw
