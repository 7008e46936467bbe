
import Derived.Test.YtmmgjlgoggielaaGreatEdFn
import Derived.Test.YtmmgjlgoggielaaGreatDwLe

set_option maxRecDepth 100000
set_option maxHeartbeats 4000000
namespace Go.Dw.Ed
open Go.Dw
noncomputable section
def jb(a0:Int):Option (Int):=
  (lE a0).bind fun x1=>some x1
instance :∀a0,LeC (jb a0) (fu a0):=fun _=>⟨by unfold jb fu;exact leAuto⟩
theorem bits_Len_le(a0:Int):Le (jb a0) (fu a0):=LeC.le
end
end Go.Dw.Ed
