
import Derived.Test.YtkcfodpngpmlcaaGreatDeFn
import Derived.Test.YtkcfodpngpmlcaaGreatDwLe


set_option maxRecDepth 100000
set_option maxHeartbeats 4000000
namespace Go.Dw.De
open Go.Dw
end Go.Dw.De
