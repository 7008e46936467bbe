
import Derived.Test.YtmmgjlgoggielaaGreatEtEvC

set_option maxRecDepth 100000
set_option maxHeartbeats 4000000
namespace Go.Dw.Et
open Go.Proofs Go.Proofs.Tryz Go.Dw
end Go.Dw.Et
