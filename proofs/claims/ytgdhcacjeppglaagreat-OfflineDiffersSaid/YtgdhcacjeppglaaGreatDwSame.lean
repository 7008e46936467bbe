
import Derived.Test.YtgdhcacjeppglaaGreatDwArg
import Derived.Test.YtgdhcacjeppglaaGreatDwLift4
import Derived.Below

namespace Go.Dw
open Go.RowKit
end Go.Dw
