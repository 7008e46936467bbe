
import Derived.Test.YtomapcboiinfdaaGreatDwArg
import Derived.Test.YtomapcboiinfdaaGreatDwLift4
import Derived.Below

namespace Go.Dw
open Go.RowKit
end Go.Dw
