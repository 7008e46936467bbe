
import Derived.Test.YtmmgjlgoggielaaGreatDwSplit
import Derived.Shelf.Strings.OnBuilder

namespace Go.Dw
open Go.Proofs Go.Shelf Go.RowKit Go.Lib
end Go.Dw
