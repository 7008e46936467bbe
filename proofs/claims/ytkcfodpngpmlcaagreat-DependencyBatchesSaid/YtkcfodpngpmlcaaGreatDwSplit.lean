
import Derived.Test.YtkcfodpngpmlcaaGreatDwArg
import Derived.Test.YtkcfodpngpmlcaaGreatDwLift4
import Derived.Shelf.Strings.SplitShaped



namespace Go.Dw
open Go.Proofs Go.Shelf Go.RowKit Go.Lib

end Go.Dw
