
import Derived.Test.YtjecbkklfphblaaGreatDwArg
import Derived.Test.YtjecbkklfphblaaGreatDwLift4
import Derived.Shelf.Strings.SplitShaped



namespace Go.Dw
open Go.Proofs Go.Shelf Go.RowKit Go.Lib

end Go.Dw
