
import Derived.Test.YthkfkgoddhehcaaGreatDwLift4

namespace Go.Dw
def Cb(r:RV):tI:=λ_ args bs=>match args,bs with
 | [],[]=>some (r,[])
 |_,_=>none
theorem const_ok{P:Program}{base:wX}{f:FuncId}{r0:RV}(c:uM P base f [] [] r0 [])(args:List RV)(bs:List Box)(r:RV)(a:List Box)(h:Cb r0 f args bs=some (r,a)):uM P base f args bs r a:=by
 unfold Cb at h
 split at h
 ·cases h;exact c
 ·cases h
end Go.Dw
