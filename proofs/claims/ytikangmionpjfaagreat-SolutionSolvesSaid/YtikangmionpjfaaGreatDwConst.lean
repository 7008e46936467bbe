
import Derived.Test.YtikangmionpjfaaGreatDwLift4

namespace Go.Dw
def zw(r:RV):pA:=fun _ args bs=>match args,bs with
 | [],[]=>some (r,[])
 |_,_=>none
theorem const_ok{P:Program}{base:tR}{f:FuncId}{r0:RV}(c:qI P base f [] [] r0 [])(args:List RV)(bs:List Box)(r:RV)(a:List Box)(h:zw r0 f args bs=some (r,a)):qI P base f args bs r a:=by
 unfold zw at h
 split at h
 ·cases h;exact c
 ·cases h
end Go.Dw
