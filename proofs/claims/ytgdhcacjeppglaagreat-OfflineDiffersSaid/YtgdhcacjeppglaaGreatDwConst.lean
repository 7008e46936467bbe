
import Derived.Test.YtgdhcacjeppglaaGreatDwLift4

namespace Go.Dw
def lC(r:RV):cB:=fun _ args bs=>match args,bs with
 | [],[]=>some (r,[])
 |_,_=>none
theorem const_ok{P:Program}{base:iZ}{f:FuncId}{r0:RV}(b:fJ P base f [] [] r0 [])(args:List RV)(bs:List Box)(r:RV)(a:List Box)(h:lC r0 f args bs=some (r,a)):fJ P base f args bs r a:=by
 unfold lC at h
 split at h
 ·cases h;exact b
 ·cases h
end Go.Dw
