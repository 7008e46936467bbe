
import Derived.Test.YtomapcboiinfdaaGreatDwLift4

namespace Go.Dw
def wU(r:RV):ng:=fun _ args bs=>match args,bs with
 | [],[]=>some (r,[])
 |_,_=>none
theorem const_ok{P:Program}{base:tE}{f:FuncId}{r0:RV}(b:pk P base f [] [] r0 [])(args:List RV)(bs:List Box)(r:RV)(a:List Box)(h:wU r0 f args bs=some (r,a)):pk P base f args bs r a:=by
 unfold wU at h
 split at h
 ·cases h;exact b
 ·cases h
end Go.Dw
