
import Derived.Test.YtmmgjlgoggielaaGreatDwLift4

namespace Go.Dw
def zP(r:RV):qa:=fun _ args bs=>match args,bs with
 | [],[]=>some (r,[])
 |_,_=>none
theorem const_ok{P:Program}{base:vr}{f:FuncId}{r0:RV}(h0:rG P base f [] [] r0 [])(args:List RV)(bs:List Box)(r:RV)(bs':List Box)(h:zP r0 f args bs=some (r,bs')):rG P base f args bs r bs':=by
 unfold zP at h
 split at h
 ·cases h;exact h0
 ·cases h
end Go.Dw
