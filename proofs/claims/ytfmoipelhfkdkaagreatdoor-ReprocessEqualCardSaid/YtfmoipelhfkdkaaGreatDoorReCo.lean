
import Derived.Test.YtfmoipelhfkdkaaGreatDoorReFn
import Derived.Test.YtfmoipelhfkdkaaGreatDoorDwLe

set_option maxRecDepth 100000
set_option maxHeartbeats 4000000
namespace Go.Dw.Re
open Go.Dw
noncomputable section
def fuelC:Nat:=600
def pw(a0:(List Int)):Option (ai):=
  (zK a0 0 (if 2000<(a0.length:Int)then 2000 else(a0.length:Int))).bind fun f=>some (ai.mk f 0)
def oA(d0:ai):Option (bg×ai):=
  (ei [20,25,40,100] d0).bind fun g=>(du 3 g.2).bind fun j=>(uh (lD g) fuelC (0,j.1,0,j.2.fL,j.2.fAt,([]:(List Int)),([]:(List Int)))).bind fun f=>some ((bg.mk g.1 f.2.2.1 f.2.2.2),(ai.mk f.1 f.2.1))
def mj(a1:Int)(d0:ai):Option (bi×ai):=
  (pg 20 a1 d0).bind fun f=>(oA f.2).bind fun g=>(ei [10,50,200] g.2).bind fun j=>(ei [0,0,10,40] j.2).bind fun k=>(ei [0,50,200,400] k.2).bind fun q=>(ei [0,5,20] q.2).bind fun r=>(du 2 r.2).bind fun u=>some ((bi.mk f.1 g.1 j.1 k.1 q.1 r.1 (IntKind.wrap .i64 (2+u.1))),u.2)
def pP(d0:ai):Option (bS×ai):=
  (oA d0).bind fun g=>(du 20 g.2).bind fun j=>(du 9 j.2).bind fun k=>(uh (lB g) fuelC (0,g.1.bt,g.1.bd)).bind fun f=>some ((bS.mk (bg.mk g.1.bQ f.1 f.2) j.1 (IntKind.wrap .i64 (1+k.1))),k.2)
def mn(a1:Int)(d0:ai):Option (ah×ai):=
  (mj a1 d0).bind fun f=>(pP f.2).bind fun g=>(ei [0,0,10,40] g.2).bind fun j=>some ((ah.mk f.1 g.1 j.1),j.2)
def lX(a0:Int):Option (Int):=
  (n7 a0).bind fun f=>some f
instance :∀a0,LeC (pw a0) (kB a0):=fun _=>⟨by unfold pw kB;exact yV⟩
theorem keep_New_le(a0:(List Int)):Le (pw a0) (kB a0):=LeC.le
instance :∀d0,LeC (oA d0) (k8 d0):=fun _=>⟨by unfold oA k8;exact yV⟩
instance :∀a1 d0,LeC (mj a1 d0) (eZ a1 d0):=fun _ _=>⟨by unfold mj eZ;exact yV⟩
instance :∀d0,LeC (pP d0) (l7 d0):=fun _=>⟨by unfold pP l7;exact yV⟩
instance :∀a1 d0,LeC (mn a1 d0) (dP a1 d0):=fun _ _=>⟨by unfold mn dP;exact yV⟩
theorem Src_Settings_le(a1:Int)(d0:ai):Le (mn a1 d0) (dP a1 d0):=LeC.le
instance :∀a0,LeC (lX a0) (ia a0):=fun _=>⟨by unfold lX ia;exact yV⟩
theorem bits_Len_le(a0:Int):Le (lX a0) (ia a0):=LeC.le
end
end Go.Dw.Re
