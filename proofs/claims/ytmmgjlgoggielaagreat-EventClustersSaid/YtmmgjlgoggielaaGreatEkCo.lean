
import Derived.Test.YtmmgjlgoggielaaGreatEkFn
import Derived.Test.YtmmgjlgoggielaaGreatDwLe

set_option maxRecDepth 100000
set_option maxHeartbeats 4000000
namespace Go.Dw.Ek
open Go.Dw
noncomputable section
def jG:Nat:=600
def nP(a0:(List Int)):Option (ac):=
  (wD a0 0 (if 2000<(a0.length:Int)then 2000 else(a0.length:Int))).bind fun x1=>some (ac.mk x1 0)
def mH(d0:ac):Option (aI×ac):=
  (dl [20,25,40,100] d0).bind fun x1=>(cJ 3 x1.2).bind fun x2=>(rR (jd x1) jG (0,x2.1,0,x2.2.fL,x2.2.fAt,([]:(List Int)),([]:(List Int)))).bind fun o24=>some ((aI.mk x1.1 o24.2.2.1 o24.2.2.2),(ac.mk o24.1 o24.2.1))
def jR(a1:Int)(d0:ac):Option (aJ×ac):=
  (nD 20 a1 d0).bind fun x1=>(mH x1.2).bind fun x2=>(dl [10,50,200] x2.2).bind fun x3=>(dl [0,0,10,40] x3.2).bind fun x4=>(dl [0,50,200,400] x4.2).bind fun x5=>(dl [0,5,20] x5.2).bind fun x6=>(cJ 2 x6.2).bind fun x7=>some ((aJ.mk x1.1 x2.1 x3.1 x4.1 x5.1 x6.1 (IntKind.wrap .i64 (2+x7.1))),x7.2)
def ot(d0:ac):Option (bu×ac):=
  (mH d0).bind fun x1=>(cJ 20 x1.2).bind fun x2=>(cJ 9 x2.2).bind fun x3=>(rR (k8 x1) jG (0,x1.1.aL,x1.1.aF)).bind fun o26=>some ((bu.mk (aI.mk x1.1.bn o26.1 o26.2) x2.1 (IntKind.wrap .i64 (1+x3.1))),x3.2)
def jT(a1:Int)(d0:ac):Option (ap×ac):=
  (jR a1 d0).bind fun x1=>(ot x1.2).bind fun x2=>(dl [0,0,10,40] x2.2).bind fun x3=>some ((ap.mk x1.1 x2.1 x3.1),x3.2)
def il(a0:Int):Option (Int):=
  (mm a0).bind fun x1=>some x1
instance :∀a0,LeC (nP a0) (kk a0):=fun _=>⟨by unfold nP kk;exact w6⟩
theorem keep_New_le(a0:(List Int)):Le (nP a0) (kk a0):=LeC.le
instance :∀d0,LeC (mH d0) (iJ d0):=fun _=>⟨by unfold mH iJ;exact w6⟩
instance :∀a1 d0,LeC (jR a1 d0) (dL a1 d0):=fun _ _=>⟨by unfold jR dL;exact w6⟩
instance :∀d0,LeC (ot d0) (jF d0):=fun _=>⟨by unfold ot jF;exact w6⟩
instance :∀a1 d0,LeC (jT a1 d0) (dy a1 d0):=fun _ _=>⟨by unfold jT dy;exact w6⟩
theorem Src_Settings_le(a1:Int)(d0:ac):Le (jT a1 d0) (dy a1 d0):=LeC.le
instance :∀a0,LeC (il a0) (fW a0):=fun _=>⟨by unfold il fW;exact w6⟩
theorem bits_Len_le(a0:Int):Le (il a0) (fW a0):=LeC.le
end
end Go.Dw.Ek
