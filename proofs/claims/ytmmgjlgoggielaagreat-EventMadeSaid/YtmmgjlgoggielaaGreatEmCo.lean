
import Derived.Test.YtmmgjlgoggielaaGreatEmFn
import Derived.Test.YtmmgjlgoggielaaGreatDwLe

set_option maxRecDepth 100000
set_option maxHeartbeats 4000000
namespace Go.Dw.Em
open Go.Dw
noncomputable section
def ke:Nat:=600
def oG(a0:(List Int)):Option (ac):=
  (yW a0 0 (if 2000<(a0.length:Int)then 2000 else(a0.length:Int))).bind fun x1=>some (ac.mk x1 0)
def nq(d0:ac):Option (aA×ac):=
  (dI [20,25,40,100] d0).bind fun x1=>(dx 3 x1.2).bind fun x2=>(tk (jv x1) ke (0,x2.1,0,x2.2.fL,x2.2.fAt,([]:(List Int)),([]:(List Int)))).bind fun o24=>some ((aA.mk x1.1 o24.2.2.1 o24.2.2.2),(ac.mk o24.1 o24.2.1))
def kw(a1:Int)(d0:ac):Option (aG×ac):=
  (oq 20 a1 d0).bind fun x1=>(nq x1.2).bind fun x2=>(dI [10,50,200] x2.2).bind fun x3=>(dI [0,0,10,40] x3.2).bind fun x4=>(dI [0,50,200,400] x4.2).bind fun x5=>(dI [0,5,20] x5.2).bind fun x6=>(dx 2 x6.2).bind fun x7=>some ((aG.mk x1.1 x2.1 x3.1 x4.1 x5.1 x6.1 (IntKind.wrap .i64 (2+x7.1))),x7.2)
def pn(d0:ac):Option (bo×ac):=
  (nq d0).bind fun x1=>(dx 20 x1.2).bind fun x2=>(dx 9 x2.2).bind fun x3=>(tk (lF x1) ke (0,x1.1.aI,x1.1.aC)).bind fun o26=>some ((bo.mk (aA.mk x1.1.aZ o26.1 o26.2) x2.1 (IntKind.wrap .i64 (1+x3.1))),x3.2)
def ky(a1:Int)(d0:ac):Option (ar×ac):=
  (kw a1 d0).bind fun x1=>(pn x1.2).bind fun x2=>(dI [0,0,10,40] x2.2).bind fun x3=>some ((ar.mk x1.1 x2.1 x3.1),x3.2)
def iB(a0:Int):Option (Int):=
  (mU a0).bind fun x1=>some x1
instance :∀a0,LeC (oG a0) (kH a0):=fun _=>⟨by unfold oG kH;exact xR⟩
theorem keep_New_le(a0:(List Int)):Le (oG a0) (kH a0):=LeC.le
instance :∀d0,LeC (nq d0) (jb d0):=fun _=>⟨by unfold nq jb;exact xR⟩
instance :∀a1 d0,LeC (kw a1 d0) (dR a1 d0):=fun _ _=>⟨by unfold kw dR;exact xR⟩
instance :∀d0,LeC (pn d0) (kd d0):=fun _=>⟨by unfold pn kd;exact xR⟩
instance :∀a1 d0,LeC (ky a1 d0) (dJ a1 d0):=fun _ _=>⟨by unfold ky dJ;exact xR⟩
theorem Src_Settings_le(a1:Int)(d0:ac):Le (ky a1 d0) (dJ a1 d0):=LeC.le
instance :∀a0,LeC (iB a0) (gd a0):=fun _=>⟨by unfold iB gd;exact xR⟩
theorem bits_Len_le(a0:Int):Le (iB a0) (gd a0):=LeC.le
end
end Go.Dw.Em
