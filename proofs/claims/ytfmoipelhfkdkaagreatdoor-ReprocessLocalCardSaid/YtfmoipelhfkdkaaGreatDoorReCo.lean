
import Derived.Test.YtfmoipelhfkdkaaGreatDoorReFn
import Derived.Test.YtfmoipelhfkdkaaGreatDoorDwLe

set_option maxRecDepth 100000
set_option maxHeartbeats 4000000
namespace Go.Dw.Re
open Go.Dw
noncomputable section
def fuelC:Nat:=600
def oW(a0:(List Int)):Option (ai):=
  (zo a0 0 (if 2000<(a0.length:Int)then 2000 else(a0.length:Int))).bind fun f=>some (ai.mk f 0)
def od(d0:ai):Option (bc×ai):=
  (ec [20,25,40,100] d0).bind fun g=>(dm 3 g.2).bind fun j=>(tU (lu g) fuelC (0,j.1,0,j.2.fL,j.2.fAt,([]:(List Int)),([]:(List Int)))).bind fun f=>some ((bc.mk g.1 f.2.2.1 f.2.2.2),(ai.mk f.1 f.2.1))
def md(a1:Int)(d0:ai):Option (bh×ai):=
  (oP 20 a1 d0).bind fun f=>(od f.2).bind fun g=>(ec [10,50,200] g.2).bind fun j=>(ec [0,0,10,40] j.2).bind fun k=>(ec [0,50,200,400] k.2).bind fun q=>(ec [0,5,20] q.2).bind fun r=>(dm 2 r.2).bind fun u=>some ((bh.mk f.1 g.1 j.1 k.1 q.1 r.1 (IntKind.wrap .i64 (2+u.1))),u.2)
def pA(d0:ai):Option (bP×ai):=
  (od d0).bind fun g=>(dm 20 g.2).bind fun j=>(dm 9 j.2).bind fun k=>(tU (lq g) fuelC (0,g.1.bu,g.1.bd)).bind fun f=>some ((bP.mk (bc.mk g.1.bR f.1 f.2) j.1 (IntKind.wrap .i64 (1+k.1))),k.2)
def mg(a1:Int)(d0:ai):Option (ah×ai):=
  (md a1 d0).bind fun f=>(pA f.2).bind fun g=>(ec [0,0,10,40] g.2).bind fun j=>some ((ah.mk f.1 g.1 j.1),j.2)
def lP(a0:Int):Option (Int):=
  (nS a0).bind fun f=>some f
instance :∀a0,LeC (oW a0) (kq a0):=fun _=>⟨by unfold oW kq;exact yE⟩
theorem keep_New_le(a0:(List Int)):Le (oW a0) (kq a0):=LeC.le
instance :∀d0,LeC (od d0) (kR d0):=fun _=>⟨by unfold od kR;exact yE⟩
instance :∀a1 d0,LeC (md a1 d0) (eT a1 d0):=fun _ _=>⟨by unfold md eT;exact yE⟩
instance :∀d0,LeC (pA d0) (lV d0):=fun _=>⟨by unfold pA lV;exact yE⟩
instance :∀a1 d0,LeC (mg a1 d0) (dL a1 d0):=fun _ _=>⟨by unfold mg dL;exact yE⟩
theorem Src_Settings_le(a1:Int)(d0:ai):Le (mg a1 d0) (dL a1 d0):=LeC.le
instance :∀a0,LeC (lP a0) (gR a0):=fun _=>⟨by unfold lP gR;exact yE⟩
theorem bits_Len_le(a0:Int):Le (lP a0) (gR a0):=LeC.le
end
end Go.Dw.Re
