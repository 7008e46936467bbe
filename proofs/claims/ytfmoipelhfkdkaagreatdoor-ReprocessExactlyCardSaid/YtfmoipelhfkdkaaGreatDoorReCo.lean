
import Derived.Test.YtfmoipelhfkdkaaGreatDoorReFn
import Derived.Test.YtfmoipelhfkdkaaGreatDoorDwLe

set_option maxRecDepth 100000
set_option maxHeartbeats 4000000
namespace Go.Dw.Re
open Go.Dw
noncomputable section
def fuelC:Nat:=600
def oU(a0:(List Int)):Option (ai):=
  (zq a0 0 (if 2000<(a0.length:Int)then 2000 else(a0.length:Int))).bind fun f=>some (ai.mk f 0)
def oa(d0:ai):Option (bc×ai):=
  (dY [20,25,40,100] d0).bind fun g=>(dm 3 g.2).bind fun j=>(tW (lq g) fuelC (0,j.1,0,j.2.fL,j.2.fAt,([]:(List Int)),([]:(List Int)))).bind fun f=>some ((bc.mk g.1 f.2.2.1 f.2.2.2),(ai.mk f.1 f.2.1))
def l9(a1:Int)(d0:ai):Option (bh×ai):=
  (oN 20 a1 d0).bind fun f=>(oa f.2).bind fun g=>(dY [10,50,200] g.2).bind fun j=>(dY [0,0,10,40] j.2).bind fun k=>(dY [0,50,200,400] k.2).bind fun q=>(dY [0,5,20] q.2).bind fun r=>(dm 2 r.2).bind fun u=>some ((bh.mk f.1 g.1 j.1 k.1 q.1 r.1 (IntKind.wrap .i64 (2+u.1))),u.2)
def px(d0:ai):Option (bO×ai):=
  (oa d0).bind fun g=>(dm 20 g.2).bind fun j=>(dm 9 j.2).bind fun k=>(tW (lm g) fuelC (0,g.1.bt,g.1.bd)).bind fun f=>some ((bO.mk (bc.mk g.1.bR f.1 f.2) j.1 (IntKind.wrap .i64 (1+k.1))),k.2)
def me(a1:Int)(d0:ai):Option (ah×ai):=
  (l9 a1 d0).bind fun f=>(px f.2).bind fun g=>(dY [0,0,10,40] g.2).bind fun j=>some ((ah.mk f.1 g.1 j.1),j.2)
def lO(a0:Int):Option (Int):=
  (nQ a0).bind fun f=>some f
instance :∀a0,LeC (oU a0) (ko a0):=fun _=>⟨by unfold oU ko;exact yG⟩
theorem keep_New_le(a0:(List Int)):Le (oU a0) (ko a0):=LeC.le
instance :∀d0,LeC (oa d0) (kM d0):=fun _=>⟨by unfold oa kM;exact yG⟩
instance :∀a1 d0,LeC (l9 a1 d0) (eQ a1 d0):=fun _ _=>⟨by unfold l9 eQ;exact yG⟩
instance :∀d0,LeC (px d0) (lT d0):=fun _=>⟨by unfold px lT;exact yG⟩
instance :∀a1 d0,LeC (me a1 d0) (dL a1 d0):=fun _ _=>⟨by unfold me dL;exact yG⟩
theorem Src_Settings_le(a1:Int)(d0:ai):Le (me a1 d0) (dL a1 d0):=LeC.le
instance :∀a0,LeC (lO a0) (gP a0):=fun _=>⟨by unfold lO gP;exact yG⟩
theorem bits_Len_le(a0:Int):Le (lO a0) (gP a0):=LeC.le
end
end Go.Dw.Re
