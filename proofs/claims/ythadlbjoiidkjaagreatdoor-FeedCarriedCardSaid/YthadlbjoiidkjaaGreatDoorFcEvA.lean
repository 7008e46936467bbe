
import Derived.Test.YthadlbjoiidkjaaGreatDoorFcFn
import Derived.Test.YthadlbjoiidkjaaGreatDoorDwShort
import Derived.Test.YthadlbjoiidkjaaGreatDoorDwNest
import Derived.Test.YthadlbjoiidkjaaGreatDoorProg
import Derived.Test.YthadlbjoiidkjaaGreatDoorDwClone
import Derived.Test.YthadlbjoiidkjaaGreatDoorDwIns
import Derived.Test.YthadlbjoiidkjaaGreatDoorDwSortC

set_option maxRecDepth 100000
set_option maxHeartbeats 4000000
namespace Go.Dw.Fc
open Go.Proofs Go.Proofs.Tryz Go.Dw
@[reducible] def rW(n:Int):Int:=IntKind.wrap .i64 n
@[reducible] def rI(n:Int):RV:= .d (.int .i64 n)
@[reducible] def r0:RV:= .d (.int .i64 0)
@[reducible] def rS(s:List UInt8):RV:= .d (.str s)
@[reducible] def rB(b:Bool):RV:= .d (.bool b)
@[reducible] def rM{α:Type}(g:α->PD)(l:List α):RV:= .d (.lst (l.map g))
@[reducible] def rL(l:List Int):RV:= .d (.lst (l.map (PD.int .i64)))
@[reducible] def zZ0:List RV:=[.d (.int .i64 0),.d (.int .i64 0),.d (.int .i64 0),.d (.int .i64 0),.d (.int .i64 0),.d (.str []),.d (.str []),.d (.str []),.d (.str []),.d (.int .i64 0),.d (.int .i64 0),.d (.int .i64 0),.d (.int .i64 0),.d (.int .i64 0),.mo,.d (.int .i64 0),.d (.int .i64 0),.d (.int .i64 0),.d (.int .i64 0),.d (.int .i64 0),.d (.int .i64 0),.d (.int .i64 0),.d (.int .i64 0),.d (.int .i64 0),.d (.int .i64 0),.d (.int .i64 0),.d (.int .i64 0),.d (.int .i64 0),.d (.int .i64 0),.d (.int .i64 0)]
@[reducible] def zZ1:List RV:=[.d (.str []),.d (.str []),.d (.str []),.d (.str []),.d (.int .i64 0),.d (.int .i64 0),.d (.int .i64 0),.d (.int .i64 0),.d (.int .i64 0),.mo,.d (.int .i64 0),.d (.int .i64 0),.d (.int .i64 0),.d (.int .i64 0),.d (.int .i64 0),.d (.int .i64 0),.d (.int .i64 0),.d (.int .i64 0),.d (.int .i64 0),.d (.int .i64 0),.d (.int .i64 0),.d (.int .i64 0),.d (.int .i64 0),.d (.int .i64 0),.d (.int .i64 0)]
@[reducible] def zZ2:aj:=(aj.mk 0 0 0 0 0 (av.mk (ag.mk (au.mk [] [] [] []) 0 0 0 0 0) (az.mk [] (aD.mk (ai.mk 0 0 0) 0 0 0 (aY.mk (ai.mk 0 0 0) (ai.mk 0 0 0))) (aH.mk 0 0) 0)))
@[reducible] def zZ4:List RV:=[.d (.int .i64 0),.d (.int .i64 0),.d (.int .i64 0),.d (.int .i64 0),.d (.int .i64 0),.mo,.mo,.mo,.d (.int .i64 0),.d (.int .i64 0),.mo,.d (.int .i64 0),.d (.int .i64 0),.mo,.mo]
@[reducible] def aM.rc(x:aM):List RV:=[.d (.int .i64 x.fID),.d (.bool x.bA),.d (.str x.ap.ar.aT),.d (.str x.ap.ar.aU),.d (.str x.ap.ar.ac),.d (.str x.ap.ar.aS),.d (.int .i64 x.ap.aP),.d (.int .i64 x.ap.aZ),.d (.int .i64 x.ap.bg),.d (.int .i64 x.ap.aI),.d (.int .i64 x.ap.aL),.d (.int .i64 x.bw),.d (.str x.ah.ap.ar.aT),.d (.str x.ah.ap.ar.aU),.d (.str x.ah.ap.ar.ac),.d (.str x.ah.ap.ar.aS),.d (.int .i64 x.ah.ap.aP),.d (.int .i64 x.ah.ap.aZ),.d (.int .i64 x.ah.ap.bg),.d (.int .i64 x.ah.ap.aI),.d (.int .i64 x.ah.ap.aL),.d (.lst (x.ah.aa.aX.map ag.pd)),.d (.int .i64 x.ah.aa.ac.aO.fX),.d (.int .i64 x.ah.aa.ac.aO.fY),.d (.int .i64 x.ah.aa.ac.aO.fZ),.d (.int .i64 x.ah.aa.ac.aP),.d (.int .i64 x.ah.aa.ac.bc),.d (.int .i64 x.ah.aa.ac.bu),.d (.int .i64 x.ah.aa.ac.aF.aW.fX),.d (.int .i64 x.ah.aa.ac.aF.aW.fY),.d (.int .i64 x.ah.aa.ac.aF.aW.fZ),.d (.int .i64 x.ah.aa.ac.aF.aN.fX),.d (.int .i64 x.ah.aa.ac.aF.aN.fY),.d (.int .i64 x.ah.aa.ac.aF.aN.fZ),.d (.int .i64 x.ah.aa.aA.aW),.d (.int .i64 x.ah.aa.aA.aN),.d (.int .i64 x.ah.aa.bn),.d (.int .i64 x.fAt)]
@[reducible] def av.rc(x:av):List RV:=[.d (.str x.ap.ar.aT),.d (.str x.ap.ar.aU),.d (.str x.ap.ar.ac),.d (.str x.ap.ar.aS),.d (.int .i64 x.ap.aP),.d (.int .i64 x.ap.aZ),.d (.int .i64 x.ap.bg),.d (.int .i64 x.ap.aI),.d (.int .i64 x.ap.aL),.d (.lst (x.aa.aX.map ag.pd)),.d (.int .i64 x.aa.ac.aO.fX),.d (.int .i64 x.aa.ac.aO.fY),.d (.int .i64 x.aa.ac.aO.fZ),.d (.int .i64 x.aa.ac.aP),.d (.int .i64 x.aa.ac.bc),.d (.int .i64 x.aa.ac.bu),.d (.int .i64 x.aa.ac.aF.aW.fX),.d (.int .i64 x.aa.ac.aF.aW.fY),.d (.int .i64 x.aa.ac.aF.aW.fZ),.d (.int .i64 x.aa.ac.aF.aN.fX),.d (.int .i64 x.aa.ac.aF.aN.fY),.d (.int .i64 x.aa.ac.aF.aN.fZ),.d (.int .i64 x.aa.aA.aW),.d (.int .i64 x.aa.aA.aN),.d (.int .i64 x.aa.bn)]
@[reducible] def az.rc(x:az):List RV:=[.d (.lst (x.aX.map ag.pd)),.d (.int .i64 x.ac.aO.fX),.d (.int .i64 x.ac.aO.fY),.d (.int .i64 x.ac.aO.fZ),.d (.int .i64 x.ac.aP),.d (.int .i64 x.ac.bc),.d (.int .i64 x.ac.bu),.d (.int .i64 x.ac.aF.aW.fX),.d (.int .i64 x.ac.aF.aW.fY),.d (.int .i64 x.ac.aF.aW.fZ),.d (.int .i64 x.ac.aF.aN.fX),.d (.int .i64 x.ac.aF.aN.fY),.d (.int .i64 x.ac.aF.aN.fZ),.d (.int .i64 x.aA.aW),.d (.int .i64 x.aA.aN),.d (.int .i64 x.bn)]
@[reducible] def aD.rc(x:aD):List RV:=[.d (.int .i64 x.aO.fX),.d (.int .i64 x.aO.fY),.d (.int .i64 x.aO.fZ),.d (.int .i64 x.aP),.d (.int .i64 x.bc),.d (.int .i64 x.bu),.d (.int .i64 x.aF.aW.fX),.d (.int .i64 x.aF.aW.fY),.d (.int .i64 x.aF.aW.fZ),.d (.int .i64 x.aF.aN.fX),.d (.int .i64 x.aF.aN.fY),.d (.int .i64 x.aF.aN.fZ)]
@[reducible] def ag.rc(x:ag):List RV:=[.d (.str x.ar.aT),.d (.str x.ar.aU),.d (.str x.ar.ac),.d (.str x.ar.aS),.d (.int .i64 x.aP),.d (.int .i64 x.aZ),.d (.int .i64 x.bg),.d (.int .i64 x.aI),.d (.int .i64 x.aL)]
@[reducible] def aj.rc(x:aj):List RV:=[.d (.int .i64 x.bv),.d (.int .i64 x.bX),.d (.int .i64 x.fID),.d (.int .i64 x.fAt),.d (.int .i64 x.bw),.d (.str x.ah.ap.ar.aT),.d (.str x.ah.ap.ar.aU),.d (.str x.ah.ap.ar.ac),.d (.str x.ah.ap.ar.aS),.d (.int .i64 x.ah.ap.aP),.d (.int .i64 x.ah.ap.aZ),.d (.int .i64 x.ah.ap.bg),.d (.int .i64 x.ah.ap.aI),.d (.int .i64 x.ah.ap.aL),.d (.lst (x.ah.aa.aX.map ag.pd)),.d (.int .i64 x.ah.aa.ac.aO.fX),.d (.int .i64 x.ah.aa.ac.aO.fY),.d (.int .i64 x.ah.aa.ac.aO.fZ),.d (.int .i64 x.ah.aa.ac.aP),.d (.int .i64 x.ah.aa.ac.bc),.d (.int .i64 x.ah.aa.ac.bu),.d (.int .i64 x.ah.aa.ac.aF.aW.fX),.d (.int .i64 x.ah.aa.ac.aF.aW.fY),.d (.int .i64 x.ah.aa.ac.aF.aW.fZ),.d (.int .i64 x.ah.aa.ac.aF.aN.fX),.d (.int .i64 x.ah.aa.ac.aF.aN.fY),.d (.int .i64 x.ah.aa.ac.aF.aN.fZ),.d (.int .i64 x.ah.aa.aA.aW),.d (.int .i64 x.ah.aa.aA.aN),.d (.int .i64 x.ah.aa.bn)]
@[reducible] def aK.rc(x:aK):List RV:=[.d (.int .i64 x.bt),.d (.int .i64 x.br),.d (.int .i64 x.bY),.d (.int .i64 x.bj.c8),.d (.int .i64 x.bj.bJ),.d (.lst (x.bj.ch.map PD.str)),.d (.lst (x.bo.eU.map ae.pd)),.d (.lst (x.bo.c7.map ae.pd)),.d (.int .i64 x.bF.bt),.d (.int .i64 x.bF.ba),.d (.lst (x.bF.bq.map ak.pd)),.d (.int .i64 x.fUp.bt),.d (.int .i64 x.fUp.ba),.d (.lst (x.fUp.bq.map ak.pd)),.d (.lst (x.bp.map aB.pd))]
@[reducible] def ae.rc(x:ae):List RV:=[.d (.int .i64 x.bd),.d (.int .i64 x.fTo)]
@[reducible] def aq.rc(x:aq):List RV:=[.d (.lst (x.fL.map (PD.int .i64))),.d (.int .i64 x.fAt)]
@[reducible] def aH.rc(x:aH):List RV:=[.d (.int .i64 x.aW),.d (.int .i64 x.aN)]
@[reducible] def ai.rc(x:ai):List RV:=[.d (.int .i64 x.fX),.d (.int .i64 x.fY),.d (.int .i64 x.fZ)]
@[reducible] def aQ.rc(x:aQ):List RV:=[.d (.lst (x.ce.map bD.pd)),.d (.int .i64 x.dZ),.d (.int .i64 x.fEvery)]
@[reducible] def bD.rc(x:bD):List RV:=[.d (.int .i64 x.aA),.d (.int .i64 x.aX),.d (.int .i64 x.bc),.d (.int .i64 x.mC)]
@[reducible] def au.rc(x:au):List RV:=[.d (.str x.aT),.d (.str x.aU),.d (.str x.ac),.d (.str x.aS)]
@[reducible] def aG.rc(x:aG):List RV:=[.d (.int .i64 x.c8),.d (.int .i64 x.bJ),.d (.lst (x.ch.map PD.str))]
@[reducible] def aw.rc(x:aw):List RV:=[.d (.lst (x.eU.map ae.pd)),.d (.lst (x.c7.map ae.pd))]
@[reducible] def aC.rc(x:aC):List RV:=[.d (.int .i64 x.bt),.d (.int .i64 x.ba),.d (.lst (x.bq.map ak.pd))]
@[reducible] def ak.rc(x:ak):List RV:=[.d (.int .i64 x.fAt),.d (.int .i64 x.ba),.d (.str x.ch)]
@[reducible] def aB.rc(x:aB):List RV:=[.d (.int .i64 x.da),.d (.int .i64 x.fAt),.d (.str x.ch)]
@[reducible] def am.rc(x:am):List RV:=[.d (.bool x.fDrop),.d (.int .i64 x.eT),.d (.int .i64 x.kf)]
@[reducible] def aJ.rc(x:aJ):List RV:=[.d (.lst (x.bZ.map PD.str)),.d (.bool x.oN)]
theorem Z{α:Sort _}{a:α}:a=a:=rfl
theorem Zk{α:Sort _}{a b:α}(h:a=b:=by kernel_rfl):a=b:=h
theorem gU{P:Program}{H:Hints}{ext:FuncId->Option pT}{f:FuncId}{nb:Nat}{R:List (Nat×RV)}{B:List (Nat×Box)}{Q:Ex->List (Nat×RV)->List (Nat×Box)->Prop}{id:Nat}{ops:Array Oper}{l:List Oper}{R0:List (Nat×RV)}{B0:List (Nat×Box)}{b:Code}(hl:(ops.toList,p6 P nb (A R B) (H.at_ f nb id))=(l,some (A R0 B0)))
    (h:WO P H ext (H.hf f) ops l R0 B0 fun R' B' _=>WC P H ext f nb b R' B' Q):WC P H ext f nb (.seq (.region id ops false) b) R B Q:=gS (congrArg Prod.fst hl) (congrArg Prod.snd hl) h
theorem mM{P:Program}{H:Hints}{ext:FuncId->Option pT}{mt:Hf}{ops:Array Oper}{l:List Oper}{R:List (Nat×RV)}{B:List (Nat×Box)}{K:List (Nat×RV)->List (Nat×Box)->List Tr->Prop}{d e:Nat}{ty uy:TypeId}{p q:String}{af bf:Array Edge}{g k:Option (Nat×Bool)}{x y:Operand}{v w:RV}(hx:((A R B).opd x,(A ((d,v)::R) B).opd y)=(some v,some w))(h:WO P H ext mt ops l ((e,w)::(d,v)::R) B fun R' B' ts=>K R' B' (⟨[],[]⟩::⟨[],[]⟩::ts))(hw:pL ops (A R B) ⟨some d,.move x,ty,p,af,g⟩=some true:=by exact rfl)(hu:pL ops (A ((d,v)::R) B) ⟨some e,.move y,uy,q,bf,k⟩=some true:=by exact rfl):WO P H ext mt ops (⟨some d,.move x,ty,p,af,g⟩::⟨some e,.move y,uy,q,bf,k⟩::l) R B K:=
  sM (congrArg Prod.fst hx) (sM (congrArg Prod.snd hx) h hu) hw
def hintAt:FuncId->Nat->Nat->List xQ:=fun f nb id=>
  if f=4 then(if nb=0 then(if id=8 then [.py [3,4,5,7,8] [80,288]]else if id=10 then [.py [3,4,5,7,8] [80,288]]else if id=20 then [.py [3,4,5,7,8] [80,288]]else if id=27 then [.py [] []]else [])else [])else if f=6 then(if nb=1 then(if id=3 then [.ownp (.cell 48 0) 560 96,.py [0,2,3,4] [0,32,48,560]]else if id=6 then [.py [2,3] [0,32,48,560]]else [])else [])else if f=9 then(if nb=1 then(if id=3 then [.own 5 1344 57,.py [0,1,5,6] [0,1344]]else if id=8 then [.py [0,1,5,6,7,23,24] [0,112,304,1344]]else if id=13 then [.frz (.cell 112 9),.py [0,1,5,6,7] [0,112,1344]]else if id=16 then [.py [5] [0,1344]]else [])else [])else if f=10 then(if nb=0 then(if id=3 then [.py [0,3,7,8,9] [96]]else if id=7 then [.py [0,3,5,7,8,9] [80,96]]else if id=11 then [.py [] []]else [])else [])else if f=16 then(if nb=1 then(if id=5 then [.frz (.reg 5),.own 6 656 59,.py [0,1,5,6,7,8,9] [0,112,656]]else if id=11 then [.py [6] [0,656]]else [])else [])else if f=18 then(if nb=0 then(if id=8 then [.py [1,4,36,37,38] [16,64,336]]else if id=12 then [.py [1,4] [16,64,336]]else [])else if nb=1 then(if id=8 then [.py [1,4,36,37,38] [0,16,64,336]]else if id=12 then [.py [1,4] [0,16,64,336]]else [])else [])else if f=21 then(if nb=0 then(if id=11 then [.py [6,9,62,63,64] [96,544,608]]else if id=16 then [.py [6,9] [96,544,608]]else if id=18 then [.py [6,9,89,90,91] [96,544,608]]else if id=22 then [.py [6,9] [96,544,608]]else [])else [])else if f=22 then(if nb=0 then(if id=3 then [.py [3,15,16,17] [224]]else if id=11 then [.py [3] [224]]else if id=14 then [.own 10 1008 59,.py [3,10,11] [224,1008]]else [])else [])else if f=23 then(if nb=0 then(if id=4 then [.py [0,1,5] []]else if id=8 then [.py [] []]else [])else [])else if f=34 then(if nb=1 then(if id=4 then [.ownp (.cell 80 9) 656 44,.py [0,1,4,5,6,7] [0,64,80,656]]else if id=7 then [.py [0,4,5,6] [0,64,80,656]]else [])else [])else if f=44 then(if nb=0 then(if id=6 then [.ownp (.cell 80 14) 832 44,.py [0,2,4,5,6,7] [32,80,208,832]]else if id=9 then [.py [0,2,4,5,6] [32,80,208,832]]else [])else [])else if f=46 then(if nb=0 then(if id=8 then [.own 15 2112 61,.own 16 2048 59,.py [1,2,3,4,5,14,15,16,17] [80,2048,2112]]else if id=14 then [.py [1,2,3,4,5,14,15,16,17,18,19] [80,288,2048,2112]]else if id=20 then [.py [1,2,3,4,5,14,15,16,17,18,19] [80,288,2048,2112]]else if id=24 then [.py [2,3,4,5,14,15,16] [80,2048,2112]]else if id=25 then [.py [2,3,4,5,14,15,16,21] [80,2048,2112]]else if id=31 then [.py [2,15,16] [2048,2112]]else [])else [])else if f=51 then(if nb=1 then(if id=1 then [.ownp (.cell 0 0) 320 9,.py [0,6,7,8] [0,320]]else [])else if nb=2 then(if id=1 then [.bumpp (.cell 0 0),.py [0,6,7,8] [0,1]]else [])else [])else if f=57 then(if nb=0 then(if id=3 then [.frz (.cell 16 10),.frz (.cell 16 13),.frz (.cell 16 5),.frz (.cell 16 6),.frz (.cell 16 7),.py [1,2] [16,32,496]]else [])else [])else if f=60 then(if nb=0 then(if id=6 then [.py [1,3,5,6,8] [48,80,96]]else if id=10 then [.py [1,3,5,6,48,49] [48,80,96,736]]else if id=16 then [.py [3,6] [48,96,736]]else [])else [])else if f=63 then(if nb=0 then(if id=8 then [.own 5 720 9,.py [1,2,5,6] [16,32,720]]else if id=11 then [.py [1,2,5,6] [16,32,720]]else [])else [])else if f=64 then(if nb=2 then(if id=1 then [.bumpp (.cell 0 14),.py [0,4,5,6,7] [0,1]]else [])else [])else if f=66 then(if nb=2 then(if id=4 then [.py [0,31,32,33] [0,1]]else [])else [])else if f=91 then(if nb=0 then(if id=4 then [.py [0,1,5] []]else if id=8 then [.py [] []]else [])else [])else if f=96 then(if nb=0 then(if id=5 then [.py [1,4] []]else if id=8 then [.py [1,4,11] []]else if id=12 then [.py [] []]else [])else [])else if f=97 then(if nb=0 then(if id=3 then [.own 5 560 3,.py [0,1,5,6] [560]]else if id=8 then [.py [0,1,5,6,7] [560]]else if id=11 then [.py [0,1,5] [560]]else if id=12 then [.py [0,1,5,8] [560]]else if id=13 then [.py [0,1,5,8] [560]]else if id=15 then [.py [0,1,5,8,9] [560]]else if id=19 then [.py [5] [560]]else [])else [])else if f=98 then(if nb=0 then(if id=3 then [.py [2,3,5,6] [32,48]]else if id=7 then [.py [5] []]else [])else [])else if f=99 then(if nb=0 then(if id=8 then [.py [3,7,8] [48,112,128]]else [])else [])else if f=100 then(if nb=0 then(if id=2 then [.py [0,1,5] []]else if id=6 then [.py [] []]else [])else if nb=1 then(if id=2 then [.py [0,1,5] [0]]else if id=6 then [.py [] [0]]else [])else [])else if f=105 then(if nb=0 then(if id=3 then [.py [0,3,9,10,11] []]else if id=9 then [.py [0,3] []]else if id=11 then [.py [6,25,26,27] [384]]else if id=15 then [.py [6] [384]]else [])else [])else if f=113 then(if nb=0 then(if id=4 then [.py [1,22,23,24] [16]]else if id=9 then [.py [] []]else [])else [])else if f=114 then(if nb=0 then(if id=4 then [.py [1,3,4,9,10,11] [16,112]]else if id=10 then [.py [1] [16]]else [])else [])else if f=121 then(if nb=0 then(if id=2 then [.py [0,7,8,9] []]else if id=6 then [.py [0] []]else [])else [])else if f=122 then(if nb=1 then(if id=3 then [.py [0,2,4,8,9,10] [0,64]]else if id=8 then [.py [0,2,4,8,9] [0,64]]else [])else [])else if f=125 then(if nb=0 then(if id=2 then [.py [0,1,7,8] []]else if id=7 then [.py [] []]else [])else [])else if f=131 then(if nb=0 then(if id=9 then [.own 7 704 207,.py [4,7,28,29] [704]]else if id=13 then [.py [7] [704]]else [])else [])else if f=132 then(if nb=0 then(if id=7 then [.own 8 576 3,.py [1,2,3,8,9] [48,144,576]]else if id=12 then [.py [1,2,3,8,37] [48,576]]else if id=13 then [.py [8] [576]]else [])else [])else if f=137 then(if nb=0 then(if id=7 then [.py [6,21,22,23] []]else if id=11 then [.py [6] []]else [])else [])else if f=150 then(if nb=0 then(if id=2 then [.py [0,1,7,8] []]else if id=7 then [.py [] []]else [])else if nb=1 then(if id=2 then [.py [0,1,7,8] [0]]else if id=7 then [.py [] [0]]else [])else [])else if f=167 then(if nb=0 then(if id=4 then [.py [1,3] [16]]else if id=9 then [.py [] []]else [])else [])else if f=168 then(if nb=0 then(if id=2 then [.py [0,3] []]else if id=3 then [.py [0,3] []]else if id=6 then [.py [0,3] []]else if id=7 then [.py [0,3,4] []]else if id=11 then [.py [0] []]else [])else [])else if f=169 then(if nb=0 then(if id=2 then [.py [0,3] []]else if id=3 then [.py [0,3] []]else if id=7 then [.py [0,3,4] []]else if id=8 then [.py [0,3,4,5] []]else if id=12 then [.py [] []]else [])else [])else if f=170 then(if nb=0 then(if id=2 then [.py [0,3,5] [48]]else if id=6 then [.py [] []]else [])else [])else if f=171 then(if nb=0 then(if id=2 then [.py [0,1,5] []]else if id=3 then [.py [0,1,5] []]else if id=5 then [.py [0,1,5,6] []]else if id=9 then [.py [] []]else [])else [])else if f=177 then(if nb=0 then(if id=6 then [.own 0 80000 3,.mv (.reg 0) 90097,.py [0] [90097]]else [])else [])else if f=183 then(if nb=0 then(if id=4 then [.own 5 816 207,.py [0,1,5,6,7] [816]]else if id=8 then [.py [0,1,5,6,7] [816]]else if id=11 then [.py [5] [816]]else [])else [])else if f=186 then(if nb=0 then(if id=5 then [.py [1,8,9] [368]]else if id=8 then [.py [8] [368]]else [])else [])else if f=187 then(if nb=0 then(if id=3 then [.py [3,6,7,8] []]else if id=8 then [.py [3] []]else [])else [])else if f=195 then(if nb=0 then(if id=4 then [.own 5 784 207,.py [1,5,14,15,16] [784]]else if id=8 then [.py [1,5,7,8,14,15,16,22,23,24] [112,784]]else if id=15 then [.py [1,5,7,8,14,15,16] [112,784]]else if id=18 then [.py [5] [784]]else [])else [])else if f=201 then(if nb=0 then(if id=3 then [.own 5 656 207,.py [1,5,10,11,12] [656]]else if id=12 then [.py [5] [656]]else [])else [])else if f=205 then(if nb=0 then(if id=2 then [.py [0,1,2,9,10] []]else if id=7 then [.py [0,1,2] []]else [])else [])else if f=206 then(if nb=0 then(if id=2 then [.py [0,1,7,8] []]else if id=7 then [.py [] []]else [])else [])else if f=218 then(if nb=0 then(if id=3 then [.py [0,2,3,4] [32,48]]else if id=7 then [.py [2,3] [32,48]]else [])else [])else if f=219 then(if nb=0 then(if id=3 then [.own 3 816 44,.py [0,3,4] [816]]else if id=6 then [.py [0,3,4,5] [816]]else if id=8 then [.py [0,3,4,5] [816]]else if id=9 then [.py [0,3,4,5] [816]]else if id=12 then [.py [3] [816]]else [])else [])else if f=221 then(if nb=0 then(if id=2 then [.py [0,1,5] []]else if id=3 then [.py [0,1,5] []]else if id=5 then [.py [0,1,5,6] []]else if id=9 then [.py [] []]else [])else [])else if f=227 then(if nb=0 then(if id=2 then [.py [0,1,7,8] []]else if id=7 then [.py [] []]else [])else [])else if f=228 then(if nb=0 then(if id=2 then [.py [0,5,6,7] []]else if id=7 then [.py [] []]else [])else if nb=1 then(if id=2 then [.py [0,5,6,7] [0]]else if id=7 then [.py [] [0]]else [])else [])else if f=229 then(if nb=0 then(if id=5 then [.own 4 816 207,.py [4,13,14,15] [144,816]]else if id=12 then [.py [4] [816]]else [])else [])else if f=232 then(if nb=0 then(if id=6 then [.py [1,5,6,18,19] [80]]else if id=10 then [.py [6] []]else [])else [])else if f=236 then(if nb=0 then(if id=7 then [.py [0,1,8,23,24] []]else if id=11 then [.py [8] []]else [])else [])else if f=237 then(if nb=0 then(if id=3 then [.py [0,3,9,10,11] []]else if id=9 then [.py [0,3] []]else if id=11 then [.py [6,25,26,27] [384]]else if id=15 then [.py [6] [384]]else [])else [])else if f=238 then(if nb=1 then(if id=2 then [.py [0,1,7,8] [0]]else if id=7 then [.py [] [0]]else [])else [])else if f=239 then(if nb=0 then(if id=5 then [.py [3,13,14,15] []]else if id=9 then [.py [3,13,14,15] []]else [])else [])else if f=253 then(if nb=0 then(if id=5 then [.py [41,42] []]else [])else [])else if f=258 then(if nb=1 then(if id=3 then [.bumpp (.reg 0),.py [0] [0]]else if id=5 then [.py [0,1,5,6] [0]]else if id=11 then [.py [0,5] [0]]else [])else [])else if f=262 then(if nb=0 then(if id=3 then [.py [0,1,5] [0,16]]else if id=12 then [.py [0,1,2,3,5,9] [0,16]]else if id=15 then [.py [0,1] [0,16]]else [])else [])else if f=264 then(if nb=0 then(if id=6 then [.own 0 80000 207,.mv (.reg 0) 90097,.py [0] [90097]]else [])else [])else []
def aV:Hints:={ at_:=hintAt,mt:=fun f i=>(f==58&&i==30)||(f==60&&i==75)||(f==177&&i==25)||(f==258&&i==41)||(f==264&&i==25),by_:=fun f i=>(f==18&&i==0)||(f==35&&i==0)||(f==53&&i==0)||(f==84&&i==0)||(f==100&&i==0)||(f==122&&i==0)||(f==124&&i==0)||(f==124&&i==2)||(f==150&&i==0)||(f==177&&i==0)||(f==196&&i==0)||(f==228&&i==0)||(f==238&&i==0)||(f==258&&i==0)||(f==260&&i==0)||(f==264&&i==0),own:=fun f i=>(f==34&&i==0)||(f==57&&i==0)||(f==116&&i==0)||(f==117&&i==0)||(f==118&&i==0)||(f==119&&i==0)||(f==177&&i==0)||(f==258&&i==0)||(f==264&&i==0) }
@[reducible] def gI(nb f id:Nat)(R:List (Nat×RV))(B:List (Nat×Box))(R':List (Nat×RV))(B':List (Nat×Box)):Prop:=p6 prog nb (A R' B') (aV.at_ f nb id)=some (A R B)
@[reducible] def gX(x nb f id:Nat)(R:List (Nat×RV))(B:List (Nat×Box))(e:Ex)(R':List (Nat×RV))(B':List (Nat×Box)):Prop:=e= .exit x∧gI nb f id R B R' B'
@[reducible] def gF(f:Nat)(fn:Func)(nb:Nat)(x:RV×List Box)(e:Ex)(R':List (Nat×RV))(B':List (Nat×Box)):Prop:=e= .ret∧finish prog (aV.own f) fn nb (A R' B')=some x
theorem lG(a b:ag):wm prog .eql 44 (.d a.pd) (.d b.pd)=some (.bool (((a.ar.aT==b.ar.aT)&&((a.ar.aU==b.ar.aU)&&((a.ar.ac==b.ar.ac)&&((a.ar.aS==b.ar.aS)&&true))))&&((a.aP==b.aP)&&((a.aZ==b.aZ)&&((a.bg==b.bg)&&((a.aI==b.aI)&&((a.aL==b.aL)&&true)))))),true):=by kernel_rfl
theorem eqN_44(a b:ag):wm prog .neq 44 (.d a.pd) (.d b.pd)=some (.bool (!(((a.ar.aT==b.ar.aT)&&((a.ar.aU==b.ar.aU)&&((a.ar.ac==b.ar.ac)&&((a.ar.aS==b.ar.aS)&&true))))&&((a.aP==b.aP)&&((a.aZ==b.aZ)&&((a.bg==b.bg)&&((a.aI==b.aI)&&((a.aL==b.aL)&&true))))))),true):=by kernel_rfl
theorem eqE_51(a b:aD):wm prog .eql 51 (.d a.pd) (.d b.pd)=some (.bool (((a.aO.fX==b.aO.fX)&&((a.aO.fY==b.aO.fY)&&((a.aO.fZ==b.aO.fZ)&&true)))&&((a.aP==b.aP)&&((a.bc==b.bc)&&((a.bu==b.bu)&&((((a.aF.aW.fX==b.aF.aW.fX)&&((a.aF.aW.fY==b.aF.aW.fY)&&((a.aF.aW.fZ==b.aF.aW.fZ)&&true)))&&(((a.aF.aN.fX==b.aF.aN.fX)&&((a.aF.aN.fY==b.aF.aN.fY)&&((a.aF.aN.fZ==b.aF.aN.fZ)&&true)))&&true))&&true))))),true):=by kernel_rfl
theorem eqE_53(a b:aH):wm prog .eql 53 (.d a.pd) (.d b.pd)=some (.bool ((a.aW==b.aW)&&((a.aN==b.aN)&&true)),true):=by kernel_rfl
theorem T_api_Span_inj:∀x y:ae,x.pd=y.pd->x=y:=by
  rintro⟨z1,z2⟩ ⟨z3,z4⟩ h
  cases h;rfl
def ext0:FuncId->Option pT:=fun _=>none
theorem k9{a0:Int}{r:Bool}(h:gx a0=some r):EvP prog aV ext0 90 [rI a0] [] (rB r,[]):=by
 refine Ev.body Z Tryz.func90 Z Zk<|gU Z<|sU<|sN<|gU Z<|mM Z<|sV (rB (a0 != a0))<|sA Z<|sN<|qR ?_
 exact oI h▸qD
theorem oi{a0:Int}{a1:Int}{r:Int}(h:fg a0 a1=some r):EvP prog aV ext0 41 [rI a0,rI a1] [] (rI r,[]):=by
 refine Ev.body Z Tryz.func41 Z Zk<|gU Z<|sV (r0)<|sN<|gU Z<|sM Z<|bE h fun x1 h1 h=>cD (k9 h1)<|sA Z<|sN<|gU Z<|sM Z<|bE h fun x2 h2 h=>cD (k9 h2)<|sA Z ?_
 refine sN<|qS<|gU Z<|sF h ?_ ?_<;>intro h
 ·refine sN<|cT<|qS<|gU Z<|sF h ?_ ?_<;>intro h
  ·refine sN<|cT<|gU Z<|sV (r0)<|sN<|qR ?_
   exact oI h▸qD
  refine sN<|cF<|qK<|gU Z<|sV (rI (-1))<|sN<|qR ?_
  exact oI h▸qD
 refine sN<|cF<|qK<|qS<|gU Z<|sF h ?_ ?_<;>intro h
 ·refine sN<|cT<|gU Z<|sV (rI 1)<|sN<|qR ?_
  exact oI h▸qD
 refine sN<|cF<|qK<|qS<|gU Z<|mM Z<|sF h ?_ ?_<;>intro h
 ·refine sN<|cT<|gU Z<|sV (rI (-1))<|sN<|qR ?_
  exact oI h▸qD
 refine sN<|cF<|qK<|qS<|gU Z<|mM Z<|sF h ?_ ?_<;>intro h
 ·refine sN<|cT<|gU Z<|sV (rI 1)<|sN<|qR ?_
  exact oI h▸qD
 refine sN<|cF<|qK<|gU Z<|sV (r0)<|sN<|qR ?_
 exact oI h▸qD
theorem nU{a0:ae}{a1:ae}{r:Int}(h:bW a0 a1=some r):EvP prog aV ext0 261 [.d (ae.pd a0),.d (ae.pd a1)] [] (rI r,[]):=by
 refine Ev.body Z Tryz.func261 Z Zk<|gU Z<|sB (.ptr 32 0) 32 (.var (ae.rc a0))<|sB (.ptr 48 0) 48 (.var (ae.rc a1))<|sV (r0)<|sN<|gU Z<|sV (.ptr 32 0)<|sL Z<|sV (.ptr 48 0)<|sL Z<|bE h fun x1 h1 h=>cD (oi h1)<|sA Z<|sN ?_
 refine qR ?_
 exact oI h▸qD
noncomputable def ext:FuncId->Option pT:=fun f=>if f=92 then some yz else if f=103 then some Aj else if f=165 then some zU else if f=54 then some Al else if f=260 then some (Ay 261 207 ae.pd bW)else if f=117 then some (u3 207 2 16)else if f=116 then some (u3 9 1 16)else if f=118 then some (u3 210 3 32)else if f=119 then some (u3 123 3 32)else if f=124 then some (wE 210 3 32)else none
theorem sort_260_261{l r:List ae}(h:vo bW l=some r):EvP prog aV ext 260 [.ref 0 0,.d (.raw (.func (.func 261) #[] #[]))] [.arr 0 207 (l.map ae.pd)] (.tup [],[.arr 0 207 (r.map ae.pd)]):=sort_ev rfl (sortD_of T_api_Span_inj h)
theorem oa{l r:List ae}(h:rb 16 l=some r):EvP prog aV ext 117 [rM ae.pd l] [] (.ref 0 0,[.arr 0 207 (r.map ae.pd)]):=wq (g:=ae.pd) rfl (fun _=>rfl) h
theorem clone_116{l r:List (List UInt8)}(h:rb 16 l=some r):EvP prog aV ext 116 [.d (.lst (l.map PD.str))] [] (.ref 0 0,[.arr 0 9 (r.map PD.str)]):=wq (g:=PD.str) rfl (fun _=>rfl) h
theorem oc{l r:List ak}(h:rb 32 l=some r):EvP prog aV ext 118 [rM ak.pd l] [] (.ref 0 0,[.arr 0 210 (r.map ak.pd)]):=wq (g:=ak.pd) rfl (fun _=>rfl) h
theorem clone_119{l r:List aB}(h:rb 32 l=some r):EvP prog aV ext 119 [rM aB.pd l] [] (.ref 0 0,[.arr 0 123 (r.map aB.pd)]):=wq (g:=aB.pd) rfl (fun _=>rfl) h
theorem insert_124{n:Int}{l m r:List ak}(h:insO 32 n l m=some r):EvP prog aV ext 124 [.ref 0 0,rI n,.ref 1 0] [.arr 0 210 (l.map ak.pd),.arr 0 210 (m.map ak.pd)] (.ref 0 1,[.arr 1 210 (r.map ak.pd),.dead]):=BD (g:=ak.pd) rfl (fun _=>rfl) h
theorem keep_New_ev{a0:(List Int)}{r:aq}(h:pn a0=some r):EvP prog aV ext 5 [rL a0] [] (.ptr 0 0,[.var (aq.rc r)]):=by
 refine Ev.body Z Tryz.func5 Z Zk<|gU Z<|sV (.d (.raw (.pointer none)))<|sN<|gU Z<|mM Z<|sE (rI (a0.length:Int)) (oM _ _)<|sV (rI (if(2000:Int)<(a0.length:Int)then(2000:Int)else(a0.length:Int)))<|bE h fun x1 h1 h=>WO.cutL (sz:=1) (g:=(PD.int .i64)) h1 (fun _=>Z) Z Z Z Z Z Z Z Z Z Z Z<|sV (.d (aq.pd (aq.mk x1 0)))<|sB (.ptr 144 0) 144 (.var [rL x1,r0])<|sA Z<|sN ?_
 refine qR ?_
 exact oI h▸qD
theorem Src_Raw_ev{d0:aq}{r:Int×aq}(h:Src_Raw d0=some r):EvP prog aV ext 25 [.ptr 0 0] [.var (aq.rc d0)] (rI r.1,[.var (aq.rc r.2)]):=by
 refine Ev.body Z Tryz.func25 Z Zk<|gU Z<|sV (r0)<|sN<|qS<|WC.lU Z Z<|sM Z<|sV (.ptr 0 0)<|sV (.ptr 0 1)<|sL Z<|sM Z<|sV (.ptr 0 0)<|sV (.ptr 0 0)<|sL Z<|sE (rI (d0.fL.length:Int)) (oM _ _) ?_
 refine sF h ?_ ?_<;>intro h
 ·refine sN<|sO<|cT<|gU Z<|sV (r0)<|sN<|qR ?_
  exact oI h▸qD
 refine sN<|sO<|cF<|qK<|gU Z<|sM Z<|sV (.ptr 0 0)<|sV (.ptr 0 1)<|sL Z<|sV (rI (rW (d0.fAt+(1:Int))))<|sV (.ptr 0 0)<|sV (.ptr 0 1)<|sS 0 (.var [rL d0.fL,rI (rW (d0.fAt+(1:Int)))])<|sN<|WC.lU Z Z<|sM Z ?_
 refine sV (.ptr 0 0)<|sV (.ptr 0 0)<|sL Z<|sM Z<|sV (.ptr 0 0)<|sV (.ptr 0 1)<|sL Z<|sV (rI (rW ((rW (d0.fAt+(1:Int)))-(1:Int))))<|bE h fun x2 h2 h=>eG h2 Z<|sC Z<|sA Z ?_
 refine sN<|sO<|qR ?_
 exact oI h▸qD
theorem keep_Mod_ev{a0:Int}{a1:Int}{r:Int}(h:kO a0 a1=some r):EvP prog aV ext 11 [rI a0,rI a1] [] (rI r,[]):=by
 refine Ev.body Z Tryz.func11 Z Zk<|gU Z<|sV (r0)<|sN<|qS<|gU Z<|sM Z<|sF h ?_ ?_<;>intro h
 ·refine sN<|cT<|gU Z<|sV (r0)<|sN<|qR ?_
  exact oI h▸qD
 refine sN<|cF<|qK<|gU Z<|mM Z<|bE h fun x2 h2 h=>WO.remG h2 Z Z Z Z Z Z<|sA Z<|sN<|qS<|gU Z<|sM Z<|sF h ?_ ?_<;>intro h
 ·refine sN<|cT<|WC.region Z Z<|mM Z<|sV (rI (rW (x2+a1)))<|sA Z<|sN<|gU Z<|sM Z<|sA Z<|sN<|qR ?_
  exact oI h▸qD
 refine sN<|cF<|qK<|gU Z<|sM Z<|sA Z<|sN<|qR ?_
 exact oI h▸qD
theorem cg{a1:Int}{d0:aq}{r:Int×aq}(h:ff a1 d0=some r):EvP prog aV ext 7 [.ptr 0 0,rI a1] [.var (aq.rc d0)] (rI r.1,[.var (aq.rc r.2)]):=by
 refine Ev.body Z Tryz.func7 Z Zk<|gU Z<|sV (r0)<|sN<|gU Z<|sM Z<|bE h fun x1 h1 h=>cR (rI x1.1) [(0,.var (aq.rc x1.2))] (Src_Raw_ev h1)<|sM Z<|bE h fun x2 h2 h=>cD (keep_Mod_ev h2)<|sA Z<|sN<|qR ?_
 exact oI h▸qD
theorem jH{a1:(List Int)}{d0:aq}{r:Int×aq}(h:jG a1 d0=some r):EvP prog aV ext 24 [.ptr 0 0,rL a1] [.var (aq.rc d0)] (rI r.1,[.var (aq.rc r.2)]):=by
 refine Ev.body Z Tryz.func24 Z Zk<|gU Z<|sV (r0)<|sN<|gU Z<|mM Z<|sM Z<|sE (rI (a1.length:Int)) (oM _ _)<|bE h fun x1 h1 h=>cR (rI x1.1) [(0,.var (aq.rc x1.2))] (cg h1)<|bE h fun x2 h2 h=>eG h2 Z<|sC Z<|sA Z ?_
 refine sN<|qR ?_
 exact oI h▸qD
theorem Src_Policy_ev{d0:aq}{r:aQ×aq}(h:my d0=some r):EvP prog aV ext 6 [.ptr 0 0] [.var (aq.rc d0)] (.d (aQ.pd r.1),[.var (aq.rc r.2)]):=by
 refine Ev.body Z Tryz.func6 Z Zk<|gU Z<|sB (.ptr 32 0) 32 (.var [.mo,r0,r0])<|sN<|gU Z<|sM Z<|sV (.d (.lst ([0,2,10,1000].map (PD.int .i64))))<|bE h fun x1 h1 h=>cR (rI x1.1) [(0,.var (aq.rc x1.2))] (jH h1)<|sM Z<|sV (.d (.lst ([0,0,50,500].map (PD.int .i64))))<|bE h fun x2 h2 h=>cR (rI x2.1) [(0,.var (aq.rc x2.2))] (jH h2)<|sV (.agg [.mo,rI x1.1,rI x2.1])<|sB (.ptr 48 0) 48 (.var [.mo,r0,r0]) ?_
 refine sS 48 (.var [.mo,rI x1.1,rI x2.1])<|sN<|qS<|gU Z<|sM Z<|bE h fun x3 h3 h=>cR (rI x3.1) [(0,.var (aq.rc x3.2))] (cg h3)<|sV (rI (rW ((1:Int)+x3.1)))<|sA Z<|sN<|bE h fun o19 ho19 h=>WC.block (WC.loop (WL.pJ ho19 (fun s=>gI 1 6 3 [(0,.ptr 0 0),(2,.ptr 32 0),(3,.ptr 48 0),(4,rI s.1)] [(0,.var [rL s.2.1,rI s.2.2.1]),(32,.var [.mo,r0,r0]),(48,.var [.ref 560 0,rI x1.1,rI x2.1]),(560,.arr 0 96 (s.2.2.2.map bD.pd))]) (fun o=>gX 0 1 6 6 [(2,.ptr 32 0),(3,.ptr 48 0)] [(0,.var [rL o.1,rI o.2.1]),(32,.var [.mo,r0,r0]),(48,.var [.ref 560 0,rI x1.1,rI x2.1]),(560,.arr 0 96 (o.2.2.map bD.pd))]) Z ?_ ?_))
 ·rintro⟨s4,s5,s6,s7⟩ R' B' q11 hI h
  refine qS<|gS Z hI<|sM Z<|sF h ?_ ?_<;>intro h
  ·refine sN<|cT<|qK<|qS<|qB<|WC.rC Z Z<|sV (.ptr 48 0)<|sL Z<|sM Z<|bE h fun x13 h13 h=>cR (rI x13.1) [(0,.var (aq.rc x13.2))] (cg h13)<|sV (rI (rW (x13.1-(100:Int))))<|sM Z<|bE h fun x14 h14 h=>cR (rI x14.1) [(0,.var (aq.rc x14.2))] (cg h14) ?_
   refine sV (rI (rW ((1:Int)+x14.1)))<|sM Z<|sV (.d (.lst ([0,10,100,10000].map (PD.int .i64))))<|bE h fun x15 h15 h=>cR (rI x15.1) [(0,.var (aq.rc x15.2))] (jH h15)<|sM Z<|sV (.d (.lst ([0,500,2000,100000].map (PD.int .i64))))<|bE h fun x16 h16 h=>cR (rI x16.1) [(0,.var (aq.rc x16.2))] (jH h16)<|sV (.d (bD.pd (bD.mk (rW (x13.1-(100:Int))) (rW ((1:Int)+x14.1)) x15.1 x16.1)))<|sV (.d (.lst ([(bD.mk (rW (x13.1-(100:Int))) (rW ((1:Int)+x14.1)) x15.1 x16.1)].map bD.pd)))<|bE h fun x17 h17 h=>aR h17 (fun _=>Z) Z<|sV (.ptr 48 0)<|sS 48 (.var [.ref 560 1,rI x1.1,rI x2.1]) ?_
   refine sN<|sO<|WC.region Z Z<|sM Z<|sV (rI (rW (s4-(1:Int))))<|sA Z<|sN ?_
   cases oI h
   exact⟨rfl,rfl⟩
  refine sN<|cF<|qX ?_
  cases oI h
  exact⟨nofun,rfl,rfl⟩
 intro e R' B' he hq
 obtain⟨rfl,hI⟩:=hq
 refine qE<|gS Z hI<|sV (.agg [.ref 560 0,rI x1.1,rI x2.1])<|sS 32 (.var [.ref 560 0,rI x1.1,rI x2.1])<|sN<|qR ?_
 exact oI h▸qD
theorem nz{a0:Int}{r:au}(h:fM a0=some r):EvP prog aV ext 81 [rI a0] [] (.d (au.pd r),[]):=by
 refine Ev.body Z Tryz.func81 Z Zk<|gU Z<|sB (.ptr 32 0) 32 (.var [rS [],rS [],rS [],rS []])<|sN<|gU Z<|sV (.d (.lst ([[83,49],[83,50],[83,51],[83,52],[83,53],[83,54]].map PD.str)))<|sM Z<|bE h fun x1 h1 h=>cD (keep_Mod_ev h1)<|bE h fun x2 h2 h=>eG h2 Z<|sC Z<|sV (.d (au.pd (au.mk [65,66] x2 [48,48] [66,72,90])))<|sS 32 (.var [rS [65,66],rS x2,rS [48,48],rS [66,72,90]])<|sN ?_
 refine qR ?_
 exact oI h▸qD
theorem Src_Place_ev{a1:Int}{d0:aq}{r:ai×aq}(h:n8 a1 d0=some r):EvP prog aV ext 82 [.ptr 0 0,rI a1] [.var (aq.rc d0)] (.d (ai.pd r.1),[.var (aq.rc r.2)]):=by
 refine Ev.body Z Tryz.func82 Z Zk<|gU Z<|sB (.ptr 64 0) 64 (.var [r0,r0,r0])<|sN<|gU Z<|mM Z<|sV (rI (rW ((2:Int)*a1)))<|sV (rI (rW ((rW ((2:Int)*a1))+(1:Int))))<|bE h fun x1 h1 h=>cR (rI x1.1) [(0,.var (aq.rc x1.2))] (cg h1)<|sM Z<|sV (rI (rW (x1.1-a1)))<|sM Z<|sM Z ?_
 refine sV (rI (rW ((2:Int)*a1)))<|sV (rI (rW ((rW ((2:Int)*a1))+(1:Int))))<|bE h fun x2 h2 h=>cR (rI x2.1) [(0,.var (aq.rc x2.2))] (cg h2)<|sM Z<|sV (rI (rW (x2.1-a1)))<|mM Z<|sV (rI (rW (a1+(1:Int))))<|bE h fun x3 h3 h=>cR (rI x3.1) [(0,.var (aq.rc x3.2))] (cg h3)<|sV (.d (ai.pd (ai.mk (rW (x1.1-a1)) (rW (x2.1-a1)) x3.1)))<|sS 64 (.var [rI (rW (x1.1-a1)),rI (rW (x2.1-a1)),rI x3.1])<|sN<|qR ?_
 exact oI h▸qD
theorem Src_Event_ev{a1:Int}{d0:aq}{r:av×aq}(h:n7 a1 d0=some r):EvP prog aV ext 34 [.ptr 0 0,rI a1] [.var (aq.rc d0)] (.agg (ag.rc r.1.ap++ .ref 1 0::aD.rc r.1.aa.ac++aH.rc r.1.aa.aA++[rI r.1.aa.bn]),[.var (aq.rc r.2),.arr 0 44 (r.1.aa.aX.map ag.pd)]):=by
 refine Ev.body Z Tryz.func34 Z Zk<|gU Z<|sB (.ptr 64 0) 64 (.var zZ1)<|sN<|gU Z<|sB (.ptr 80 0) 80 (.var zZ1)<|sN<|gU Z<|sM Z<|bE h fun x1 h1 h=>cR (rI x1.1) [(0,.var (aq.rc x1.2))] (cg h1)<|sV (rI (rW ((1000:Int)+x1.1)))<|sA Z<|sN<|qS ?_
 refine gU Z<|sV (r0)<|sN<|bE h fun o16 ho16 h=>WC.block (WC.loop (WL.pJ ho16 (fun s=>gI 1 34 4 [(0,.ptr 0 0),(1,rI a1),(4,.ptr 64 0),(5,.ptr 80 0),(6,rI (rW ((1000:Int)+x1.1))),(7,rI s.1)] [(0,.var [rL s.2.1,rI s.2.2.1]),(64,.var zZ1),(80,.var [rS [],rS [],rS [],rS [],r0,r0,r0,r0,r0,.ref 656 0,r0,r0,r0,r0,r0,r0,r0,r0,r0,r0,r0,r0,r0,r0,r0]),(656,.arr 0 44 (s.2.2.2.map ag.pd))]) (fun o=>gX 0 1 34 7 [(0,.ptr 0 0),(4,.ptr 64 0),(5,.ptr 80 0),(6,rI (rW ((1000:Int)+x1.1)))] [(0,.var [rL o.1,rI o.2.1]),(64,.var zZ1),(80,.var [rS [],rS [],rS [],rS [],r0,r0,r0,r0,r0,.ref 656 0,r0,r0,r0,r0,r0,r0,r0,r0,r0,r0,r0,r0,r0,r0,r0]),(656,.arr 0 44 (o.2.2.map ag.pd))]) Z ?_ ?_))
 ·rintro⟨s2,s3,s4,s5⟩ R' B' q9 hI h
  unfold lx at h
  refine qS<|gS Z hI<|mM Z<|bE h fun x10 h10 h=>cR (rI x10.1) [(0,.var (aq.rc x10.2))] (cg h10)<|sV (rI (rW ((1:Int)+x10.1)))<|sF h ?_ ?_<;>intro h
  ·refine sN<|cT<|qK<|qS<|qB<|WC.rC Z Z<|sV (.ptr 80 9)<|sV (.ptr 80 9)<|sL Z<|sM Z<|bE h fun x12 h12 h=>cD (nz h12)<|mM Z<|sV (rI (rW ((10:Int)*a1))) ?_
   refine sV (rI (rW ((rW ((1000:Int)+x1.1))+(rW ((10:Int)*a1)))))<|mM Z<|sV (rI (rW ((10:Int)*a1)))<|sV (rI (rW ((rW ((1000:Int)+x1.1))+(rW ((10:Int)*a1)))))<|mM Z<|sV (rI (rW ((10:Int)*a1)))<|sV (rI (rW ((rW ((1000:Int)+x1.1))+(rW ((10:Int)*a1)))))<|sM Z<|bE h fun x13 h13 h=>cR (rI x13.1) [(0,.var (aq.rc x13.2))] (cg h13)<|sV (rI (rW ((rW ((rW ((1000:Int)+x1.1))+(rW ((10:Int)*a1))))+x13.1)))<|sM Z<|sG (.d (ag.pd (ag.mk x12 (rW ((rW ((1000:Int)+x1.1))+(rW ((10:Int)*a1)))) (rW ((rW ((1000:Int)+x1.1))+(rW ((10:Int)*a1)))) (rW ((rW ((rW ((1000:Int)+x1.1))+(rW ((10:Int)*a1))))+x13.1)) a1 0))) ?_
   refine sG (.d (.lst ([(ag.mk x12 (rW ((rW ((1000:Int)+x1.1))+(rW ((10:Int)*a1)))) (rW ((rW ((1000:Int)+x1.1))+(rW ((10:Int)*a1)))) (rW ((rW ((rW ((1000:Int)+x1.1))+(rW ((10:Int)*a1))))+x13.1)) a1 0)].map ag.pd)))<|bE h fun x14 h14 h=>aR h14 (fun _=>Z) Z<|sV (.ptr 80 9)<|sV (.ptr 80 9)<|sS 80 (.var [rS [],rS [],rS [],rS [],r0,r0,r0,r0,r0,.ref 656 1,r0,r0,r0,r0,r0,r0,r0,r0,r0,r0,r0,r0,r0,r0,r0]) ?_
   refine sN<|sO<|WC.region Z Z<|sM Z<|sV (rI (rW (s2+(1:Int))))<|sA Z<|sN ?_
   cases oI h
   exact⟨rfl,rfl⟩
  refine sN<|cF<|qX ?_
  cases oI h
  exact⟨nofun,rfl,rfl⟩
 intro e R' B' he hq
 obtain⟨rfl,hI⟩:=hq
 refine qE<|gS Z hI<|sV (.ptr 80 9)<|sV (.ptr 80 9)<|sL Z<|bE h fun x18 h18 h=>WO.tz h18 Z Z Z Z Z Z Z Z<|bE h fun x19 h19 h=>WO.sn h19 Z Z Z Z Z Z<|sV (.ptr 80 0)<|sH 80 (.var (ag.rc x19++[.ref 656 0,r0,r0,r0,r0,r0,r0,r0,r0,r0,r0,r0,r0,r0,r0,r0]))<|sN<|gU Z<|sM Z<|bE h fun x20 h20 h=>?_
 refine cR (.d (ai.pd x20.1)) [(0,.var (aq.rc x20.2))] (Src_Place_ev h20)<|mM Z<|bE h fun x21 h21 h=>cR (rI x21.1) [(0,.var (aq.rc x21.2))] (cg h21)<|sV (rI (rW ((rW ((1000:Int)+x1.1))-x21.1)))<|sM Z<|sV (.d (.lst ([0,0,5,500].map (PD.int .i64))))<|bE h fun x22 h22 h=>cR (rI x22.1) [(0,.var (aq.rc x22.2))] (jH h22)<|sG (.d (aD.pd (aD.mk x20.1 (rW ((rW ((1000:Int)+x1.1))-x21.1)) x22.1 0 (aY.mk (ai.mk 0 0 0) (ai.mk 0 0 0)))))<|sV (.ptr 80 9)<|sV (.ptr 80 10)<|sH 80 (.var (ag.rc x19++ .ref 656 0::ai.rc x20.1++[rI (rW ((rW ((1000:Int)+x1.1))-x21.1)),rI x22.1,r0,r0,r0,r0,r0,r0,r0,r0,r0,r0]))<|sN ?_
 refine gU Z<|sV (.ptr 80 9)<|sV (.ptr 80 10)<|sV (.ptr 80 10)<|sV (.d (ai.pd x20.1))<|sV (.ptr 80 9)<|sV (.ptr 80 10)<|sV (.ptr 80 10)<|sV (.d (ai.pd x20.1))<|sG (.d (aY.pd (aY.mk x20.1 x20.1)))<|sV (.ptr 80 9)<|sV (.ptr 80 10)<|sV (.ptr 80 16)<|sH 80 (.var (ag.rc x19++ .ref 656 0::ai.rc x20.1++rI (rW ((rW ((1000:Int)+x1.1))-x21.1))::rI x22.1::r0::ai.rc x20.1++ai.rc x20.1++[r0,r0,r0]))<|sN ?_
 refine gU Z<|sM Z<|bE h fun x23 h23 h=>cR (rI x23.1) [(0,.var (aq.rc x23.2))] (cg h23)<|sV (.ptr 80 9)<|sV (.ptr 80 24)<|sS 80 (.var (ag.rc x19++ .ref 656 0::ai.rc x20.1++rI (rW ((rW ((1000:Int)+x1.1))-x21.1))::rI x22.1::r0::ai.rc x20.1++ai.rc x20.1++[r0,r0,rI x23.1]))<|sN<|qS<|gU Z<|sV (.ptr 80 9)<|sV (.ptr 80 24)<|sL Z<|sF h ?_ ?_<;>intro h
 ·refine sN<|cT<|gU Z<|sM Z<|bE h fun x25 h25 h=>cR (rI x25.1) [(0,.var (aq.rc x25.2))] (cg h25)<|sV (.ptr 80 9)<|sV (.ptr 80 22)<|sV (.ptr 80 22)<|sS 80 (.var (ag.rc x19++ .ref 656 0::ai.rc x20.1++rI (rW ((rW ((1000:Int)+x1.1))-x21.1))::rI x22.1::r0::ai.rc x20.1++ai.rc x20.1++[rI x25.1,r0,rI x23.1]))<|sN<|WC.rC Z Z<|sV (.ptr 80 9)<|sV (.ptr 80 22)<|sV (.ptr 80 22) ?_
  refine sL Z<|sM Z<|bE h fun x26 h26 h=>cR (rI x26.1) [(0,.var (aq.rc x26.2))] (cg h26)<|sV (rI (rW (x25.1+x26.1)))<|sV (.ptr 80 9)<|sV (.ptr 80 22)<|sV (.ptr 80 23)<|sS 80 (.var (ag.rc x19++ .ref 656 0::ai.rc x20.1++rI (rW ((rW ((1000:Int)+x1.1))-x21.1))::rI x22.1::r0::ai.rc x20.1++ai.rc x20.1++[rI x25.1,rI (rW (x25.1+x26.1)),rI x23.1])) ?_
  refine sN<|sO<|gU Z<|sV (.agg (ag.rc x19++ .ref 656 0::ai.rc x20.1++rI (rW ((rW ((1000:Int)+x1.1))-x21.1))::rI x22.1::r0::ai.rc x20.1++ai.rc x20.1++[rI x25.1,rI (rW (x25.1+x26.1)),rI x23.1]))<|sH 64 (.var (ag.rc x19++ .ref 656 0::ai.rc x20.1++rI (rW ((rW ((1000:Int)+x1.1))-x21.1))::rI x22.1::r0::ai.rc x20.1++ai.rc x20.1++[rI x25.1,rI (rW (x25.1+x26.1)),rI x23.1]))<|sN<|qR ?_
  cases oI h
  exact qG
 refine sN<|cF<|qK<|gU Z<|sV (.agg (ag.rc x19++ .ref 656 0::ai.rc x20.1++rI (rW ((rW ((1000:Int)+x1.1))-x21.1))::rI x22.1::r0::ai.rc x20.1++ai.rc x20.1++[r0,r0,rI x23.1]))<|sH 64 (.var (ag.rc x19++ .ref 656 0::ai.rc x20.1++rI (rW ((rW ((1000:Int)+x1.1))-x21.1))::rI x22.1::r0::ai.rc x20.1++ai.rc x20.1++[r0,r0,rI x23.1]))<|sN<|qR ?_
 cases oI h
 exact qG
theorem Src_Events_ev{a1:Int}{d0:aq}{r:(List av)×aq}(h:mw a1 d0=some r):EvP prog aV ext 9 [.ptr 0 0,rI a1] [.var (aq.rc d0)] (rM av.pd r.1,[.var (aq.rc r.2)]):=by
 refine Ev.body Z Tryz.func9 Z Zk<|gU Z<|sV .mo<|sN<|gU Z<|sV .mo<|sN<|qS<|gU Z<|sV (r0)<|sN<|bE h fun o37 ho37 h=>WC.block (WC.loop (WL.pJ ho37 (fun s=>gI 1 9 3 [(0,.ptr 0 0),(1,rI a1),(5,.ref 1344 0),(6,rI s.1)] [(0,.var [rL s.2.1,rI s.2.2.1]),(1344,.arr 0 57 (s.2.2.2.map av.pd))]) (fun o=>gX 0 1 9 16 [(5,.ref 1344 0)] [(0,.var [rL o.2.1,rI o.2.2]),(1344,.arr 0 57 (o.1.map av.pd))]) Z ?_ ?_))
 ·rintro⟨s1,s2,s3,s4⟩ R' B' q8 hI h
  refine qS<|gS Z hI<|mM Z<|sF h ?_ ?_<;>intro h
  ·refine sN<|cT<|qK<|qS<|qB<|qS<|gU Z<|sM Z<|bE h fun x10 h10 h=>cR (rI x10.1) [(0,.var (aq.rc x10.2))] (cg h10)<|sF h ?_ ?_<;>intro h
   ·refine sN<|cT<|qX<|qE<|WC.region Z Z<|sM Z<|sV (rI (rW (s1+(1:Int))))<|sA Z<|sN ?_
    cases oI h
    exact⟨rfl,rfl⟩
   refine sN<|cF<|qK<|gU Z<|sM Z<|bE h fun x12 h12 h=>cR (.agg (ag.rc x12.1.ap++ .ref 304 0::aD.rc x12.1.aa.ac++aH.rc x12.1.aa.aA++[rI x12.1.aa.bn])) [(0,.var (aq.rc x12.2)),(304,.arr 0 44 (x12.1.aa.aX.map ag.pd))] (Src_Event_ev h12)<|sB (.ptr 112 0) 112 (.var zZ1)<|sH 112 (.var (ag.rc x12.1.ap++ .ref 304 0::aD.rc x12.1.aa.ac++aH.rc x12.1.aa.aA++[rI x12.1.aa.bn]))<|sN<|qS<|gU Z<|sV (.ptr 112 9)<|sV (.ptr 112 9)<|sL Z ?_
   refine WO.tD Z Z Z Z Z Z Z Z Z<|sV (r0)<|sN<|bE h fun o31 ho31 h=>WC.block (WC.loop (WL.pJ ho31 (fun s=>gI 1 9 8 [(0,.ptr 0 0),(1,rI a1),(5,.ref 1344 0),(6,rI s1),(7,.ptr 112 0),(23,rI (x12.1.aa.aX.length:Int)),(24,rI s.1)] [(0,.var (aq.rc x12.2)),(112,.var (ag.rc x12.1.ap++ .ref 304 0::aD.rc x12.1.aa.ac++aH.rc x12.1.aa.aA++[rI x12.1.aa.bn])),(304,.arr 0 44 (s.2.map ag.pd)),(1344,.arr 0 57 (s4.map av.pd))]) (fun o=>gX 2 1 9 13 [(0,.ptr 0 0),(1,rI a1),(5,.ref 1344 0),(6,rI o.1),(7,.ptr 112 0)] [(0,.var (aq.rc x12.2)),(112,.var (ag.rc x12.1.ap++rM ag.pd o.2.2::aD.rc x12.1.aa.ac++aH.rc x12.1.aa.aA++[rI x12.1.aa.bn])),(1344,.arr 0 57 (o.2.1.map av.pd))]) Z ?_ ?_))
   ·rintro⟨s13,s14⟩ R' B' q18 hI h
    refine gS Z hI<|sF h ?_ ?_<;>intro h
    ·refine sN<|qS<|cT<|qK<|qS<|qB<|gU Z<|sM Z<|sA Z<|sN<|gU Z<|sV (.ptr 112 9)<|sV (.ptr 112 9)<|sL Z<|sM Z ?_
     refine bE h fun x21 h21 h=>WO.tz h21 Z Z Z Z Z Z Z Z<|sA Z<|sN<|WC.region Z Z<|mM Z<|mM Z<|sM Z<|sV (rI (rW ((400:Int)*s1)))<|sV (rI (rW ((1000:Int)+(rW ((400:Int)*s1)))))<|sM Z<|sV (rI (rW ((rW ((1000:Int)+(rW ((400:Int)*s1))))+s13)))<|sM Z ?_
     refine sV (rI (rW ((400:Int)*s1)))<|sV (rI (rW ((1000:Int)+(rW ((400:Int)*s1)))))<|sM Z<|sV (rI (rW ((rW ((1000:Int)+(rW ((400:Int)*s1))))+s13)))<|sM Z<|sV (rI (rW ((400:Int)*s1)))<|sV (rI (rW ((1000:Int)+(rW ((400:Int)*s1)))))<|sM Z<|sV (rI (rW ((rW ((1000:Int)+(rW ((400:Int)*s1))))+s13)))<|sV (rI (rW ((rW ((rW ((1000:Int)+(rW ((400:Int)*s1))))+s13))+(2:Int))))<|sV (.elt 304 0 (s13).toNat 0)<|sV (.elt 304 0 (s13).toNat 4)<|bE h fun x22 h22 h=>WO.yD (g:=ag.pd) (u:=[]) (sz:=1) h22 (fun _=>Z) (fun _=>Nat.le_of_ble_eq_true Z) Z Z Z Z Z Z Z Z Z Z Z<|sV (.elt 304 0 (s13).toNat 0) ?_
     refine sV (.elt 304 0 (s13).toNat 5)<|bE h fun x24 h24 h=>WO.yD (g:=ag.pd) (u:=[]) (sz:=1) h24 (fun _=>Z) (fun _=>Nat.le_of_ble_eq_true Z) Z Z Z Z Z Z Z Z Z Z Z<|sV (.elt 304 0 (s13).toNat 0)<|sV (.elt 304 0 (s13).toNat 6)<|bE h fun x26 h26 h=>WO.yD (g:=ag.pd) (u:=[]) (sz:=1) h26 (fun _=>Z) (fun _=>Nat.le_of_ble_eq_true Z) Z Z Z Z Z Z Z Z Z Z Z<|sV (.elt 304 0 (s13).toNat 0)<|sV (.elt 304 0 (s13).toNat 7)<|bE h fun x28 h28 h=>WO.yD (g:=ag.pd) (u:=[]) (sz:=1) h28 (fun _=>Z) (fun _=>Nat.le_of_ble_eq_true Z) Z Z Z Z Z Z Z Z Z Z Z<|sN<|WC.region Z Z<|sV (rI (rW (s13+(1:Int))))<|sM Z ?_
     refine sN ?_
     cases oI h
     exact⟨rfl,rfl⟩
    refine sN<|qS<|cF<|qX ?_
    cases oI h
    exact⟨nofun,rfl,rfl⟩
   intro e R' B' he hq
   obtain⟨rfl,hI⟩:=hq
   refine qE<|WC.lU hI Z<|sV (.ptr 112 9)<|sV (.ptr 112 9)<|sL Z<|sM Z<|bE h fun x32 h32 h=>cR (rI x32.1) [(0,.var (aq.rc x32.2))] (cg h32)<|sV (.ptr 112 9)<|sV (.ptr 112 9)<|sL Z<|sE (rI (o31.2.2.length:Int)) (oM _ _)<|sV (rI (rW ((o31.2.2.length:Int)-(1:Int))))<|sV (rI (if(rW ((o31.2.2.length:Int)-(1:Int)))<x32.1 then(rW ((o31.2.2.length:Int)-(1:Int)))else x32.1))<|bE h fun x33 h33 h=>?_
   refine WO.cutL (sz:=9) (g:=ag.pd) h33 (fun _=>Z) Z Z Z Z Z Z Z Z Z Z Z<|sV (.ptr 112 9)<|sV (.ptr 112 9)<|sS 112 (.var (ag.rc x12.1.ap++rM ag.pd x33::aD.rc x12.1.aa.ac++aH.rc x12.1.aa.aA++[rI x12.1.aa.bn])) ?_
   refine sN<|sO<|gU Z<|sV (.ptr 112 9)<|sV (.ptr 112 9)<|sL Z<|bE h fun x34 h34 h=>eG h34 Z<|sV (.d (ag.pd x34))<|sV (.ptr 112 0)<|sH 112 (.var (ag.rc x34++rM ag.pd x33::aD.rc x12.1.aa.ac++aH.rc x12.1.aa.aA++[rI x12.1.aa.bn]))<|sN<|WC.region Z Z<|sM Z<|sV (.d (av.pd (av.mk x34 (az.mk x33 x12.1.aa.ac x12.1.aa.aA x12.1.aa.bn))))<|sG (.d (.lst ([(av.mk x34 (az.mk x33 x12.1.aa.ac x12.1.aa.aA x12.1.aa.bn))].map av.pd))) ?_
   refine bE h fun x35 h35 h=>aR h35 (fun _=>Z) Z<|sA Z<|sN<|WC.region Z Z<|sM Z<|sV (rI (rW (o31.1+(1:Int))))<|sA Z<|sN ?_
   cases oI h
   exact⟨rfl,rfl⟩
  refine sN<|cF<|qX ?_
  cases oI h
  exact⟨nofun,rfl,rfl⟩
 intro e R' B' he hq
 obtain⟨rfl,hI⟩:=hq
 refine qE<|gS Z hI<|sM Z<|sA Z<|sN<|qR ?_
 exact oI h▸qD
theorem gK{a0:Int}{r:Bool}(h:eX a0=some r):EvP prog aV ext 217 [rI a0] [] (rB r,[]):=by
 refine Ev.body Z Tryz.func217 Z Zk<|gU Z<|sU<|sN<|gU Z<|sM Z<|sF h ?_ ?_<;>intro h
 ·refine mM Z<|sV (rB (decide (a0<=(9007199254740992:Int))))<|sV (rB (decide (a0<=(9007199254740992:Int))))<|sA Z<|sN<|qR ?_
  exact oI h▸qD
 refine sM Z<|sK<|sK<|sU<|sA Z<|sN<|qR ?_
 exact oI h▸qD
theorem iD{a0:aQ}{r:Int}(h:eL a0=some r):EvP prog aV ext 167 [.d (aQ.pd a0)] [] (rI r,[]):=by
 refine Ev.body Z Tryz.func167 Z Zk<|gU Z<|sB (.ptr 16 0) 16 (.var (aQ.rc a0))<|sV (r0)<|sN<|qS<|gU Z<|sV (.ptr 16 0)<|sL Z<|sE (rI (a0.ce.length:Int)) (oM _ _)<|sF h ?_ ?_<;>intro h
 ·refine sM Z<|k3<|sK<|sT<|sM Z<|k3<|sK<|sT<|sM Z<|sK<|sK ?_
  refine sK<|sK<|sT<|sN<|cT<|gU Z<|sV (rI 27)<|sN<|qR ?_
  exact oI h▸qD
 refine sM Z<|sV (.ptr 16 0)<|sL Z<|sE (rI (a0.ce.length:Int)) (oM _ _)<|sV (rB (decide ((a0.ce.length:Int)>(8:Int))))<|sF h ?_ ?_<;>intro h
 ·refine sM Z<|k3<|sK<|sT<|sM Z<|k3<|sK<|sT<|sN<|cT<|gU Z ?_
  refine sV (rI 27)<|sN<|qR ?_
  exact oI h▸qD
 refine sM Z<|sV (.ptr 16 1)<|sL Z<|bE h fun x3 h3 h=>cD (gK h3)<|sV (rB (!x3))<|sF h ?_ ?_<;>intro h
 ·refine sM Z<|k3<|sK<|sT<|sN<|cT<|gU Z<|sV (rI 27)<|sN<|qR ?_
  exact oI h▸qD
 refine sM Z<|sV (.ptr 16 2)<|sL Z<|bE h fun x5 h5 h=>cD (gK h5)<|sV (rB (!x5))<|sF h ?_ ?_<;>intro h
 ·refine sN<|cT<|gU Z<|sV (rI 27)<|sN<|qR ?_
  exact oI h▸qD
 refine sN<|cF<|qK<|qS<|gU Z<|sV (r0)<|sN<|bE h fun o20 ho20 h=>WC.block (WC.loop (WL.pJ ho20 (fun s=>gI 0 167 4 [(1,.ptr 16 0),(3,rI s)] [(16,.var (aQ.rc a0))]) (fun o=>match o with| .inl y=>gX 0 0 167 9 [] []| .inr r=>gF 167 Tryz.f167 0 (rI r,[])) Z ?_ ?_))
 ·rintro s7 R' B' q8 hI h
  refine qS<|gS Z hI<|sM Z<|sV (.ptr 16 0)<|sL Z<|sE (rI (a0.ce.length:Int)) (oM _ _)<|sF h ?_ ?_<;>intro h
  ·refine sN<|cT<|qK<|qS<|qB<|gU Z<|sV (.ptr 16 0)<|sL Z<|sM Z<|bE h fun x10 h10 h=>eG h10 Z<|sV (.d (bD.pd x10))<|sB (.ptr 64 0) 64 (.var [r0,r0,r0,r0])<|sS 64 (.var (bD.rc x10))<|sN ?_
   refine gU Z<|sV (.ptr 64 0)<|sL Z<|sF h ?_ ?_<;>intro h
   ·refine sM Z<|k3<|sT<|sM Z<|k3<|sT<|sM Z<|k3<|sT ?_
    refine sM Z<|k3<|sK<|sT<|sM Z<|k3<|sK<|sT<|sN<|cT<|gU Z ?_
    refine sV (rI 27)<|sN<|qR ?_
    cases oI h
    exact⟨nofun,rfl,rfl⟩
   refine sM Z<|sV (.ptr 64 0)<|sL Z<|sV (rB (decide (x10.aA>(2000:Int))))<|sF h ?_ ?_<;>intro h
   ·refine sM Z<|k3<|sT<|sM Z<|k3<|sT<|sM Z<|k3<|sK ?_
    refine sT<|sM Z<|k3<|sK<|sT<|sN<|cT<|gU Z<|sV (rI 27)<|sN<|qR ?_
    cases oI h
    exact⟨nofun,rfl,rfl⟩
   refine sM Z<|sV (.ptr 64 1)<|sL Z<|sV (rB (decide (x10.aX<(1:Int))))<|sF h ?_ ?_<;>intro h
   ·refine sM Z<|k3<|sT<|sM Z<|k3<|sK<|sT<|sM Z<|sK<|sK<|sK ?_
    refine sK<|sT<|sN<|cT<|gU Z<|sV (rI 27)<|sN<|qR ?_
    cases oI h
    exact⟨nofun,rfl,rfl⟩
   refine sM Z<|sV (.ptr 64 1)<|sL Z<|sV (rB (decide (x10.aX>(64:Int))))<|sF h ?_ ?_<;>intro h
   ·refine sM Z<|k3<|sK<|sT<|sM Z<|k3<|sK<|sT<|sN<|cT<|gU Z ?_
    refine sV (rI 27)<|sN<|qR ?_
    cases oI h
    exact⟨nofun,rfl,rfl⟩
   refine sM Z<|sV (.ptr 64 2)<|sL Z<|bE h fun x15 h15 h=>cD (gK h15)<|sV (rB (!x15))<|sF h ?_ ?_<;>intro h
   ·refine sM Z<|k3<|sK<|sT<|sN<|cT<|gU Z<|sV (rI 27)<|sN<|qR ?_
    cases oI h
    exact⟨nofun,rfl,rfl⟩
   refine sM Z<|sV (.ptr 64 3)<|sL Z<|bE h fun x17 h17 h=>cD (gK h17)<|sV (rB (!x17))<|sF h ?_ ?_<;>intro h
   ·refine sN<|cT<|gU Z<|sV (rI 27)<|sN<|qR ?_
    cases oI h
    exact⟨nofun,rfl,rfl⟩
   refine sN<|cF<|qK<|WC.region Z Z<|sM Z<|sV (rI (rW (s7+(1:Int))))<|sA Z<|sN ?_
   cases oI h
   exact⟨rfl,rfl⟩
  refine sN<|cF<|qX ?_
  cases oI h
  exact⟨nofun,rfl,rfl⟩
 intro e R' B' he hq
 rcases o20 with y21|r22
 ·obtain⟨rfl,hI⟩:=hq
  refine qE<|gS Z hI<|sV (r0)<|sN<|qR ?_
  exact oI h▸qD
 obtain⟨rfl,hf⟩:=hq
 cases oI h
 exact hf
theorem ref36_Valid_ev{a0:(List aM)}{r:Bool}(h:ll a0=some r):EvP prog aV ext 168 [rM aM.pd a0] [] (rB r,[]):=by
 refine Ev.body Z Tryz.func168 Z Zk<|gU Z<|sU<|sN<|qS<|gU Z<|sV (r0)<|sN<|bE h fun o37 ho37 h=>WC.block (WC.loop (WL.pJ ho37 (fun s=>gI 0 168 2 [(0,rM aM.pd a0),(3,rI s)] []) (fun o=>match o with| .inl y=>gX 0 0 168 11 [(0,rM aM.pd a0)] []| .inr r=>gF 168 Tryz.f168 0 (rB r,[])) Z ?_ ?_))
 ·rintro s1 R' B' q2 hI h
  refine qS<|gS Z hI<|mM Z<|sE (rI (a0.length:Int)) (oM _ _)<|sF h ?_ ?_<;>intro h
  ·refine sN<|cT<|qK<|qS<|qB<|WC.join (α:=Unit) (fun x R' B'=>p6 prog 0 (A R' B') (aV.at_ 168 0 6)=some (A [(0,rM aM.pd a0),(3,rI s1)] [])) (fun x=>fm s1 a0=some q2) ?_ ?_
   ·refine WC.lU Z Z<|mM Z<|bE h fun x20 h20 h=>eG h20 Z<|sV (.cptr [.int .i64 x20.fID,.bool x20.bA,.str x20.ap.ar.aT,.str x20.ap.ar.aU,.str x20.ap.ar.ac,.str x20.ap.ar.aS,.int .i64 x20.ap.aP,.int .i64 x20.ap.aZ,.int .i64 x20.ap.bg,.int .i64 x20.ap.aI,.int .i64 x20.ap.aL,.int .i64 x20.bw,.str x20.ah.ap.ar.aT,.str x20.ah.ap.ar.aU,.str x20.ah.ap.ar.ac,.str x20.ah.ap.ar.aS,.int .i64 x20.ah.ap.aP,.int .i64 x20.ah.ap.aZ,.int .i64 x20.ah.ap.bg,.int .i64 x20.ah.ap.aI,.int .i64 x20.ah.ap.aL,.lst (x20.ah.aa.aX.map ag.pd),.int .i64 x20.ah.aa.ac.aO.fX,.int .i64 x20.ah.aa.ac.aO.fY,.int .i64 x20.ah.aa.ac.aO.fZ,.int .i64 x20.ah.aa.ac.aP,.int .i64 x20.ah.aa.ac.bc,.int .i64 x20.ah.aa.ac.bu,.int .i64 x20.ah.aa.ac.aF.aW.fX,.int .i64 x20.ah.aa.ac.aF.aW.fY,.int .i64 x20.ah.aa.ac.aF.aW.fZ,.int .i64 x20.ah.aa.ac.aF.aN.fX,.int .i64 x20.ah.aa.ac.aF.aN.fY,.int .i64 x20.ah.aa.ac.aF.aN.fZ,.int .i64 x20.ah.aa.aA.aW,.int .i64 x20.ah.aa.aA.aN,.int .i64 x20.ah.aa.bn,.int .i64 x20.fAt])<|sC Z<|sF h ?_ ?_<;>intro h
    ·refine sM Z<|k3<|k3<|sT<|sM Z<|k3<|sK<|sK<|sK ?_
     refine k3<|k3<|k3<|sK<|sT<|sM Z<|sK<|sK<|sK ?_
     refine k3<|sT<|sM Z<|k3<|k3<|sT ?_
     refine sN<|sO<|cT<|gU Z<|sU<|sN<|qR ?_
     cases oI h
     exact⟨nofun,rfl,rfl⟩
    refine mM Z<|sM Z<|bE h fun x22 h22 h=>eG h22 Z<|sV (.cptr [.int .i64 x22.fID,.bool x22.bA,.str x22.ap.ar.aT,.str x22.ap.ar.aU,.str x22.ap.ar.ac,.str x22.ap.ar.aS,.int .i64 x22.ap.aP,.int .i64 x22.ap.aZ,.int .i64 x22.ap.bg,.int .i64 x22.ap.aI,.int .i64 x22.ap.aL,.int .i64 x22.bw,.str x22.ah.ap.ar.aT,.str x22.ah.ap.ar.aU,.str x22.ah.ap.ar.ac,.str x22.ah.ap.ar.aS,.int .i64 x22.ah.ap.aP,.int .i64 x22.ah.ap.aZ,.int .i64 x22.ah.ap.bg,.int .i64 x22.ah.ap.aI,.int .i64 x22.ah.ap.aL,.lst (x22.ah.aa.aX.map ag.pd),.int .i64 x22.ah.aa.ac.aO.fX,.int .i64 x22.ah.aa.ac.aO.fY,.int .i64 x22.ah.aa.ac.aO.fZ,.int .i64 x22.ah.aa.ac.aP,.int .i64 x22.ah.aa.ac.bc,.int .i64 x22.ah.aa.ac.bu,.int .i64 x22.ah.aa.ac.aF.aW.fX,.int .i64 x22.ah.aa.ac.aF.aW.fY,.int .i64 x22.ah.aa.ac.aF.aW.fZ,.int .i64 x22.ah.aa.ac.aF.aN.fX,.int .i64 x22.ah.aa.ac.aF.aN.fY,.int .i64 x22.ah.aa.ac.aF.aN.fZ,.int .i64 x22.ah.aa.aA.aW,.int .i64 x22.ah.aa.aA.aN,.int .i64 x22.ah.aa.bn,.int .i64 x22.fAt])<|sC Z<|sV (rB (decide (x22.fID>=(1000:Int))))<|sF h ?_ ?_<;>intro h
    ·refine sM Z<|k3<|k3<|k3<|k3<|sK<|sK ?_
     refine sK<|sK<|sT<|sM Z<|k3<|k3<|sT<|sM Z<|sK<|sK<|sK ?_
     refine k3<|sT ?_
     refine sN<|sO<|cT<|gU Z<|sU<|sN<|qR ?_
     cases oI h
     exact⟨nofun,rfl,rfl⟩
    refine mM Z<|sF h ?_ ?_<;>intro h
    ·refine mM Z<|sM Z<|bE h fun x25 h25 h=>eG h25 Z<|sV (.cptr [.int .i64 x25.fID,.bool x25.bA,.str x25.ap.ar.aT,.str x25.ap.ar.aU,.str x25.ap.ar.ac,.str x25.ap.ar.aS,.int .i64 x25.ap.aP,.int .i64 x25.ap.aZ,.int .i64 x25.ap.bg,.int .i64 x25.ap.aI,.int .i64 x25.ap.aL,.int .i64 x25.bw,.str x25.ah.ap.ar.aT,.str x25.ah.ap.ar.aU,.str x25.ah.ap.ar.ac,.str x25.ah.ap.ar.aS,.int .i64 x25.ah.ap.aP,.int .i64 x25.ah.ap.aZ,.int .i64 x25.ah.ap.bg,.int .i64 x25.ah.ap.aI,.int .i64 x25.ah.ap.aL,.lst (x25.ah.aa.aX.map ag.pd),.int .i64 x25.ah.aa.ac.aO.fX,.int .i64 x25.ah.aa.ac.aO.fY,.int .i64 x25.ah.aa.ac.aO.fZ,.int .i64 x25.ah.aa.ac.aP,.int .i64 x25.ah.aa.ac.bc,.int .i64 x25.ah.aa.ac.bu,.int .i64 x25.ah.aa.ac.aF.aW.fX,.int .i64 x25.ah.aa.ac.aF.aW.fY,.int .i64 x25.ah.aa.ac.aF.aW.fZ,.int .i64 x25.ah.aa.ac.aF.aN.fX,.int .i64 x25.ah.aa.ac.aF.aN.fY,.int .i64 x25.ah.aa.ac.aF.aN.fZ,.int .i64 x25.ah.aa.aA.aW,.int .i64 x25.ah.aa.aA.aN,.int .i64 x25.ah.aa.bn,.int .i64 x25.fAt])<|sC Z<|mM Z<|sV (rI (rW (s1-(1:Int))))<|bE h fun x26 h26 h=>eG h26 Z<|sV (.cptr [.int .i64 x26.fID,.bool x26.bA,.str x26.ap.ar.aT,.str x26.ap.ar.aU,.str x26.ap.ar.ac,.str x26.ap.ar.aS,.int .i64 x26.ap.aP,.int .i64 x26.ap.aZ,.int .i64 x26.ap.bg,.int .i64 x26.ap.aI,.int .i64 x26.ap.aL,.int .i64 x26.bw,.str x26.ah.ap.ar.aT,.str x26.ah.ap.ar.aU,.str x26.ah.ap.ar.ac,.str x26.ah.ap.ar.aS,.int .i64 x26.ah.ap.aP,.int .i64 x26.ah.ap.aZ,.int .i64 x26.ah.ap.bg,.int .i64 x26.ah.ap.aI,.int .i64 x26.ah.ap.aL,.lst (x26.ah.aa.aX.map ag.pd),.int .i64 x26.ah.aa.ac.aO.fX,.int .i64 x26.ah.aa.ac.aO.fY,.int .i64 x26.ah.aa.ac.aO.fZ,.int .i64 x26.ah.aa.ac.aP,.int .i64 x26.ah.aa.ac.bc,.int .i64 x26.ah.aa.ac.bu,.int .i64 x26.ah.aa.ac.aF.aW.fX,.int .i64 x26.ah.aa.ac.aF.aW.fY,.int .i64 x26.ah.aa.ac.aF.aW.fZ,.int .i64 x26.ah.aa.ac.aF.aN.fX,.int .i64 x26.ah.aa.ac.aF.aN.fY,.int .i64 x26.ah.aa.ac.aF.aN.fZ,.int .i64 x26.ah.aa.aA.aW,.int .i64 x26.ah.aa.aA.aN,.int .i64 x26.ah.aa.bn,.int .i64 x26.fAt])<|sC Z<|sV (rB (decide (x25.fID<=x26.fID))) ?_
     refine sV (rB (decide (x25.fID<=x26.fID)))<|sF h ?_ ?_<;>intro h
     ·refine sM Z<|k3<|k3<|sT<|sM Z<|k3<|sK<|sK<|sK ?_
      refine sT ?_
      refine sN<|sO<|cT<|gU Z<|sU<|sN<|qR ?_
      cases oI h
      exact⟨nofun,rfl,rfl⟩
     refine mM Z<|sM Z<|bE h fun x28 h28 h=>eG h28 Z<|sV (.cptr [.int .i64 x28.fAt])<|sC Z<|sV (rB (decide (x28.fAt<(0:Int))))<|sF h ?_ ?_<;>intro h
     ·refine sM Z<|k3<|k3<|sT ?_
      refine sN<|sO<|cT<|gU Z<|sU<|sN<|qR ?_
      cases oI h
      exact⟨nofun,rfl,rfl⟩
     refine mM Z<|sM Z<|bE h fun x30 h30 h=>eG h30 Z<|sV (.cptr [.int .i64 x30.fAt])<|sC Z<|sV (rB (decide (x30.fAt>(18014398509481984:Int))))<|sF h ?_ ?_<;>intro h
     ·refine sN<|sO<|cT<|gU Z<|sU<|sN<|qR ?_
      cases oI h
      exact⟨nofun,rfl,rfl⟩
     exact sN<|sO<|cF<|qK<|⟨(),rfl,h⟩
    refine sM Z<|k3<|k3<|k3<|k3<|sU<|sU ?_
    refine mM Z<|sM Z<|bE h fun x32 h32 h=>eG h32 Z<|sV (.cptr [.int .i64 x32.fAt])<|sC Z<|sV (rB (decide (x32.fAt<(0:Int))))<|sF h ?_ ?_<;>intro h
    ·refine sM Z<|k3<|k3<|sT ?_
     refine sN<|sO<|cT<|gU Z<|sU<|sN<|qR ?_
     cases oI h
     exact⟨nofun,rfl,rfl⟩
    refine mM Z<|sM Z<|bE h fun x34 h34 h=>eG h34 Z<|sV (.cptr [.int .i64 x34.fAt])<|sC Z<|sV (rB (decide (x34.fAt>(18014398509481984:Int))))<|sF h ?_ ?_<;>intro h
    ·refine sN<|sO<|cT<|gU Z<|sU<|sN<|qR ?_
     cases oI h
     exact⟨nofun,rfl,rfl⟩
    exact sN<|sO<|cF<|qK<|⟨(),rfl,h⟩
   rintro⟨⟩ R' B' hI h
   refine gS Z hI<|sV (r0)<|sN<|bE h fun o16 ho16 h=>WC.block (WC.loop (WL.pJ ho16 (fun s=>gI 0 168 7 [(0,rM aM.pd a0),(3,rI s1),(4,rI s)] []) (fun o=>match o with| .inl y=>gX 2 0 168 3 [(0,rM aM.pd a0),(3,rI y)] []| .inr r=>gF 168 Tryz.f168 0 (rB r,[])) Z ?_ ?_))
   ·rintro s4 R' B' q6 hI h
    refine qS<|gS Z hI<|mM Z<|sF h ?_ ?_<;>intro h
    ·refine sN<|cT<|qK<|qS<|qB<|WC.lU Z Z<|mM Z<|bE h fun x8 h8 h=>eG h8 Z<|sV (.cptr [.bool x8.bA,.str x8.ap.ar.aT,.str x8.ap.ar.aU,.str x8.ap.ar.ac,.str x8.ap.ar.aS,.int .i64 x8.ap.aP,.int .i64 x8.ap.aZ,.int .i64 x8.ap.bg,.int .i64 x8.ap.aI,.int .i64 x8.ap.aL,.int .i64 x8.bw,.str x8.ah.ap.ar.aT,.str x8.ah.ap.ar.aU,.str x8.ah.ap.ar.ac,.str x8.ah.ap.ar.aS,.int .i64 x8.ah.ap.aP,.int .i64 x8.ah.ap.aZ,.int .i64 x8.ah.ap.bg,.int .i64 x8.ah.ap.aI,.int .i64 x8.ah.ap.aL,.lst (x8.ah.aa.aX.map ag.pd),.int .i64 x8.ah.aa.ac.aO.fX,.int .i64 x8.ah.aa.ac.aO.fY,.int .i64 x8.ah.aa.ac.aO.fZ,.int .i64 x8.ah.aa.ac.aP,.int .i64 x8.ah.aa.ac.bc,.int .i64 x8.ah.aa.ac.bu,.int .i64 x8.ah.aa.ac.aF.aW.fX,.int .i64 x8.ah.aa.ac.aF.aW.fY,.int .i64 x8.ah.aa.ac.aF.aW.fZ,.int .i64 x8.ah.aa.ac.aF.aN.fX,.int .i64 x8.ah.aa.ac.aF.aN.fY,.int .i64 x8.ah.aa.ac.aF.aN.fZ,.int .i64 x8.ah.aa.aA.aW,.int .i64 x8.ah.aa.aA.aN,.int .i64 x8.ah.aa.bn,.int .i64 x8.fAt])<|sC Z<|sF h ?_ ?_<;>intro h
     ·refine mM Z<|sM Z<|bE h fun x10 h10 h=>eG h10 Z<|sV (.cptr [.bool x10.bA,.str x10.ap.ar.aT,.str x10.ap.ar.aU,.str x10.ap.ar.ac,.str x10.ap.ar.aS,.int .i64 x10.ap.aP,.int .i64 x10.ap.aZ,.int .i64 x10.ap.bg,.int .i64 x10.ap.aI,.int .i64 x10.ap.aL,.int .i64 x10.bw,.str x10.ah.ap.ar.aT,.str x10.ah.ap.ar.aU,.str x10.ah.ap.ar.ac,.str x10.ah.ap.ar.aS,.int .i64 x10.ah.ap.aP,.int .i64 x10.ah.ap.aZ,.int .i64 x10.ah.ap.bg,.int .i64 x10.ah.ap.aI,.int .i64 x10.ah.ap.aL,.lst (x10.ah.aa.aX.map ag.pd),.int .i64 x10.ah.aa.ac.aO.fX,.int .i64 x10.ah.aa.ac.aO.fY,.int .i64 x10.ah.aa.ac.aO.fZ,.int .i64 x10.ah.aa.ac.aP,.int .i64 x10.ah.aa.ac.bc,.int .i64 x10.ah.aa.ac.bu,.int .i64 x10.ah.aa.ac.aF.aW.fX,.int .i64 x10.ah.aa.ac.aF.aW.fY,.int .i64 x10.ah.aa.ac.aF.aW.fZ,.int .i64 x10.ah.aa.ac.aF.aN.fX,.int .i64 x10.ah.aa.ac.aF.aN.fY,.int .i64 x10.ah.aa.ac.aF.aN.fZ,.int .i64 x10.ah.aa.aA.aW,.int .i64 x10.ah.aa.aA.aN,.int .i64 x10.ah.aa.bn,.int .i64 x10.fAt])<|sC Z<|sV (rB (!x10.bA))<|sF h ?_ ?_<;>intro h
      ·refine mM Z<|sM Z<|bE h fun x12 h12 h=>eG h12 Z<|sV (.cptr [.str x12.ap.ar.aT,.str x12.ap.ar.aU,.str x12.ap.ar.ac,.str x12.ap.ar.aS,.int .i64 x12.ap.aP,.int .i64 x12.ap.aZ,.int .i64 x12.ap.bg,.int .i64 x12.ap.aI,.int .i64 x12.ap.aL,.int .i64 x12.bw,.str x12.ah.ap.ar.aT,.str x12.ah.ap.ar.aU,.str x12.ah.ap.ar.ac,.str x12.ah.ap.ar.aS,.int .i64 x12.ah.ap.aP,.int .i64 x12.ah.ap.aZ,.int .i64 x12.ah.ap.bg,.int .i64 x12.ah.ap.aI,.int .i64 x12.ah.ap.aL,.lst (x12.ah.aa.aX.map ag.pd),.int .i64 x12.ah.aa.ac.aO.fX,.int .i64 x12.ah.aa.ac.aO.fY,.int .i64 x12.ah.aa.ac.aO.fZ,.int .i64 x12.ah.aa.ac.aP,.int .i64 x12.ah.aa.ac.bc,.int .i64 x12.ah.aa.ac.bu,.int .i64 x12.ah.aa.ac.aF.aW.fX,.int .i64 x12.ah.aa.ac.aF.aW.fY,.int .i64 x12.ah.aa.ac.aF.aW.fZ,.int .i64 x12.ah.aa.ac.aF.aN.fX,.int .i64 x12.ah.aa.ac.aF.aN.fY,.int .i64 x12.ah.aa.ac.aF.aN.fZ,.int .i64 x12.ah.aa.aA.aW,.int .i64 x12.ah.aa.aA.aN,.int .i64 x12.ah.aa.bn,.int .i64 x12.fAt])<|sV (.d (ag.pd x12.ap))<|mM Z<|bE h fun x13 h13 h=>eG h13 Z<|sV (.cptr [.str x13.ap.ar.aT,.str x13.ap.ar.aU,.str x13.ap.ar.ac,.str x13.ap.ar.aS,.int .i64 x13.ap.aP,.int .i64 x13.ap.aZ,.int .i64 x13.ap.bg,.int .i64 x13.ap.aI,.int .i64 x13.ap.aL,.int .i64 x13.bw,.str x13.ah.ap.ar.aT,.str x13.ah.ap.ar.aU,.str x13.ah.ap.ar.ac,.str x13.ah.ap.ar.aS,.int .i64 x13.ah.ap.aP,.int .i64 x13.ah.ap.aZ,.int .i64 x13.ah.ap.bg,.int .i64 x13.ah.ap.aI,.int .i64 x13.ah.ap.aL,.lst (x13.ah.aa.aX.map ag.pd),.int .i64 x13.ah.aa.ac.aO.fX,.int .i64 x13.ah.aa.ac.aO.fY,.int .i64 x13.ah.aa.ac.aO.fZ,.int .i64 x13.ah.aa.ac.aP,.int .i64 x13.ah.aa.ac.bc,.int .i64 x13.ah.aa.ac.bu,.int .i64 x13.ah.aa.ac.aF.aW.fX,.int .i64 x13.ah.aa.ac.aF.aW.fY,.int .i64 x13.ah.aa.ac.aF.aW.fZ,.int .i64 x13.ah.aa.ac.aF.aN.fX,.int .i64 x13.ah.aa.ac.aF.aN.fY,.int .i64 x13.ah.aa.ac.aF.aN.fZ,.int .i64 x13.ah.aa.aA.aW,.int .i64 x13.ah.aa.aA.aN,.int .i64 x13.ah.aa.bn,.int .i64 x13.fAt])<|sV (.d (ag.pd x13.ap))<|WO.bin (lG x12.ap x13.ap) Z Z Z Z Z<|sF h ?_ ?_<;>intro h
       ·refine sN<|sO<|cT<|gU Z<|sU<|sN<|qR ?_
        cases oI h
        exact⟨nofun,rfl,rfl⟩
       refine sN<|sO<|cF<|qK<|WC.region Z Z<|sM Z<|sV (rI (rW (s4+(1:Int))))<|sA Z<|sN ?_
       cases oI h
       exact⟨rfl,rfl⟩
      refine sM Z<|k3<|k3<|k3<|sK<|sK<|sU ?_
      refine sN<|sO<|cF<|qK<|WC.region Z Z<|sM Z<|sV (rI (rW (s4+(1:Int))))<|sA Z<|sN ?_
      cases oI h
      exact⟨rfl,rfl⟩
     refine sM Z<|k3<|k3<|sU<|sM Z<|k3<|sK<|sK<|sK ?_
     refine k3<|sK<|sK<|sU ?_
     refine sN<|sO<|cF<|qK<|WC.region Z Z<|sM Z<|sV (rI (rW (s4+(1:Int))))<|sA Z<|sN ?_
     cases oI h
     exact⟨rfl,rfl⟩
    refine sN<|cF<|qX ?_
    cases oI h
    exact⟨nofun,rfl,rfl⟩
   intro e R' B' he hq
   rcases o16 with y17|r18
   ·obtain⟨rfl,hI⟩:=hq
    refine qE<|WC.region hI Z<|sM Z<|sV (rI (rW (y17+(1:Int))))<|sA Z<|sN ?_
    cases oI h
    exact⟨rfl,rfl⟩
   obtain⟨rfl,hf⟩:=hq
   cases oI h
   exact⟨nofun,rfl,hf⟩
  refine sN<|cF<|qX ?_
  cases oI h
  exact⟨nofun,rfl,rfl⟩
 intro e R' B' he hq
 rcases o37 with y38|r39
 ·obtain⟨rfl,hI⟩:=hq
  refine qE<|gS Z hI<|sM Z<|sE (rI (a0.length:Int)) (oM _ _)<|sV (rB (decide ((a0.length:Int)<=(200:Int))))<|sA Z<|sN<|qR ?_
  exact oI h▸qD
 obtain⟨rfl,hf⟩:=hq
 cases oI h
 exact hf
theorem gf{a0:(List UInt8)}{a1:(List UInt8)}{r:Int}(h:ex a0 a1=some r):EvP prog aV ext 285 [rS a0,rS a1] [] (rI r,[]):=by
 refine Ev.body Z Tryz.func285 Z Zk<|gU Z<|sV (r0)<|sN<|qS<|qB<|gU Z<|mM Z<|sF h ?_ ?_<;>intro h
 ·refine sA Z<|sN<|cT<|gU Z<|sV (rI (-1))<|sN<|qR ?_
  exact oI h▸qD
 refine sA Z<|sN<|cF<|gU Z<|mM Z<|sF h ?_ ?_<;>intro h
 ·refine sA Z<|sN<|cT<|gU Z<|sV (rI 1)<|sN<|qR ?_
  exact oI h▸qD
 refine sA Z<|sN<|cF<|qK<|gU Z<|sV (r0)<|sN<|qR ?_
 exact oI h▸qD
theorem ref03_Compare_ev{a0:au}{a1:au}{r:Int}(h:jC a0 a1=some r):EvP prog aV ext 274 [.d (au.pd a0),.d (au.pd a1)] [] (rI r,[]):=by
 refine Ev.body Z Tryz.func274 Z Zk<|gU Z<|sB (.ptr 32 0) 32 (.var (au.rc a0))<|sB (.ptr 48 0) 48 (.var (au.rc a1))<|sV (r0)<|sN<|qS<|WC.lU Z Z<|sV (.ptr 32 0)<|sL Z<|sV (.ptr 48 0)<|sL Z<|bE h fun x1 h1 h=>cD (gf h1)<|sV (.ptr 32 1) ?_
 refine sL Z<|sV (.ptr 48 1)<|sL Z<|bE h fun x2 h2 h=>cD (gf h2)<|sV (.ptr 32 2)<|sL Z<|sV (.ptr 48 2)<|sL Z<|bE h fun x3 h3 h=>cD (gf h3)<|sV (.ptr 32 3)<|sL Z<|sV (.ptr 48 3)<|sL Z ?_
 refine bE h fun x4 h4 h=>cD (gf h4)<|sV (.d (A4_Int.pd (A4_Int.mk x1 x2 x3 x4)))<|sV (r0) ?_
 refine sN<|sO<|WC.block (WC.loop ?_)
 refine WL.round<|gU Z<|sT<|sN<|qS<|cT<|qK<|qS<|qB<|gU Z<|sV (rI x1)<|sA Z<|sN<|gU Z<|sM Z ?_
 refine sF h ?_ ?_<;>intro h
 ·refine sN<|cT<|gU Z<|sM Z<|sA Z<|sN<|qR ?_
  exact oI h▸qD
 refine sN<|cF<|qK<|WC.region Z Z<|sV (rI 1)<|sM Z<|sN<|WL.round<|gU Z<|sT<|sN<|qS<|cT<|qK<|qS ?_
 refine qB<|gU Z<|sV (rI x2)<|sA Z<|sN<|gU Z<|sM Z<|sF h ?_ ?_<;>intro h
 ·refine sN<|cT<|gU Z<|sM Z<|sA Z<|sN<|qR ?_
  exact oI h▸qD
 refine sN<|cF<|qK<|WC.region Z Z<|sV (rI 2)<|sM Z<|sN<|WL.round<|gU Z<|sT<|sN<|qS<|cT<|qK<|qS ?_
 refine qB<|gU Z<|sV (rI x3)<|sA Z<|sN<|gU Z<|sM Z<|sF h ?_ ?_<;>intro h
 ·refine sN<|cT<|gU Z<|sM Z<|sA Z<|sN<|qR ?_
  exact oI h▸qD
 refine sN<|cF<|qK<|WC.region Z Z<|sV (rI 3)<|sM Z<|sN<|WL.round<|gU Z<|sT<|sN<|qS<|cT<|qK<|qS ?_
 refine qB<|gU Z<|sV (rI x4)<|sA Z<|sN<|gU Z<|sM Z<|sF h ?_ ?_<;>intro h
 ·refine sN<|cT<|gU Z<|sM Z<|sA Z<|sN<|qR ?_
  exact oI h▸qD
 refine sN<|cF<|qK<|WC.region Z Z<|sV (rI 4)<|sM Z<|sN<|WL.round<|gU Z<|sU<|sN<|qS<|cF<|qX<|qE ?_
 refine gU Z<|sV (r0)<|sN<|qR ?_
 exact oI h▸qD
theorem mb{a0:ag}{a1:ag}{r:Int}(h:gB a0 a1=some r):EvP prog aV ext 253 [.d (ag.pd a0),.d (ag.pd a1)] [] (rI r,[]):=by
 refine Ev.body Z Tryz.func253 Z Zk<|gU Z<|sB (.ptr 32 0) 32 (.var (ag.rc a0))<|sB (.ptr 48 0) 48 (.var (ag.rc a1))<|sV (r0)<|sN<|qS<|gU Z<|sV (.ptr 32 0)<|sV (.d (au.pd a0.ar))<|sV (.ptr 48 0)<|sV (.d (au.pd a1.ar))<|bE h fun x1 h1 h=>cD (ref03_Compare_ev h1)<|sA Z ?_
 refine sN<|gU Z<|sM Z<|sF h ?_ ?_<;>intro h
 ·refine sN<|cT<|gU Z<|sM Z<|sA Z<|sN<|qR ?_
  cases oI h
  exact qG
 refine sN<|cF<|qK<|qS<|gU Z<|sV (.ptr 32 4)<|sL Z<|sV (.ptr 48 4)<|sL Z<|sV (.d (bz.pd (bz.mk a0.aP a1.aP)))<|sV (.ptr 32 5)<|sL Z<|sV (.ptr 48 5)<|sL Z<|sV (.d (bz.pd (bz.mk a0.aZ a1.aZ))) ?_
 refine sV (.ptr 32 6)<|sL Z<|sV (.ptr 48 6)<|sL Z<|sV (.d (bz.pd (bz.mk a0.bg a1.bg)))<|sV (.ptr 32 7)<|sL Z<|sV (.ptr 48 7)<|sL Z<|sV (.d (bz.pd (bz.mk a0.aI a1.aI)))<|sV (.ptr 32 8)<|sL Z<|sV (.ptr 48 8)<|sL Z<|sV (.d (bz.pd (bz.mk a0.aL a1.aL))) ?_
 refine sG (.d (cG.pd (cG.mk (bz.mk a0.aP a1.aP) (bz.mk a0.aZ a1.aZ) (bz.mk a0.bg a1.bg) (bz.mk a0.aI a1.aI) (bz.mk a0.aL a1.aL))))<|sV (r0)<|sN<|WC.block (WC.loop ?_)
 refine WL.round<|WC.qv (R0:=[(41,.d (cG.pd (cG.mk (bz.mk a0.aP a1.aP) (bz.mk a0.aZ a1.aZ) (bz.mk a0.bg a1.bg) (bz.mk a0.aI a1.aI) (bz.mk a0.aL a1.aL)))),(42,r0)]) (B0:=[]) Z Z<|sT<|sN<|qS<|cT<|qK<|qS<|qB<|gU Z<|sV (.d (bz.pd (bz.mk a0.aP a1.aP)))<|sB (.ptr 112 0) 112 (.var [r0,r0])<|sS 112 (.var [rI a0.aP,rI a1.aP])<|sN<|qS ?_
 refine gU Z<|sV (.ptr 112 0)<|sL Z<|sV (.ptr 112 1)<|sL Z<|sF h ?_ ?_<;>intro h
 ·refine sN<|cT<|gU Z<|sV (rI (-1))<|sN<|qR ?_
  exact oI h▸qD
 refine sN<|cF<|qK<|gU Z<|sV (.ptr 112 0)<|sL Z<|sV (.ptr 112 1)<|sL Z<|sF h ?_ ?_<;>intro h
 ·refine sN<|cT<|gU Z<|sV (rI 1)<|sN<|qR ?_
  exact oI h▸qD
 refine sN<|cF<|qK<|WC.region Z Z<|sV (rI 1)<|sM Z<|sN<|WL.round<|WC.qv (R0:=[(41,.d (cG.pd (cG.mk (bz.mk a0.aP a1.aP) (bz.mk a0.aZ a1.aZ) (bz.mk a0.bg a1.bg) (bz.mk a0.aI a1.aI) (bz.mk a0.aL a1.aL)))),(42,rI 1)]) (B0:=[]) Z Z<|sT<|sN<|qS<|cT<|qK<|qS ?_
 refine qB<|gU Z<|sV (.d (bz.pd (bz.mk a0.aZ a1.aZ)))<|sB (.ptr 112 0) 112 (.var [r0,r0])<|sS 112 (.var [rI a0.aZ,rI a1.aZ])<|sN<|qS<|gU Z<|sV (.ptr 112 0)<|sL Z<|sV (.ptr 112 1)<|sL Z<|sF h ?_ ?_<;>intro h
 ·refine sN<|cT<|gU Z<|sV (rI (-1))<|sN<|qR ?_
  exact oI h▸qD
 refine sN<|cF<|qK<|gU Z<|sV (.ptr 112 0)<|sL Z<|sV (.ptr 112 1)<|sL Z<|sF h ?_ ?_<;>intro h
 ·refine sN<|cT<|gU Z<|sV (rI 1)<|sN<|qR ?_
  exact oI h▸qD
 refine sN<|cF<|qK<|WC.region Z Z<|sV (rI 2)<|sM Z<|sN<|WL.round<|WC.qv (R0:=[(41,.d (cG.pd (cG.mk (bz.mk a0.aP a1.aP) (bz.mk a0.aZ a1.aZ) (bz.mk a0.bg a1.bg) (bz.mk a0.aI a1.aI) (bz.mk a0.aL a1.aL)))),(42,rI 2)]) (B0:=[]) Z Z<|sT<|sN<|qS<|cT<|qK<|qS ?_
 refine qB<|gU Z<|sV (.d (bz.pd (bz.mk a0.bg a1.bg)))<|sB (.ptr 112 0) 112 (.var [r0,r0])<|sS 112 (.var [rI a0.bg,rI a1.bg])<|sN<|qS<|gU Z<|sV (.ptr 112 0)<|sL Z<|sV (.ptr 112 1)<|sL Z<|sF h ?_ ?_<;>intro h
 ·refine sN<|cT<|gU Z<|sV (rI (-1))<|sN<|qR ?_
  exact oI h▸qD
 refine sN<|cF<|qK<|gU Z<|sV (.ptr 112 0)<|sL Z<|sV (.ptr 112 1)<|sL Z<|sF h ?_ ?_<;>intro h
 ·refine sN<|cT<|gU Z<|sV (rI 1)<|sN<|qR ?_
  exact oI h▸qD
 refine sN<|cF<|qK<|WC.region Z Z<|sV (rI 3)<|sM Z<|sN<|WL.round<|WC.qv (R0:=[(41,.d (cG.pd (cG.mk (bz.mk a0.aP a1.aP) (bz.mk a0.aZ a1.aZ) (bz.mk a0.bg a1.bg) (bz.mk a0.aI a1.aI) (bz.mk a0.aL a1.aL)))),(42,rI 3)]) (B0:=[]) Z Z<|sT<|sN<|qS<|cT<|qK<|qS ?_
 refine qB<|gU Z<|sV (.d (bz.pd (bz.mk a0.aI a1.aI)))<|sB (.ptr 112 0) 112 (.var [r0,r0])<|sS 112 (.var [rI a0.aI,rI a1.aI])<|sN<|qS<|gU Z<|sV (.ptr 112 0)<|sL Z<|sV (.ptr 112 1)<|sL Z<|sF h ?_ ?_<;>intro h
 ·refine sN<|cT<|gU Z<|sV (rI (-1))<|sN<|qR ?_
  exact oI h▸qD
 refine sN<|cF<|qK<|gU Z<|sV (.ptr 112 0)<|sL Z<|sV (.ptr 112 1)<|sL Z<|sF h ?_ ?_<;>intro h
 ·refine sN<|cT<|gU Z<|sV (rI 1)<|sN<|qR ?_
  exact oI h▸qD
 refine sN<|cF<|qK<|WC.region Z Z<|sV (rI 4)<|sM Z<|sN<|WL.round<|WC.qv (R0:=[(41,.d (cG.pd (cG.mk (bz.mk a0.aP a1.aP) (bz.mk a0.aZ a1.aZ) (bz.mk a0.bg a1.bg) (bz.mk a0.aI a1.aI) (bz.mk a0.aL a1.aL)))),(42,rI 4)]) (B0:=[]) Z Z<|sT<|sN<|qS<|cT<|qK<|qS ?_
 refine qB<|gU Z<|sV (.d (bz.pd (bz.mk a0.aL a1.aL)))<|sB (.ptr 112 0) 112 (.var [r0,r0])<|sS 112 (.var [rI a0.aL,rI a1.aL])<|sN<|qS<|gU Z<|sV (.ptr 112 0)<|sL Z<|sV (.ptr 112 1)<|sL Z<|sF h ?_ ?_<;>intro h
 ·refine sN<|cT<|gU Z<|sV (rI (-1))<|sN<|qR ?_
  exact oI h▸qD
 refine sN<|cF<|qK<|gU Z<|sV (.ptr 112 0)<|sL Z<|sV (.ptr 112 1)<|sL Z<|sF h ?_ ?_<;>intro h
 ·refine sN<|cT<|gU Z<|sV (rI 1)<|sN<|qR ?_
  exact oI h▸qD
 refine sN<|cF<|qK<|WC.region Z Z<|sV (rI 5)<|sM Z<|sN<|WL.round<|WC.qv (R0:=[(41,.d (cG.pd (cG.mk (bz.mk a0.aP a1.aP) (bz.mk a0.aZ a1.aZ) (bz.mk a0.bg a1.bg) (bz.mk a0.aI a1.aI) (bz.mk a0.aL a1.aL)))),(42,rI 5)]) (B0:=[]) Z Z<|sU<|sN<|qS<|cF<|qX<|qE ?_
 refine gU Z<|sV (r0)<|sN<|qR ?_
 exact oI h▸qD
theorem mc{a0:ag}{a1:ag}{r:Int}(h:gC a0 a1=some r):EvP prog aV ext 220 [.d (ag.pd a0),.d (ag.pd a1)] [] (rI r,[]):=by
 refine Ev.body Z Tryz.func220 Z Zk<|gU Z<|sB (.ptr 32 0) 32 (.var (ag.rc a0))<|sB (.ptr 48 0) 48 (.var (ag.rc a1))<|sV (r0)<|sN<|qS<|gU Z<|sV (.ptr 32 4)<|sL Z<|sV (.ptr 48 4)<|sL Z<|sF h ?_ ?_<;>intro h
 ·refine sN<|cT<|gU Z<|sV (rI (-1))<|sN<|qR ?_
  cases oI h
  exact qG
 refine sN<|cF<|qK<|qS<|gU Z<|sV (.ptr 32 4)<|sL Z<|sV (.ptr 48 4)<|sL Z<|sF h ?_ ?_<;>intro h
 ·refine sN<|cT<|gU Z<|sV (rI 1)<|sN<|qR ?_
  cases oI h
  exact qG
 refine sN<|cF<|qK<|gU Z<|sV (.d (ag.pd a0))<|sV (.d (ag.pd a1))<|bE h fun x3 h3 h=>cD (mb h3)<|sA Z<|sN<|qR ?_
 cases oI h
 exact qG
theorem ref34_Name_ev{a0:(List ag)}{r:ag}(h:mK a0=some r):EvP prog aV ext 218 [rM ag.pd a0] [] (.d (ag.pd r),[]):=by
 refine Ev.body Z Tryz.func218 Z Zk<|gU Z<|sB (.ptr 32 0) 32 (.var [rS [],rS [],rS [],rS [],r0,r0,r0,r0,r0])<|sN<|gU Z<|sM Z<|bE h fun x1 h1 h=>eG h1 Z<|sV (.d (ag.pd x1))<|sB (.ptr 48 0) 48 (.var [rS [],rS [],rS [],rS [],r0,r0,r0,r0,r0])<|sH 48 (.var (ag.rc x1))<|sN<|qS<|gU Z<|sV (rI 1) ?_
 refine sN<|bE h fun o28 ho28 h=>WC.block (WC.loop (WL.pJ ho28 (fun s=>gI 0 218 3 [(0,rM ag.pd a0),(2,.ptr 32 0),(3,.ptr 48 0),(4,rI s.1)] [(32,.var [rS [],rS [],rS [],rS [],r0,r0,r0,r0,r0]),(48,.var [rS s.2.1,rS s.2.2.1,rS s.2.2.2.1,rS s.2.2.2.2.1,rI s.2.2.2.2.2.1,rI s.2.2.2.2.2.2.1,rI s.2.2.2.2.2.2.2.1,rI s.2.2.2.2.2.2.2.2.1,rI s.2.2.2.2.2.2.2.2.2])]) (fun o=>gX 0 0 218 7 [(2,.ptr 32 0),(3,.ptr 48 0)] [(32,.var [rS [],rS [],rS [],rS [],r0,r0,r0,r0,r0]),(48,.var [rS o.1,rS o.2.1,rS o.2.2.1,rS o.2.2.2.1,rI o.2.2.2.2.1,rI o.2.2.2.2.2.1,rI o.2.2.2.2.2.2.1,rI o.2.2.2.2.2.2.2.1,rI o.2.2.2.2.2.2.2.2])]) Z ?_ ?_))
 ·rintro⟨s2,s3,s4,s5,s6,s7,s8,s9,s10,s11⟩ R' B' q21 hI h
  refine qS<|gS Z hI<|mM Z<|sE (rI (a0.length:Int)) (oM _ _)<|sF h ?_ ?_<;>intro h
  ·refine sN<|cT<|qK<|qS<|qB<|WC.lU Z Z<|mM Z<|bE h fun x23 h23 h=>eG h23 Z<|sV (.d (ag.pd x23))<|sV (.d (ag.pd (ag.mk (au.mk s3 s4 s5 s6) s7 s8 s9 s10 s11)))<|bE h fun x24 h24 h=>cD (mc h24)<|sF h ?_ ?_<;>intro h
   ·refine sN<|sO<|cT<|WC.region Z Z<|mM Z<|bE h fun x26 h26 h=>eG h26 Z<|sV (.d (ag.pd x26))<|sH 48 (.var (ag.rc x26))<|sN<|WC.region Z Z<|sM Z<|sV (rI (rW (s2+(1:Int))))<|sA Z<|sN ?_
    cases oI h
    exact⟨rfl,rfl⟩
   refine sN<|sO<|cF<|qK<|WC.region Z Z<|sM Z<|sV (rI (rW (s2+(1:Int))))<|sA Z<|sN ?_
   cases oI h
   exact⟨rfl,rfl⟩
  refine sN<|cF<|qX ?_
  cases oI h
  exact⟨nofun,rfl,rfl⟩
 intro e R' B' he hq
 obtain⟨rfl,hI⟩:=hq
 refine qE<|gS Z hI<|sV (.d (ag.pd (ag.mk (au.mk o28.1 o28.2.1 o28.2.2.1 o28.2.2.2.1) o28.2.2.2.2.1 o28.2.2.2.2.2.1 o28.2.2.2.2.2.2.1 o28.2.2.2.2.2.2.2.1 o28.2.2.2.2.2.2.2.2)))<|sH 32 (.var [rS o28.1,rS o28.2.1,rS o28.2.2.1,rS o28.2.2.2.1,rI o28.2.2.2.2.1,rI o28.2.2.2.2.2.1,rI o28.2.2.2.2.2.2.1,rI o28.2.2.2.2.2.2.2.1,rI o28.2.2.2.2.2.2.2.2])<|sN<|qR ?_
 cases oI h
 exact qG
theorem ref23_Sort_ev{a0:(List ag)}{r:(List ag)}(h:mI a0=some r):EvP prog aV ext 219 [rM ag.pd a0] [] (rM ag.pd r,[]):=by
 refine Ev.body Z Tryz.func219 Z Zk<|gU Z<|sV .mo<|sN<|gU Z<|sV .mo<|sN<|qS<|gU Z<|sV (r0)<|sN<|bE h fun o39 ho39 h=>WC.block (WC.loop (WL.pJ ho39 (fun s=>gI 0 219 3 [(0,rM ag.pd a0),(3,.ref 816 0),(4,rI s.1)] [(816,.arr 0 44 (s.2.map ag.pd))]) (fun o=>gX 0 0 219 12 [(3,.ref 816 0)] [(816,.arr 0 44 (o.map ag.pd))]) Z ?_ ?_))
 ·rintro⟨s1,s2⟩ R' B' q4 hI h
  refine qS<|gS Z hI<|mM Z<|sE (rI (a0.length:Int)) (oM _ _)<|sF h ?_ ?_<;>intro h
  ·refine sN<|cT<|qK<|qS<|qB<|gU Z<|sM Z<|WO.tD Z Z Z Z Z Z Z Z Z<|sA Z<|sN<|qS<|bE h fun o19 ho19 h=>WC.block (WC.loop (WL.pJ ho19 (fun s=>gI 0 219 6 [(0,rM ag.pd a0),(3,.ref 816 0),(4,rI s1),(5,rI s)] [(816,.arr 0 44 (s2.map ag.pd))]) (fun o=>gX 2 0 219 8 [(0,rM ag.pd a0),(3,.ref 816 0),(4,rI o.1),(5,rI o.2.1)] [(816,.arr 0 44 (o.2.2.map ag.pd))]) Z ?_ ?_))
   ·rintro s6 R' B' q10 hI h
    refine qS<|WC.lU hI Z<|sM Z<|sF h ?_ ?_<;>intro h
    ·refine mM Z<|sM Z<|sV (rI (rW (s6-(1:Int))))<|bE h fun x13 h13 h=>WO.tz h13 Z Z Z Z Z Z Z Z<|bE h fun x14 h14 h=>WO.sn h14 Z Z Z Z Z Z<|mM Z<|bE h fun x15 h15 h=>eG h15 Z<|sV (.d (ag.pd x15))<|bE h fun x16 h16 h=>cD (mb h16) ?_
     refine sV (rB (decide (x16>(0:Int))))<|sF h ?_ ?_<;>intro h
     ·refine sN<|sO<|cT<|qK<|qB<|WC.region Z Z<|sM Z<|sV (rI (rW (s6-(1:Int))))<|sA Z<|sN ?_
      cases oI h
      exact⟨rfl,rfl⟩
     refine sN<|sO<|cF<|qX ?_
     cases oI h
     exact⟨nofun,rfl,rfl⟩
    refine sM Z<|k3<|k3<|k3<|sK<|sK<|sU ?_
    refine sN<|sO<|cF<|qX ?_
    cases oI h
    exact⟨nofun,rfl,rfl⟩
   intro e R' B' he hq
   obtain⟨rfl,hI⟩:=hq
   refine qE<|WC.join (α:=Unit) (fun x R' B'=>p6 prog 0 (A R' B') (aV.at_ 219 0 9)=some (A [(0,rM ag.pd a0),(3,.ref 816 0),(4,rI o19.1),(5,rI o19.2.1)] [(816,.arr 0 44 (o19.2.2.map ag.pd))])) (fun x=>fR a0 o19=some q4) ?_ ?_
   ·refine WC.lU hI Z<|sM Z<|sF h ?_ ?_<;>intro h
    ·refine mM Z<|sM Z<|sV (rI (rW (o19.2.1-(1:Int))))<|bE h fun x34 h34 h=>WO.tz h34 Z Z Z Z Z Z Z Z<|bE h fun x35 h35 h=>WO.sn h35 Z Z Z Z Z Z<|mM Z<|bE h fun x36 h36 h=>eG h36 Z<|sV (.d (ag.pd x36))<|WO.bin (lG x35 x36) Z Z Z Z Z<|sF h ?_ ?_<;>intro h
     ·refine sN<|sO<|cT<|qX<|qE<|WC.region Z Z<|sM Z<|sV (rI (rW (o19.1+(1:Int))))<|sA Z<|sN ?_
      cases oI h
      exact⟨rfl,rfl⟩
     exact sN<|sO<|cF<|qK<|⟨(),rfl,h⟩
    refine sM Z<|k3<|k3<|k3<|sK<|sU ?_
    exact sN<|sO<|cF<|qK<|⟨(),rfl,h⟩
   rintro⟨⟩ R' B' hI h
   refine gS Z hI<|mM Z<|sM Z<|bE h fun x20 h20 h=>eG h20 Z<|sV (.d (ag.pd x20))<|sG (.d (.lst ([x20].map ag.pd)))<|bE h fun x21 h21 h=>aR h21 (fun _=>Z) Z<|sA Z<|sN<|WC.lU Z Z<|sM Z<|sM Z ?_
   refine sV (rI (rW (o19.2.1+(1:Int))))<|bE h fun x22 h22 h=>WO.subR h22 Z Z Z Z Z Z Z Z Z Z Z Z<|mM Z<|bE h fun x23 h23 h=>WO.subR h23 Z Z Z Z Z Z Z Z Z Z Z Z<|bE h fun x24 h24 h=>bE h fun x25 h25 h=>WO.copyG Z Z Z Z Z Z Z Z (Ab h24 Z) (src_view h25 Z) Z Z (fun _=>Z) ?_
   refine sN<|sO<|WC.region Z Z<|mM Z<|mM Z<|bE h fun x27 h27 h=>eG h27 Z<|sV (.d (ag.pd x27))<|bE h fun x29 h29 h=>WO.tz h29 Z Z Z Z Z Z Z Z<|bE h fun x30 h30 h=>WO.Bd (g:=ag.pd) (sz:=9) (p:=ag.pd x27) h30 (by intro _;kernel_rfl) (by intro _;kernel_rfl) Z Z Z Z Z Z Z Z Z<|sN<|WC.region Z Z ?_
   refine sM Z<|sV (rI (rW (o19.1+(1:Int))))<|sA Z<|sN ?_
   cases oI h
   exact⟨rfl,rfl⟩
  refine sN<|cF<|qX ?_
  cases oI h
  exact⟨nofun,rfl,rfl⟩
 intro e R' B' he hq
 obtain⟨rfl,hI⟩:=hq
 refine qE<|gS Z hI<|sM Z<|sA Z<|sN<|qR ?_
 exact oI h▸qD
theorem g9{a0:(List ag)}{a1:(List ag)}{r:Bool}(h:cn a0 a1=some r):EvP prog aV ext 91 [rM ag.pd a0,rM ag.pd a1] [] (rB r,[]):=by
 refine Ev.body Z Tryz.func91 Z Zk<|gU Z<|sU<|sN<|qS<|gU Z<|sM Z<|sE (rI (a0.length:Int)) (oM _ _)<|sM Z<|sE (rI (a1.length:Int)) (oM _ _)<|sF h ?_ ?_<;>intro h
 ·refine sN<|cT<|gU Z<|sU<|sN<|qR ?_
  exact oI h▸qD
 refine sN<|cF<|qK<|qS<|gU Z<|sV (r0)<|sN<|bE h fun o9 ho9 h=>WC.block (WC.loop (WL.pJ ho9 (fun s=>gI 0 91 4 [(0,rM ag.pd a0),(1,rM ag.pd a1),(5,rI s)] []) (fun o=>match o with| .inl y=>gX 0 0 91 8 [] []| .inr r=>gF 91 Tryz.f91 0 (rB r,[])) Z ?_ ?_))
 ·rintro s2 R' B' q3 hI h
  refine qS<|gS Z hI<|mM Z<|sE (rI (a0.length:Int)) (oM _ _)<|sF h ?_ ?_<;>intro h
  ·refine sN<|cT<|qK<|qS<|qB<|WC.lU Z Z<|mM Z<|bE h fun x5 h5 h=>eG h5 Z<|sV (.d (ag.pd x5))<|mM Z<|bE h fun x6 h6 h=>eG h6 Z ?_
   refine sV (.d (ag.pd x6))<|pP h (fun hb7 h=>?_) (fun hb7 h=>?_)
   ·refine WO.binS (eqN_44 x5 x6) hb7 Z Z Z Z Z ?_
    refine sN<|sO<|cT<|gU Z<|sU<|sN<|qR ?_
    cases oI h
    exact⟨nofun,rfl,rfl⟩
   refine WO.binS (eqN_44 x5 x6) hb7 Z Z Z Z Z ?_
   refine sN<|sO<|cF<|qK<|WC.region Z Z<|sM Z<|sV (rI (rW (s2+(1:Int))))<|sA Z<|sN ?_
   cases oI h
   exact⟨rfl,rfl⟩
  refine sN<|cF<|qX ?_
  cases oI h
  exact⟨nofun,rfl,rfl⟩
 intro e R' B' he hq
 rcases o9 with y10|r11
 ·obtain⟨rfl,hI⟩:=hq
  refine qE<|gS Z hI<|sT<|sN<|qR ?_
  exact oI h▸qD
 obtain⟨rfl,hf⟩:=hq
 cases oI h
 exact hf
theorem m9{a0:(List ag)}{a1:(List ag)}{r:Bool}(h:iB a0 a1=some r):EvP prog aV ext 221 [rM ag.pd a0,rM ag.pd a1] [] (rB r,[]):=by
 refine Ev.body Z Tryz.func221 Z Zk<|gU Z<|sU<|sN<|qS<|gU Z<|sV (r0)<|sN<|bE h fun o16 ho16 h=>WC.block (WC.loop (WL.pJ ho16 (fun s=>gI 0 221 2 [(0,rM ag.pd a0),(1,rM ag.pd a1),(5,rI s)] []) (fun o=>match o with| .inl y=>gX 0 0 221 9 [] []| .inr r=>gF 221 Tryz.f221 0 (rB r,[])) Z ?_ ?_))
 ·rintro s1 R' B' q2 hI h
  refine qS<|gS Z hI<|mM Z<|sE (rI (a0.length:Int)) (oM _ _)<|sF h ?_ ?_<;>intro h
  ·refine sN<|cT<|qK<|qS<|qB<|gU Z<|sV (r0)<|sN<|bE h fun o12 ho12 h=>WC.block (WC.loop (WL.pJ ho12 (fun s=>gI 0 221 5 [(0,rM ag.pd a0),(1,rM ag.pd a1),(5,rI s1),(6,rI s)] []) (fun o=>match o with| .inl y=>gX 2 0 221 3 [(0,rM ag.pd a0),(1,rM ag.pd a1),(5,rI y)] []| .inr r=>gF 221 Tryz.f221 0 (rB r,[])) Z ?_ ?_))
   ·rintro s4 R' B' q6 hI h
    refine qS<|gS Z hI<|mM Z<|sE (rI (a1.length:Int)) (oM _ _)<|sF h ?_ ?_<;>intro h
    ·refine sN<|cT<|qK<|qS<|qB<|WC.lU Z Z<|mM Z<|bE h fun x8 h8 h=>eG h8 Z<|sV (.d (ag.pd x8))<|mM Z<|bE h fun x9 h9 h=>eG h9 Z ?_
     refine sV (.d (ag.pd x9))<|pP h (fun hb10 h=>?_) (fun hb10 h=>?_)
     ·refine WO.binS (lG x8 x9) hb10 Z Z Z Z Z ?_
      refine sN<|sO<|cT<|gU Z<|sT<|sN<|qR ?_
      cases oI h
      exact⟨nofun,rfl,rfl⟩
     refine WO.binS (lG x8 x9) hb10 Z Z Z Z Z ?_
     refine sN<|sO<|cF<|qK<|WC.region Z Z<|sM Z<|sV (rI (rW (s4+(1:Int))))<|sA Z<|sN ?_
     cases oI h
     exact⟨rfl,rfl⟩
    refine sN<|cF<|qX ?_
    cases oI h
    exact⟨nofun,rfl,rfl⟩
   intro e R' B' he hq
   rcases o12 with y13|r14
   ·obtain⟨rfl,hI⟩:=hq
    refine qE<|WC.region hI Z<|sM Z<|sV (rI (rW (y13+(1:Int))))<|sA Z<|sN ?_
    cases oI h
    exact⟨rfl,rfl⟩
   obtain⟨rfl,hf⟩:=hq
   cases oI h
   exact⟨nofun,rfl,hf⟩
  refine sN<|cF<|qX ?_
  cases oI h
  exact⟨nofun,rfl,rfl⟩
 intro e R' B' he hq
 rcases o16 with y17|r18
 ·obtain⟨rfl,hI⟩:=hq
  refine qE<|gS Z hI<|sU<|sN<|qR ?_
  exact oI h▸qD
 obtain⟨rfl,hf⟩:=hq
 cases oI h
 exact hf
theorem ref34_Valid_ev{a0:(List av)}{r:Bool}(h:lh a0=some r):EvP prog aV ext 169 [rM av.pd a0] [] (rB r,[]):=by
 refine Ev.body Z Tryz.func169 Z Zk<|gU Z<|sU<|sN<|qS<|gU Z<|sV (r0)<|sN<|bE h fun o30 ho30 h=>WC.block (WC.loop (WL.pJ ho30 (fun s=>gI 0 169 2 [(0,rM av.pd a0),(3,rI s)] []) (fun o=>match o with| .inl y=>gX 0 0 169 12 [] []| .inr r=>gF 169 Tryz.f169 0 (rB r,[])) Z ?_ ?_))
 ·rintro s1 R' B' q2 hI h
  refine qS<|gS Z hI<|mM Z<|sE (rI (a0.length:Int)) (oM _ _)<|sF h ?_ ?_<;>intro h
  ·refine sN<|cT<|qK<|qS<|qB<|gU Z<|mM Z<|bE h fun x4 h4 h=>eG h4 Z<|sV (.cptr [.lst (x4.aa.aX.map ag.pd),.int .i64 x4.aa.ac.aO.fX,.int .i64 x4.aa.ac.aO.fY,.int .i64 x4.aa.ac.aO.fZ,.int .i64 x4.aa.ac.aP,.int .i64 x4.aa.ac.bc,.int .i64 x4.aa.ac.bu,.int .i64 x4.aa.ac.aF.aW.fX,.int .i64 x4.aa.ac.aF.aW.fY,.int .i64 x4.aa.ac.aF.aW.fZ,.int .i64 x4.aa.ac.aF.aN.fX,.int .i64 x4.aa.ac.aF.aN.fY,.int .i64 x4.aa.ac.aF.aN.fZ,.int .i64 x4.aa.aA.aW,.int .i64 x4.aa.aA.aN,.int .i64 x4.aa.bn])<|sV (.cptr [.lst (x4.aa.aX.map ag.pd),.int .i64 x4.aa.ac.aO.fX,.int .i64 x4.aa.ac.aO.fY,.int .i64 x4.aa.ac.aO.fZ,.int .i64 x4.aa.ac.aP,.int .i64 x4.aa.ac.bc,.int .i64 x4.aa.ac.bu,.int .i64 x4.aa.ac.aF.aW.fX,.int .i64 x4.aa.ac.aF.aW.fY,.int .i64 x4.aa.ac.aF.aW.fZ,.int .i64 x4.aa.ac.aF.aN.fX,.int .i64 x4.aa.ac.aF.aN.fY,.int .i64 x4.aa.ac.aF.aN.fZ,.int .i64 x4.aa.aA.aW,.int .i64 x4.aa.aA.aN,.int .i64 x4.aa.bn])<|sC Z<|sA Z<|sN ?_
   refine WC.join (α:=Unit) (fun x R' B'=>p6 prog 0 (A R' B') (aV.at_ 169 0 7)=some (A [(0,rM av.pd a0),(3,rI s1),(4,rM ag.pd x4.aa.aX)] [])) (fun x=>fj s1 a0 x4=some q2) ?_ ?_
   ·refine WC.lU Z Z<|sM Z<|sE (rI (x4.aa.aX.length:Int)) (oM _ _)<|sF h ?_ ?_<;>intro h
    ·refine sM Z<|k3<|k3<|sK<|sK<|sT<|sM Z<|k3<|sK ?_
     refine sK<|sT<|sM Z<|k3<|k3<|k3<|sK<|sK<|sK ?_
     refine k3<|sK<|sK<|sT ?_
     refine sN<|sO<|cT<|gU Z<|sU<|sN<|qR ?_
     cases oI h
     exact⟨nofun,rfl,rfl⟩
    refine mM Z<|sM Z<|bE h fun x18 h18 h=>eG h18 Z<|sV (.cptr [.str x18.ap.ar.aT,.str x18.ap.ar.aU,.str x18.ap.ar.ac,.str x18.ap.ar.aS,.int .i64 x18.ap.aP,.int .i64 x18.ap.aZ,.int .i64 x18.ap.bg,.int .i64 x18.ap.aI,.int .i64 x18.ap.aL,.lst (x18.aa.aX.map ag.pd),.int .i64 x18.aa.ac.aO.fX,.int .i64 x18.aa.ac.aO.fY,.int .i64 x18.aa.ac.aO.fZ,.int .i64 x18.aa.ac.aP,.int .i64 x18.aa.ac.bc,.int .i64 x18.aa.ac.bu,.int .i64 x18.aa.ac.aF.aW.fX,.int .i64 x18.aa.ac.aF.aW.fY,.int .i64 x18.aa.ac.aF.aW.fZ,.int .i64 x18.aa.ac.aF.aN.fX,.int .i64 x18.aa.ac.aF.aN.fY,.int .i64 x18.aa.ac.aF.aN.fZ,.int .i64 x18.aa.aA.aW,.int .i64 x18.aa.aA.aN,.int .i64 x18.aa.bn])<|sV (.d (ag.pd x18.ap))<|sM Z<|bE h fun x19 h19 h=>cD (ref34_Name_ev h19)<|WO.bin (eqN_44 x18.ap x19) Z Z Z Z Z<|sF h ?_ ?_<;>intro h
    ·refine sM Z<|k3<|sK<|sK<|sT<|sM Z<|k3<|k3<|sK ?_
     refine k3<|k3<|k3<|sK<|sT ?_
     refine sN<|sO<|cT<|gU Z<|sU<|sN<|qR ?_
     cases oI h
     exact⟨nofun,rfl,rfl⟩
    refine mM Z<|sM Z<|bE h fun x21 h21 h=>cD (ref23_Sort_ev h21)<|bE h fun x22 h22 h=>cD (g9 h22)<|sV (rB (!x22))<|sF h ?_ ?_<;>intro h
    ·refine sM Z<|k3<|k3<|k3<|k3<|sK<|sK ?_
     refine k3<|sT ?_
     refine sN<|sO<|cT<|gU Z<|sU<|sN<|qR ?_
     cases oI h
     exact⟨nofun,rfl,rfl⟩
    refine mM Z<|sF h ?_ ?_<;>intro h
    ·refine mM Z<|sM Z<|sV (rI (rW (s1-(1:Int))))<|bE h fun x25 h25 h=>eG h25 Z<|sV (.cptr [.str x25.ap.ar.aT,.str x25.ap.ar.aU,.str x25.ap.ar.ac,.str x25.ap.ar.aS,.int .i64 x25.ap.aP,.int .i64 x25.ap.aZ,.int .i64 x25.ap.bg,.int .i64 x25.ap.aI,.int .i64 x25.ap.aL,.lst (x25.aa.aX.map ag.pd),.int .i64 x25.aa.ac.aO.fX,.int .i64 x25.aa.ac.aO.fY,.int .i64 x25.aa.ac.aO.fZ,.int .i64 x25.aa.ac.aP,.int .i64 x25.aa.ac.bc,.int .i64 x25.aa.ac.bu,.int .i64 x25.aa.ac.aF.aW.fX,.int .i64 x25.aa.ac.aF.aW.fY,.int .i64 x25.aa.ac.aF.aW.fZ,.int .i64 x25.aa.ac.aF.aN.fX,.int .i64 x25.aa.ac.aF.aN.fY,.int .i64 x25.aa.ac.aF.aN.fZ,.int .i64 x25.aa.aA.aW,.int .i64 x25.aa.aA.aN,.int .i64 x25.aa.bn])<|sV (.d (ag.pd x25.ap))<|mM Z<|bE h fun x26 h26 h=>eG h26 Z<|sV (.cptr [.str x26.ap.ar.aT,.str x26.ap.ar.aU,.str x26.ap.ar.ac,.str x26.ap.ar.aS,.int .i64 x26.ap.aP,.int .i64 x26.ap.aZ,.int .i64 x26.ap.bg,.int .i64 x26.ap.aI,.int .i64 x26.ap.aL,.lst (x26.aa.aX.map ag.pd),.int .i64 x26.aa.ac.aO.fX,.int .i64 x26.aa.ac.aO.fY,.int .i64 x26.aa.ac.aO.fZ,.int .i64 x26.aa.ac.aP,.int .i64 x26.aa.ac.bc,.int .i64 x26.aa.ac.bu,.int .i64 x26.aa.ac.aF.aW.fX,.int .i64 x26.aa.ac.aF.aW.fY,.int .i64 x26.aa.ac.aF.aW.fZ,.int .i64 x26.aa.ac.aF.aN.fX,.int .i64 x26.aa.ac.aF.aN.fY,.int .i64 x26.aa.ac.aF.aN.fZ,.int .i64 x26.aa.aA.aW,.int .i64 x26.aa.aA.aN,.int .i64 x26.aa.bn])<|sV (.d (ag.pd x26.ap))<|bE h fun x27 h27 h=>?_
     refine cD (mc h27)<|sV (rB (decide (x27>=(0:Int))))<|sV (rB (decide (x27>=(0:Int))))<|sF h ?_ ?_<;>intro h
     ·refine sN<|sO<|cT<|gU Z<|sU<|sN<|qR ?_
      cases oI h
      exact⟨nofun,rfl,rfl⟩
     exact sN<|sO<|cF<|qK<|⟨(),rfl,h⟩
    refine sM Z<|k3<|k3<|k3<|k3<|sK<|sU ?_
    refine sU ?_
    exact sN<|sO<|cF<|qK<|⟨(),rfl,h⟩
   rintro⟨⟩ R' B' hI h
   refine gS Z hI<|sV (r0)<|sN<|bE h fun o13 ho13 h=>WC.block (WC.loop (WL.pJ ho13 (fun s=>gI 0 169 8 [(0,rM av.pd a0),(3,rI s1),(4,rM ag.pd x4.aa.aX),(5,rI s)] []) (fun o=>match o with| .inl y=>gX 2 0 169 3 [(0,rM av.pd a0),(3,rI y)] []| .inr r=>gF 169 Tryz.f169 0 (rB r,[])) Z ?_ ?_))
   ·rintro s5 R' B' q7 hI h
    refine qS<|gS Z hI<|mM Z<|sF h ?_ ?_<;>intro h
    ·refine sN<|cT<|qK<|qS<|qB<|gU Z<|mM Z<|sM Z<|bE h fun x9 h9 h=>eG h9 Z<|sV (.cptr [.lst (x9.aa.aX.map ag.pd),.int .i64 x9.aa.ac.aO.fX,.int .i64 x9.aa.ac.aO.fY,.int .i64 x9.aa.ac.aO.fZ,.int .i64 x9.aa.ac.aP,.int .i64 x9.aa.ac.bc,.int .i64 x9.aa.ac.bu,.int .i64 x9.aa.ac.aF.aW.fX,.int .i64 x9.aa.ac.aF.aW.fY,.int .i64 x9.aa.ac.aF.aW.fZ,.int .i64 x9.aa.ac.aF.aN.fX,.int .i64 x9.aa.ac.aF.aN.fY,.int .i64 x9.aa.ac.aF.aN.fZ,.int .i64 x9.aa.aA.aW,.int .i64 x9.aa.aA.aN,.int .i64 x9.aa.bn])<|sV (.cptr [.lst (x9.aa.aX.map ag.pd),.int .i64 x9.aa.ac.aO.fX,.int .i64 x9.aa.ac.aO.fY,.int .i64 x9.aa.ac.aO.fZ,.int .i64 x9.aa.ac.aP,.int .i64 x9.aa.ac.bc,.int .i64 x9.aa.ac.bu,.int .i64 x9.aa.ac.aF.aW.fX,.int .i64 x9.aa.ac.aF.aW.fY,.int .i64 x9.aa.ac.aF.aW.fZ,.int .i64 x9.aa.ac.aF.aN.fX,.int .i64 x9.aa.ac.aF.aN.fY,.int .i64 x9.aa.ac.aF.aN.fZ,.int .i64 x9.aa.aA.aW,.int .i64 x9.aa.aA.aN,.int .i64 x9.aa.bn])<|sC Z<|bE h fun x10 h10 h=>?_
     refine pP h (fun hb11 h=>?_) (fun hb11 h=>?_)
     ·refine WO.pV (v:=rB true) (u:=[]) Z Z (fun _=>Z) Z Z Z Z Z (m9 h10) Z Z (congrArg (fun b=>RV.d (.bool b)) hb11) Z<|sN<|cT<|gU Z<|sU<|sN<|qR ?_
      cases oI h
      exact⟨nofun,rfl,rfl⟩
     refine WO.pV (v:=rB false) (u:=[]) Z Z (fun _=>Z) Z Z Z Z Z (m9 h10) Z Z (congrArg (fun b=>RV.d (.bool b)) hb11) Z<|sN<|cF<|qK<|WC.region Z Z<|sM Z<|sV (rI (rW (s5+(1:Int))))<|sA Z<|sN ?_
     cases oI h
     exact⟨rfl,rfl⟩
    refine sN<|cF<|qX ?_
    cases oI h
    exact⟨nofun,rfl,rfl⟩
   intro e R' B' he hq
   rcases o13 with y14|r15
   ·obtain⟨rfl,hI⟩:=hq
    refine qE<|WC.region hI Z<|sM Z<|sV (rI (rW (y14+(1:Int))))<|sA Z<|sN ?_
    cases oI h
    exact⟨rfl,rfl⟩
   obtain⟨rfl,hf⟩:=hq
   cases oI h
   exact⟨nofun,rfl,hf⟩
  refine sN<|cF<|qX ?_
  cases oI h
  exact⟨nofun,rfl,rfl⟩
 intro e R' B' he hq
 rcases o30 with y31|r32
 ·obtain⟨rfl,hI⟩:=hq
  refine qE<|gS Z hI<|sT<|sN<|qR ?_
  exact oI h▸qD
 obtain⟨rfl,hf⟩:=hq
 cases oI h
 exact hf
theorem ref36_Errors_ev{a0:aQ}{a1:(List aM)}{a2:Int}{a3:(List av)}{a4:Int}{r:Int}(h:ko a0 a1 a2 a3 a4=some r):EvP prog aV ext 96 [.d (aQ.pd a0),rM aM.pd a1,rI a2,rM av.pd a3,rI a4] [] (rI r,[]):=by
 refine Ev.body Z Tryz.func96 Z Zk<|gU Z<|sB (.ptr 80 0) 80 (.var (aQ.rc a0))<|sV (r0)<|sN<|qS<|gU Z<|sV (.d (aQ.pd a0))<|bE h fun x1 h1 h=>cD (iD h1)<|sF h ?_ ?_<;>intro h
 ·refine sN<|cT<|gU Z<|sV (rI 27)<|sN<|qR ?_
  exact oI h▸qD
 refine sN<|cF<|qK<|WC.join (α:=Unit) (fun x R' B'=>p6 prog 0 (A R' B') (aV.at_ 96 0 5)=some (A [(1,rM aM.pd a1),(4,rI a4)] [])) (fun x=>eM a4 a1=some r) ?_ ?_
 ·refine gU Z<|sM Z<|bE h fun x15 h15 h=>cD (ref36_Valid_ev h15)<|sF h ?_ ?_<;>intro h
  ·refine sM Z<|k3<|sT<|sM Z<|sK<|sK<|sT<|sM Z<|k3<|sK<|sK ?_
   refine k3<|k3<|k3<|sT<|sN<|cT<|gU Z<|sV (rI 1)<|sN ?_
   refine qR ?_
   exact oI h▸qD
  refine mM Z<|bE h fun x17 h17 h=>cD (ref34_Valid_ev h17)<|sV (rB (!x17))<|sF h ?_ ?_<;>intro h
  ·refine sM Z<|sK<|sK<|sT<|sM Z<|k3<|k3<|k3<|sK ?_
   refine k3<|sK<|sT<|sN<|cT<|gU Z<|sV (rI 1)<|sN<|qR ?_
   exact oI h▸qD
  refine mM Z<|sV (rB (decide (a2<(0:Int))))<|sF h ?_ ?_<;>intro h
  ·refine sM Z<|k3<|k3<|k3<|k3<|sK<|sK ?_
   refine sT<|sN<|cT<|gU Z<|sV (rI 1)<|sN<|qR ?_
   exact oI h▸qD
  refine mM Z<|sE (rI (a1.length:Int)) (oM _ _)<|sF h ?_ ?_<;>intro h
  ·refine mM Z<|mM Z<|sE (rI (a1.length:Int)) (oM _ _)<|sV (rI (rW ((a1.length:Int)-(1:Int))))<|bE h fun x21 h21 h=>eG h21 Z<|sV (.cptr [.int .i64 x21.fID,.bool x21.bA,.str x21.ap.ar.aT,.str x21.ap.ar.aU,.str x21.ap.ar.ac,.str x21.ap.ar.aS,.int .i64 x21.ap.aP,.int .i64 x21.ap.aZ,.int .i64 x21.ap.bg,.int .i64 x21.ap.aI,.int .i64 x21.ap.aL,.int .i64 x21.bw,.str x21.ah.ap.ar.aT,.str x21.ah.ap.ar.aU,.str x21.ah.ap.ar.ac,.str x21.ah.ap.ar.aS,.int .i64 x21.ah.ap.aP,.int .i64 x21.ah.ap.aZ,.int .i64 x21.ah.ap.bg,.int .i64 x21.ah.ap.aI,.int .i64 x21.ah.ap.aL,.lst (x21.ah.aa.aX.map ag.pd),.int .i64 x21.ah.aa.ac.aO.fX,.int .i64 x21.ah.aa.ac.aO.fY,.int .i64 x21.ah.aa.ac.aO.fZ,.int .i64 x21.ah.aa.ac.aP,.int .i64 x21.ah.aa.ac.bc,.int .i64 x21.ah.aa.ac.bu,.int .i64 x21.ah.aa.ac.aF.aW.fX,.int .i64 x21.ah.aa.ac.aF.aW.fY,.int .i64 x21.ah.aa.ac.aF.aW.fZ,.int .i64 x21.ah.aa.ac.aF.aN.fX,.int .i64 x21.ah.aa.ac.aF.aN.fY,.int .i64 x21.ah.aa.ac.aF.aN.fZ,.int .i64 x21.ah.aa.aA.aW,.int .i64 x21.ah.aa.aA.aN,.int .i64 x21.ah.aa.bn,.int .i64 x21.fAt])<|sC Z<|sV (rB (decide (a2<=x21.fID)))<|sV (rB (decide (a2<=x21.fID)))<|sF h ?_ ?_<;>intro h
   ·refine sN<|cT<|gU Z<|sV (rI 1)<|sN<|qR ?_
    exact oI h▸qD
   exact sN<|cF<|qK<|⟨(),rfl,h⟩
  refine sM Z<|k3<|k3<|k3<|sU<|sU<|sN<|cF<|qK ?_
  exact⟨(),rfl,h⟩
 rintro⟨⟩ R' B' hI h
 refine qS<|gS Z hI<|sM Z<|sF h ?_ ?_<;>intro h
 ·refine sM Z<|sK<|sK<|sT<|sN<|cT<|gU Z<|sV (rI 2)<|sN<|qR ?_
  exact oI h▸qD
 refine mM Z<|sV (rB (decide (a4>(18014398509481984:Int))))<|sF h ?_ ?_<;>intro h
 ·refine sN<|cT<|gU Z<|sV (rI 2)<|sN<|qR ?_
  exact oI h▸qD
 refine sN<|cF<|qK<|qS<|gU Z<|sV (r0)<|sN<|bE h fun o11 ho11 h=>WC.block (WC.loop (WL.pJ ho11 (fun s=>gI 0 96 8 [(1,rM aM.pd a1),(4,rI a4),(11,rI s)] []) (fun o=>match o with| .inl y=>gX 0 0 96 12 [] []| .inr r=>gF 96 Tryz.f96 0 (rI r,[])) Z ?_ ?_))
 ·rintro s5 R' B' q6 hI h
  refine qS<|gS Z hI<|mM Z<|sE (rI (a1.length:Int)) (oM _ _)<|sF h ?_ ?_<;>intro h
  ·refine sN<|cT<|qK<|qS<|qB<|gU Z<|mM Z<|sM Z<|bE h fun x8 h8 h=>eG h8 Z<|sV (.cptr [.int .i64 x8.fAt])<|sC Z<|sF h ?_ ?_<;>intro h
   ·refine sN<|cT<|gU Z<|sV (rI 9)<|sN<|qR ?_
    cases oI h
    exact⟨nofun,rfl,rfl⟩
   refine sN<|cF<|qK<|WC.region Z Z<|sM Z<|sV (rI (rW (s5+(1:Int))))<|sA Z<|sN ?_
   cases oI h
   exact⟨rfl,rfl⟩
  refine sN<|cF<|qX ?_
  cases oI h
  exact⟨nofun,rfl,rfl⟩
 intro e R' B' he hq
 rcases o11 with y12|r13
 ·obtain⟨rfl,hI⟩:=hq
  refine qE<|gS Z hI<|sV (r0)<|sN<|qR ?_
  exact oI h▸qD
 obtain⟨rfl,hf⟩:=hq
 cases oI h
 exact hf
theorem ref34_Index_ev{a0:(List av)}{a1:ag}{r:Int}(h:lg a0 a1=some r):EvP prog aV ext 170 [rM av.pd a0,.d (ag.pd a1)] [] (rI r,[]):=by
 refine Ev.body Z Tryz.func170 Z Zk<|gU Z<|sB (.ptr 48 0) 48 (.var (ag.rc a1))<|sV (r0)<|sN<|qS<|gU Z<|sV (r0)<|sN<|bE h fun o7 ho7 h=>WC.block (WC.loop (WL.pJ ho7 (fun s=>gI 0 170 2 [(0,rM av.pd a0),(3,.ptr 48 0),(5,rI s)] [(48,.var (ag.rc a1))]) (fun o=>match o with| .inl y=>gX 0 0 170 6 [] []| .inr r=>gF 170 Tryz.f170 0 (rI r,[])) Z ?_ ?_))
 ·rintro s1 R' B' q2 hI h
  refine qS<|gS Z hI<|mM Z<|sE (rI (a0.length:Int)) (oM _ _)<|sF h ?_ ?_<;>intro h
  ·refine sN<|cT<|qK<|qS<|qB<|WC.lU Z Z<|mM Z<|bE h fun x4 h4 h=>eG h4 Z<|sV (.cptr [.str x4.ap.ar.aT,.str x4.ap.ar.aU,.str x4.ap.ar.ac,.str x4.ap.ar.aS,.int .i64 x4.ap.aP,.int .i64 x4.ap.aZ,.int .i64 x4.ap.bg,.int .i64 x4.ap.aI,.int .i64 x4.ap.aL,.lst (x4.aa.aX.map ag.pd),.int .i64 x4.aa.ac.aO.fX,.int .i64 x4.aa.ac.aO.fY,.int .i64 x4.aa.ac.aO.fZ,.int .i64 x4.aa.ac.aP,.int .i64 x4.aa.ac.bc,.int .i64 x4.aa.ac.bu,.int .i64 x4.aa.ac.aF.aW.fX,.int .i64 x4.aa.ac.aF.aW.fY,.int .i64 x4.aa.ac.aF.aW.fZ,.int .i64 x4.aa.ac.aF.aN.fX,.int .i64 x4.aa.ac.aF.aN.fY,.int .i64 x4.aa.ac.aF.aN.fZ,.int .i64 x4.aa.aA.aW,.int .i64 x4.aa.aA.aN,.int .i64 x4.aa.bn])<|sV (.d (ag.pd x4.ap))<|sV (.d (ag.pd a1))<|pP h (fun hb5 h=>?_) (fun hb5 h=>?_)
   ·refine WO.binS (lG x4.ap a1) hb5 Z Z Z Z Z ?_
    refine sN<|sO<|cT<|gU Z<|sM Z<|sA Z<|sN<|qR ?_
    cases oI h
    exact⟨nofun,rfl,rfl⟩
   refine WO.binS (lG x4.ap a1) hb5 Z Z Z Z Z ?_
   refine sN<|sO<|cF<|qK<|WC.region Z Z<|sM Z<|sV (rI (rW (s1+(1:Int))))<|sA Z<|sN ?_
   cases oI h
   exact⟨rfl,rfl⟩
  refine sN<|cF<|qX ?_
  cases oI h
  exact⟨nofun,rfl,rfl⟩
 intro e R' B' he hq
 rcases o7 with y8|r9
 ·obtain⟨rfl,hI⟩:=hq
  refine qE<|gS Z hI<|sV (rI (-1))<|sN<|qR ?_
  exact oI h▸qD
 obtain⟨rfl,hf⟩:=hq
 cases oI h
 exact hf
theorem mP{a1:Int}{d0:(List Int)}{r:Bool×(List Int)}(h:mi a1 d0=some r):EvP prog aV ext 100 [.ref 0 0,rI a1] [.arr 0 3 (d0.map (PD.int .i64))] (rB r.1,[.arr 0 3 (r.2.map (PD.int .i64))]):=by
 refine Ev.body Z Tryz.func100 Z Zk<|gU Z<|sU<|sN<|qS<|gU Z<|sV (r0)<|sN<|bE h fun o9 ho9 h=>WC.block (WC.loop (WL.pJ ho9 (fun s=>gI 1 100 2 [(0,.ref 0 0),(1,rI a1),(5,rI s)] [(0,.arr 0 3 (d0.map (PD.int .i64)))]) (fun o=>match o with| .inl y=>gX 0 1 100 6 [] [(0,.arr 0 3 (d0.map (PD.int .i64)))]| .inr r=>gF 100 Tryz.f100 1 (rB r.1,[.arr 0 3 (r.2.map (PD.int .i64))])) Z ?_ ?_))
 ·rintro s1 R' B' q2 hI h
  refine qS<|gS Z hI<|mM Z<|WO.tD Z Z Z Z Z Z Z Z Z<|sF h ?_ ?_<;>intro h
  ·refine sN<|cT<|qK<|qS<|qB<|gU Z<|mM Z<|bE h fun x5 h5 h=>WO.tz h5 Z Z Z Z Z Z Z Z<|bE h fun x6 h6 h=>WO.sn h6 Z Z Z Z Z Z<|sM Z<|sF h ?_ ?_<;>intro h
   ·refine sN<|cT<|gU Z<|sT<|sN<|qR ?_
    cases oI h
    exact⟨nofun,rfl,rfl⟩
   refine sN<|cF<|qK<|WC.region Z Z<|sM Z<|sV (rI (rW (s1+(1:Int))))<|sA Z<|sN ?_
   cases oI h
   exact⟨rfl,rfl⟩
  refine sN<|cF<|qX ?_
  cases oI h
  exact⟨nofun,rfl,rfl⟩
 intro e R' B' he hq
 rcases o9 with y10|r11
 ·obtain⟨rfl,hI⟩:=hq
  refine qE<|gS Z hI<|sU<|sN<|qR ?_
  exact oI h▸qD
 obtain⟨rfl,hf⟩:=hq
 cases oI h
 exact hf
theorem ref36_common_ev{a0:(List ag)}{a1:(List ag)}{r:Bool}(h:mO a0 a1=some r):EvP prog aV ext 171 [rM ag.pd a0,rM ag.pd a1] [] (rB r,[]):=by
 refine Ev.body Z Tryz.func171 Z Zk<|gU Z<|sU<|sN<|qS<|gU Z<|sV (r0)<|sN<|bE h fun o16 ho16 h=>WC.block (WC.loop (WL.pJ ho16 (fun s=>gI 0 171 2 [(0,rM ag.pd a0),(1,rM ag.pd a1),(5,rI s)] []) (fun o=>match o with| .inl y=>gX 0 0 171 9 [] []| .inr r=>gF 171 Tryz.f171 0 (rB r,[])) Z ?_ ?_))
 ·rintro s1 R' B' q2 hI h
  refine qS<|gS Z hI<|mM Z<|sE (rI (a0.length:Int)) (oM _ _)<|sF h ?_ ?_<;>intro h
  ·refine sN<|cT<|qK<|qS<|qB<|gU Z<|sV (r0)<|sN<|bE h fun o12 ho12 h=>WC.block (WC.loop (WL.pJ ho12 (fun s=>gI 0 171 5 [(0,rM ag.pd a0),(1,rM ag.pd a1),(5,rI s1),(6,rI s)] []) (fun o=>match o with| .inl y=>gX 2 0 171 3 [(0,rM ag.pd a0),(1,rM ag.pd a1),(5,rI y)] []| .inr r=>gF 171 Tryz.f171 0 (rB r,[])) Z ?_ ?_))
   ·rintro s4 R' B' q6 hI h
    refine qS<|gS Z hI<|mM Z<|sE (rI (a1.length:Int)) (oM _ _)<|sF h ?_ ?_<;>intro h
    ·refine sN<|cT<|qK<|qS<|qB<|WC.lU Z Z<|mM Z<|bE h fun x8 h8 h=>eG h8 Z<|sV (.d (ag.pd x8))<|mM Z<|bE h fun x9 h9 h=>eG h9 Z ?_
     refine sV (.d (ag.pd x9))<|pP h (fun hb10 h=>?_) (fun hb10 h=>?_)
     ·refine WO.binS (lG x8 x9) hb10 Z Z Z Z Z ?_
      refine sN<|sO<|cT<|gU Z<|sT<|sN<|qR ?_
      cases oI h
      exact⟨nofun,rfl,rfl⟩
     refine WO.binS (lG x8 x9) hb10 Z Z Z Z Z ?_
     refine sN<|sO<|cF<|qK<|WC.region Z Z<|sM Z<|sV (rI (rW (s4+(1:Int))))<|sA Z<|sN ?_
     cases oI h
     exact⟨rfl,rfl⟩
    refine sN<|cF<|qX ?_
    cases oI h
    exact⟨nofun,rfl,rfl⟩
   intro e R' B' he hq
   rcases o12 with y13|r14
   ·obtain⟨rfl,hI⟩:=hq
    refine qE<|WC.region hI Z<|sM Z<|sV (rI (rW (y13+(1:Int))))<|sA Z<|sN ?_
    cases oI h
    exact⟨rfl,rfl⟩
   obtain⟨rfl,hf⟩:=hq
   cases oI h
   exact⟨nofun,rfl,hf⟩
  refine sN<|cF<|qX ?_
  cases oI h
  exact⟨nofun,rfl,rfl⟩
 intro e R' B' he hq
 rcases o16 with y17|r18
 ·obtain⟨rfl,hI⟩:=hq
  refine qE<|gS Z hI<|sU<|sN<|qR ?_
  exact oI h▸qD
 obtain⟨rfl,hf⟩:=hq
 cases oI h
 exact hf
theorem ref36_Follow_ev{a0:(List aM)}{a1:(List av)}{r:(List Int)}(h:kq a0 a1=some r):EvP prog aV ext 97 [rM aM.pd a0,rM av.pd a1] [] (rL r,[]):=by
 refine Ev.body Z Tryz.func97 Z Zk<|gU Z<|sV .mo<|sN<|gU Z<|sV .mo<|sN<|qS<|gU Z<|sV (r0)<|sN<|bE h fun o17 ho17 h=>WC.block (WC.loop (WL.pJ ho17 (fun s=>gI 0 97 3 [(0,rM aM.pd a0),(1,rM av.pd a1),(5,.ref 560 0),(6,rI s.1)] [(560,.arr 0 3 (s.2.map (PD.int .i64)))]) (fun o=>gX 0 0 97 11 [(0,rM aM.pd a0),(1,rM av.pd a1),(5,.ref 560 0)] [(560,.arr 0 3 (o.map (PD.int .i64)))]) Z ?_ ?_))
 ·rintro⟨s1,s2⟩ R' B' q4 hI h
  refine qS<|gS Z hI<|mM Z<|sE (rI (a0.length:Int)) (oM _ _)<|sF h ?_ ?_<;>intro h
  ·refine sN<|cT<|qK<|qS<|qB<|gU Z<|sV (rI (-1))<|sN<|WC.join (α:=Int) (fun x R' B'=>p6 prog 0 (A R' B') (aV.at_ 97 0 8)=some (A [(0,rM aM.pd a0),(1,rM av.pd a1),(5,.ref 560 0),(6,rI s1),(7,rI x)] [(560,.arr 0 3 (s2.map (PD.int .i64)))])) (fun x=>eN s2 s1 x=some q4) ?_ ?_
   ·refine gU Z<|mM Z<|bE h fun x12 h12 h=>eG h12 Z<|sV (.cptr [.bool x12.bA,.str x12.ap.ar.aT,.str x12.ap.ar.aU,.str x12.ap.ar.ac,.str x12.ap.ar.aS,.int .i64 x12.ap.aP,.int .i64 x12.ap.aZ,.int .i64 x12.ap.bg,.int .i64 x12.ap.aI,.int .i64 x12.ap.aL,.int .i64 x12.bw,.str x12.ah.ap.ar.aT,.str x12.ah.ap.ar.aU,.str x12.ah.ap.ar.ac,.str x12.ah.ap.ar.aS,.int .i64 x12.ah.ap.aP,.int .i64 x12.ah.ap.aZ,.int .i64 x12.ah.ap.bg,.int .i64 x12.ah.ap.aI,.int .i64 x12.ah.ap.aL,.lst (x12.ah.aa.aX.map ag.pd),.int .i64 x12.ah.aa.ac.aO.fX,.int .i64 x12.ah.aa.ac.aO.fY,.int .i64 x12.ah.aa.ac.aO.fZ,.int .i64 x12.ah.aa.ac.aP,.int .i64 x12.ah.aa.ac.bc,.int .i64 x12.ah.aa.ac.bu,.int .i64 x12.ah.aa.ac.aF.aW.fX,.int .i64 x12.ah.aa.ac.aF.aW.fY,.int .i64 x12.ah.aa.ac.aF.aW.fZ,.int .i64 x12.ah.aa.ac.aF.aN.fX,.int .i64 x12.ah.aa.ac.aF.aN.fY,.int .i64 x12.ah.aa.ac.aF.aN.fZ,.int .i64 x12.ah.aa.aA.aW,.int .i64 x12.ah.aa.aA.aN,.int .i64 x12.ah.aa.bn,.int .i64 x12.fAt])<|sC Z<|sF h ?_ ?_<;>intro h
    ·exact sN<|cT<|WC.region rfl rfl<|sM rfl<|sM rfl<|sM rfl<|bE h fun x14 h14 h=>eG h14 rfl<|sV (.cptr [.str x14.ap.ar.aT,.str x14.ap.ar.aU,.str x14.ap.ar.ac,.str x14.ap.ar.aS,.int .i64 x14.ap.aP,.int .i64 x14.ap.aZ,.int .i64 x14.ap.bg,.int .i64 x14.ap.aI,.int .i64 x14.ap.aL,.int .i64 x14.bw,.str x14.ah.ap.ar.aT,.str x14.ah.ap.ar.aU,.str x14.ah.ap.ar.ac,.str x14.ah.ap.ar.aS,.int .i64 x14.ah.ap.aP,.int .i64 x14.ah.ap.aZ,.int .i64 x14.ah.ap.bg,.int .i64 x14.ah.ap.aI,.int .i64 x14.ah.ap.aL,.lst (x14.ah.aa.aX.map ag.pd),.int .i64 x14.ah.aa.ac.aO.fX,.int .i64 x14.ah.aa.ac.aO.fY,.int .i64 x14.ah.aa.ac.aO.fZ,.int .i64 x14.ah.aa.ac.aP,.int .i64 x14.ah.aa.ac.bc,.int .i64 x14.ah.aa.ac.bu,.int .i64 x14.ah.aa.ac.aF.aW.fX,.int .i64 x14.ah.aa.ac.aF.aW.fY,.int .i64 x14.ah.aa.ac.aF.aW.fZ,.int .i64 x14.ah.aa.ac.aF.aN.fX,.int .i64 x14.ah.aa.ac.aF.aN.fY,.int .i64 x14.ah.aa.ac.aF.aN.fZ,.int .i64 x14.ah.aa.aA.aW,.int .i64 x14.ah.aa.aA.aN,.int .i64 x14.ah.aa.bn,.int .i64 x14.fAt])<|sV (.d (ag.pd x14.ap))<|bE h fun x15 h15 h=>cD (ref34_Index_ev h15)<|sA rfl<|sN<|⟨x15,rfl,h⟩
    exact sN<|cF<|qK<|⟨-1,rfl,h⟩
   rintro j6 R' B' hI h
   refine qS<|gS Z hI<|mM Z<|bE h fun x7 h7 h=>pP h (fun hb8 h=>?_) (fun hb8 h=>?_)
   ·refine WO.pV (v:=rB true) (u:=[(560,.arr 0 3 (x7.2.map (PD.int .i64)))]) Z Z (fun _=>Z) Z Z Z Z Z (mP h7) Z Z (congrArg (fun b=>RV.d (.bool b)) hb8) Z<|sN<|cT<|WC.region Z Z<|sV (rI (-1))<|sN<|WC.region Z Z<|mM Z<|sV (.d (.lst ([-1].map (PD.int .i64))))<|bE h fun x9 h9 h=>aR h9 (fun _=>Z) Z<|sA Z<|sN<|WC.region Z Z ?_
    refine sM Z<|sV (rI (rW (s1+(1:Int))))<|sA Z<|sN ?_
    cases oI h
    exact⟨rfl,rfl⟩
   refine WO.pV (v:=rB false) (u:=[(560,.arr 0 3 (x7.2.map (PD.int .i64)))]) Z Z (fun _=>Z) Z Z Z Z Z (mP h7) Z Z (congrArg (fun b=>RV.d (.bool b)) hb8) Z<|sN<|cF<|qK<|WC.region Z Z<|mM Z<|sV (.d (.lst ([j6].map (PD.int .i64))))<|bE h fun x10 h10 h=>aR h10 (fun _=>Z) Z<|sA Z<|sN<|WC.region Z Z<|sM Z<|sV (rI (rW (s1+(1:Int)))) ?_
   refine sA Z<|sN ?_
   cases oI h
   exact⟨rfl,rfl⟩
  refine sN<|cF<|qX ?_
  cases oI h
  exact⟨nofun,rfl,rfl⟩
 intro e R' B' he hq
 obtain⟨rfl,hI⟩:=hq
 refine qE<|qS<|gS Z hI<|sV (r0)<|sN<|bE h fun o47 ho47 h=>WC.block (WC.loop (WL.pJ ho47 (fun s=>gI 0 97 12 [(0,rM aM.pd a0),(1,rM av.pd a1),(5,.ref 560 0),(8,rI s.1)] [(560,.arr 0 3 (s.2.map (PD.int .i64)))]) (fun o=>gX 2 0 97 19 [(5,.ref 560 0)] [(560,.arr 0 3 (o.map (PD.int .i64)))]) Z ?_ ?_))
 ·rintro⟨s18,s19⟩ R' B' q21 hI h
  refine qS<|gS Z hI<|mM Z<|sE (rI (a0.length:Int)) (oM _ _)<|sF h ?_ ?_<;>intro h
  ·refine sN<|cT<|qK<|qS<|qB<|gU Z<|sV (r0)<|sN<|bE h fun o45 ho45 h=>WC.block (WC.loop (WL.pJ ho45 (fun s=>gI 0 97 15 [(0,rM aM.pd a0),(1,rM av.pd a1),(5,.ref 560 0),(8,rI s18),(9,rI s.1)] [(560,.arr 0 3 (s.2.map (PD.int .i64)))]) (fun o=>gX 4 0 97 13 [(0,rM aM.pd a0),(1,rM av.pd a1),(5,.ref 560 0),(8,rI o.1)] [(560,.arr 0 3 (o.2.map (PD.int .i64)))]) Z ?_ ?_))
   ·rintro⟨s23,s24⟩ R' B' q27 hI h
    refine qS<|gS Z hI<|mM Z<|sE (rI (a1.length:Int)) (oM _ _)<|sF h ?_ ?_<;>intro h
    ·refine mM Z<|sM Z<|bE h fun x30 h30 h=>WO.tz h30 Z Z Z Z Z Z Z Z<|bE h fun x31 h31 h=>WO.sn h31 Z Z Z Z Z Z<|sV (rB (decide (x31<(0:Int))))<|sF h ?_ ?_<;>intro h
     ·refine mM Z<|sM Z<|bE h fun x33 h33 h=>eG h33 Z<|sV (.cptr [.bool x33.bA,.str x33.ap.ar.aT,.str x33.ap.ar.aU,.str x33.ap.ar.ac,.str x33.ap.ar.aS,.int .i64 x33.ap.aP,.int .i64 x33.ap.aZ,.int .i64 x33.ap.bg,.int .i64 x33.ap.aI,.int .i64 x33.ap.aL,.int .i64 x33.bw,.str x33.ah.ap.ar.aT,.str x33.ah.ap.ar.aU,.str x33.ah.ap.ar.ac,.str x33.ah.ap.ar.aS,.int .i64 x33.ah.ap.aP,.int .i64 x33.ah.ap.aZ,.int .i64 x33.ah.ap.bg,.int .i64 x33.ah.ap.aI,.int .i64 x33.ah.ap.aL,.lst (x33.ah.aa.aX.map ag.pd),.int .i64 x33.ah.aa.ac.aO.fX,.int .i64 x33.ah.aa.ac.aO.fY,.int .i64 x33.ah.aa.ac.aO.fZ,.int .i64 x33.ah.aa.ac.aP,.int .i64 x33.ah.aa.ac.bc,.int .i64 x33.ah.aa.ac.bu,.int .i64 x33.ah.aa.ac.aF.aW.fX,.int .i64 x33.ah.aa.ac.aF.aW.fY,.int .i64 x33.ah.aa.ac.aF.aW.fZ,.int .i64 x33.ah.aa.ac.aF.aN.fX,.int .i64 x33.ah.aa.ac.aF.aN.fY,.int .i64 x33.ah.aa.ac.aF.aN.fZ,.int .i64 x33.ah.aa.aA.aW,.int .i64 x33.ah.aa.aA.aN,.int .i64 x33.ah.aa.bn,.int .i64 x33.fAt])<|sC Z<|sV (rB (!x33.bA))<|sF h ?_ ?_<;>intro h
      ·refine sN<|cT<|qK<|qS<|qB<|WC.lU Z Z<|mM Z<|bE h fun x35 h35 h=>cR (rB x35.1) [(560,.arr 0 3 (x35.2.map (PD.int .i64)))] (mP h35)<|sF h ?_ ?_<;>intro h
       ·refine mM Z<|sM Z<|bE h fun x37 h37 h=>eG h37 Z<|sV (.cptr [.str x37.ah.ap.ar.aT,.str x37.ah.ap.ar.aU,.str x37.ah.ap.ar.ac,.str x37.ah.ap.ar.aS,.int .i64 x37.ah.ap.aP,.int .i64 x37.ah.ap.aZ,.int .i64 x37.ah.ap.bg,.int .i64 x37.ah.ap.aI,.int .i64 x37.ah.ap.aL,.lst (x37.ah.aa.aX.map ag.pd),.int .i64 x37.ah.aa.ac.aO.fX,.int .i64 x37.ah.aa.ac.aO.fY,.int .i64 x37.ah.aa.ac.aO.fZ,.int .i64 x37.ah.aa.ac.aP,.int .i64 x37.ah.aa.ac.bc,.int .i64 x37.ah.aa.ac.bu,.int .i64 x37.ah.aa.ac.aF.aW.fX,.int .i64 x37.ah.aa.ac.aF.aW.fY,.int .i64 x37.ah.aa.ac.aF.aW.fZ,.int .i64 x37.ah.aa.ac.aF.aN.fX,.int .i64 x37.ah.aa.ac.aF.aN.fY,.int .i64 x37.ah.aa.ac.aF.aN.fZ,.int .i64 x37.ah.aa.aA.aW,.int .i64 x37.ah.aa.aA.aN,.int .i64 x37.ah.aa.bn,.int .i64 x37.fAt])<|sV (.cptr [.lst (x37.ah.aa.aX.map ag.pd),.int .i64 x37.ah.aa.ac.aO.fX,.int .i64 x37.ah.aa.ac.aO.fY,.int .i64 x37.ah.aa.ac.aO.fZ,.int .i64 x37.ah.aa.ac.aP,.int .i64 x37.ah.aa.ac.bc,.int .i64 x37.ah.aa.ac.bu,.int .i64 x37.ah.aa.ac.aF.aW.fX,.int .i64 x37.ah.aa.ac.aF.aW.fY,.int .i64 x37.ah.aa.ac.aF.aW.fZ,.int .i64 x37.ah.aa.ac.aF.aN.fX,.int .i64 x37.ah.aa.ac.aF.aN.fY,.int .i64 x37.ah.aa.ac.aF.aN.fZ,.int .i64 x37.ah.aa.aA.aW,.int .i64 x37.ah.aa.aA.aN,.int .i64 x37.ah.aa.bn,.int .i64 x37.fAt])<|sV (.cptr [.lst (x37.ah.aa.aX.map ag.pd),.int .i64 x37.ah.aa.ac.aO.fX,.int .i64 x37.ah.aa.ac.aO.fY,.int .i64 x37.ah.aa.ac.aO.fZ,.int .i64 x37.ah.aa.ac.aP,.int .i64 x37.ah.aa.ac.bc,.int .i64 x37.ah.aa.ac.bu,.int .i64 x37.ah.aa.ac.aF.aW.fX,.int .i64 x37.ah.aa.ac.aF.aW.fY,.int .i64 x37.ah.aa.ac.aF.aW.fZ,.int .i64 x37.ah.aa.ac.aF.aN.fX,.int .i64 x37.ah.aa.ac.aF.aN.fY,.int .i64 x37.ah.aa.ac.aF.aN.fZ,.int .i64 x37.ah.aa.aA.aW,.int .i64 x37.ah.aa.aA.aN,.int .i64 x37.ah.aa.bn,.int .i64 x37.fAt])<|sC Z<|mM Z<|bE h fun x38 h38 h=>eG h38 Z<|sV (.cptr [.lst (x38.aa.aX.map ag.pd),.int .i64 x38.aa.ac.aO.fX,.int .i64 x38.aa.ac.aO.fY,.int .i64 x38.aa.ac.aO.fZ,.int .i64 x38.aa.ac.aP,.int .i64 x38.aa.ac.bc,.int .i64 x38.aa.ac.bu,.int .i64 x38.aa.ac.aF.aW.fX,.int .i64 x38.aa.ac.aF.aW.fY,.int .i64 x38.aa.ac.aF.aW.fZ,.int .i64 x38.aa.ac.aF.aN.fX,.int .i64 x38.aa.ac.aF.aN.fY,.int .i64 x38.aa.ac.aF.aN.fZ,.int .i64 x38.aa.aA.aW,.int .i64 x38.aa.aA.aN,.int .i64 x38.aa.bn])<|sV (.cptr [.lst (x38.aa.aX.map ag.pd),.int .i64 x38.aa.ac.aO.fX,.int .i64 x38.aa.ac.aO.fY,.int .i64 x38.aa.ac.aO.fZ,.int .i64 x38.aa.ac.aP,.int .i64 x38.aa.ac.bc,.int .i64 x38.aa.ac.bu,.int .i64 x38.aa.ac.aF.aW.fX,.int .i64 x38.aa.ac.aF.aW.fY,.int .i64 x38.aa.ac.aF.aW.fZ,.int .i64 x38.aa.ac.aF.aN.fX,.int .i64 x38.aa.ac.aF.aN.fY,.int .i64 x38.aa.ac.aF.aN.fZ,.int .i64 x38.aa.aA.aW,.int .i64 x38.aa.aA.aN,.int .i64 x38.aa.bn]) ?_
        refine sC Z<|bE h fun x39 h39 h=>cD (ref36_common_ev h39)<|sF h ?_ ?_<;>intro h
        ·refine sN<|sO<|cT<|WC.region Z Z<|mM Z<|sM Z<|bE h fun x42 h42 h=>WO.tz h42 Z Z Z Z Z Z Z Z<|bE h fun x43 h43 h=>WO.Bd (g:=(PD.int .i64)) (sz:=1) (p:= .int .i64 s23) h43 (fun _=>Z) (fun _=>Z) Z Z Z Z Z Z Z Z Z<|sN<|WC.region Z Z<|sM Z<|sV (rI (rW (s23+(1:Int))))<|sA Z ?_
         refine sN ?_
         cases oI h
         exact⟨rfl,rfl⟩
        refine sN<|sO<|cF<|qK<|WC.region Z Z<|sM Z<|sV (rI (rW (s23+(1:Int))))<|sA Z<|sN ?_
        cases oI h
        exact⟨rfl,rfl⟩
       refine sM Z<|k3<|k3<|k3<|k3<|sK<|sK ?_
       refine sU ?_
       refine sN<|sO<|cF<|qK<|WC.region Z Z<|sM Z<|sV (rI (rW (s23+(1:Int))))<|sA Z<|sN ?_
       cases oI h
       exact⟨rfl,rfl⟩
      refine sN<|cF<|qX ?_
      cases oI h
      exact⟨nofun,rfl,rfl⟩
     refine sM Z<|k3<|k3<|sU<|sN<|cF<|qX ?_
     cases oI h
     exact⟨nofun,rfl,rfl⟩
    refine sM Z<|k3<|sK<|sK<|sU<|sM Z<|k3<|k3<|sU ?_
    refine sN<|cF<|qX ?_
    cases oI h
    exact⟨nofun,rfl,rfl⟩
   intro e R' B' he hq
   obtain⟨rfl,hI⟩:=hq
   refine qE<|WC.region hI Z<|sM Z<|sV (rI (rW (o45.1+(1:Int))))<|sA Z<|sN ?_
   cases oI h
   exact⟨rfl,rfl⟩
  refine sN<|cF<|qX ?_
  cases oI h
  exact⟨nofun,rfl,rfl⟩
 intro e R' B' he hq
 obtain⟨rfl,hI⟩:=hq
 refine qE<|gS Z hI<|sM Z<|sA Z<|sN<|qR ?_
 exact oI h▸qD
theorem nN{a0:bD}{a1:av}{r:Bool}(h:lj a0 a1=some r):EvP prog aV ext 172 [.d (bD.pd a0),.d (av.pd a1)] [] (rB r,[]):=by
 refine Ev.body Z Tryz.func172 Z Zk<|gU Z<|sB (.ptr 32 0) 32 (.var (bD.rc a0))<|sB (.ptr 48 0) 48 (.var (av.rc a1))<|sU<|sN<|gU Z<|sV (.ptr 48 9)<|sV (.d (az.pd a1.aa))<|sB (.ptr 80 0) 80 (.var [.mo,r0,r0,r0,r0,r0,r0,r0,r0,r0,r0,r0,r0,r0,r0,r0])<|sH 80 (.var (az.rc a1.aa))<|sN<|gU Z<|sV (.ptr 80 15)<|sL Z ?_
 refine sF h ?_ ?_<;>intro h
 ·refine sM Z<|sV (.ptr 80 13)<|sV (.ptr 80 13)<|sL Z<|sV (.ptr 32 0)<|sL Z<|sV (rB (decide (a1.aa.aA.aW>=a0.aA)))<|sF h ?_ ?_<;>intro h
  ·refine sM Z<|sV (.ptr 80 0)<|sL Z<|sE (rI (a1.aa.aX.length:Int)) (oM _ _)<|sV (.ptr 32 1)<|sL Z<|sV (rB (decide ((a1.aa.aX.length:Int)>=a0.aX)))<|sF h ?_ ?_<;>intro h
   ·refine sM Z<|sV (.ptr 80 1)<|sV (.ptr 80 5)<|sL Z<|sV (.ptr 32 2)<|sL Z<|sV (rB (decide (a1.aa.ac.bc<=a0.bc)))<|sV (rB (decide (a1.aa.ac.bc<=a0.bc)))<|sA Z<|sN<|qR ?_
    cases oI h
    exact qG
   refine sM Z<|k3<|k3<|sU<|sA Z<|sN<|qR ?_
   cases oI h
   exact qG
  refine sM Z<|k3<|k3<|sU<|sM Z<|k3<|sK<|sK<|sK ?_
  refine sU<|sA Z<|sN<|qR ?_
  cases oI h
  exact qG
 refine sM Z<|k3<|k3<|sU<|sM Z<|k3<|sK<|sK<|sK ?_
 refine sU<|sM Z<|k3<|k3<|sU<|sA Z<|sN<|qR ?_
 cases oI h
 exact qG
theorem eK{a0:aQ}{a1:av}{r:Int}(h:eh a0 a1=some r):EvP prog aV ext 98 [.d (aQ.pd a0),.d (av.pd a1)] [] (rI r,[]):=by
 refine Ev.body Z Tryz.func98 Z Zk<|gU Z<|sB (.ptr 32 0) 32 (.var (aQ.rc a0))<|sB (.ptr 48 0) 48 (.var (av.rc a1))<|sV (r0)<|sN<|gU Z<|sV (r0)<|sN<|qS<|gU Z<|sV (r0)<|sN<|bE h fun o12 ho12 h=>WC.block (WC.loop (WL.pJ ho12 (fun s=>gI 0 98 3 [(2,.ptr 32 0),(3,.ptr 48 0),(5,rI s.1),(6,rI s.2)] [(32,.var (aQ.rc a0)),(48,.var (av.rc a1))]) (fun o=>gX 0 0 98 7 [(5,rI o)] []) Z ?_ ?_))
 ·rintro⟨s1,s2⟩ R' B' q4 hI h
  refine qS<|gS Z hI<|sM Z<|sV (.ptr 32 0)<|sL Z<|sE (rI (a0.ce.length:Int)) (oM _ _)<|sF h ?_ ?_<;>intro h
  ·refine sM Z<|sV (.d (aQ.pd a0))<|bE h fun x6 h6 h=>cD (iD h6)<|sV (rB (x6==(0:Int)))<|sF h ?_ ?_<;>intro h
   ·refine sN<|cT<|qK<|qS<|qB<|WC.lU Z Z<|sV (.ptr 32 0)<|sL Z<|sM Z<|bE h fun x8 h8 h=>eG h8 Z<|sV (.d (bD.pd x8))<|sV (.d (av.pd a1))<|bE h fun x9 h9 h=>pP h (fun hb10 h=>?_) (fun hb10 h=>?_)
    ·refine WO.pV (v:=rB true) (u:=[]) Z Z (fun _=>Z) Z Z Z Z Z (nN h9) Z Z (congrArg (fun b=>RV.d (.bool b)) hb10) Z ?_
     refine sN<|sO<|cT<|WC.region Z Z<|sM Z<|sV (rI (rW (s2+(1:Int))))<|sA Z<|sN<|WC.region Z Z<|sM Z<|sV (rI (rW (s2+(1:Int))))<|sA Z<|sN ?_
     cases oI h
     exact⟨rfl,rfl⟩
    refine WO.pV (v:=rB false) (u:=[]) Z Z (fun _=>Z) Z Z Z Z Z (nN h9) Z Z (congrArg (fun b=>RV.d (.bool b)) hb10) Z ?_
    refine sN<|sO<|cF<|qK<|WC.region Z Z<|sM Z<|sV (rI (rW (s2+(1:Int))))<|sA Z<|sN ?_
    cases oI h
    exact⟨rfl,rfl⟩
   refine sN<|cF<|qX ?_
   cases oI h
   exact⟨nofun,rfl,rfl⟩
  refine sM Z<|k3<|sU<|sN<|cF<|qX ?_
  cases oI h
  exact⟨nofun,rfl,rfl⟩
 intro e R' B' he hq
 obtain⟨rfl,hI⟩:=hq
 refine qE<|gS Z hI<|sM Z<|sA Z<|sN<|qR ?_
 exact oI h▸qD
theorem ref32_Agree_ev{a0:aH}{a1:aH}{r:Bool}(h:nK a0 a1=some r):EvP prog aV ext 173 [.d (aH.pd a0),.d (aH.pd a1)] [] (rB r,[]):=by
 refine Ev.body Z Tryz.func173 Z Zk<|gU Z<|sB (.ptr 32 0) 32 (.var (aH.rc a0))<|sB (.ptr 48 0) 48 (.var (aH.rc a1))<|sU<|sN<|gU Z<|sV (.ptr 32 0)<|sL Z<|sV (.ptr 48 0)<|sL Z<|sV (rI (if a1.aW>a0.aW then a1.aW else a0.aW))<|sV (.ptr 32 1)<|sL Z<|sV (.ptr 48 1) ?_
 refine sL Z<|sV (rI (if a1.aN<a0.aN then a1.aN else a0.aN))<|sV (rB (decide ((if a1.aW>a0.aW then a1.aW else a0.aW)<=(if a1.aN<a0.aN then a1.aN else a0.aN))))<|sA Z<|sN<|qR ?_
 exact oI h▸qD
theorem nJ{a0:ai}{r:Bool}(h:jI a0=some r):EvP prog aV ext 222 [.d (ai.pd a0)] [] (rB r,[]):=by
 refine Ev.body Z Tryz.func222 Z Zk<|gU Z<|sB (.ptr 16 0) 16 (.var (ai.rc a0))<|sU<|sN<|gU Z<|sV (.ptr 16 0)<|sL Z<|sF h ?_ ?_<;>intro h
 ·refine sM Z<|sV (.ptr 16 0)<|sL Z<|sV (rB (decide (a0.fX<=(1048576:Int))))<|sF h ?_ ?_<;>intro h
  ·refine sM Z<|sV (.ptr 16 1)<|sL Z<|sV (rB (decide (a0.fY>=(-1048576:Int))))<|sF h ?_ ?_<;>intro h
   ·refine sM Z<|sV (.ptr 16 1)<|sL Z<|sV (rB (decide (a0.fY<=(1048576:Int))))<|sF h ?_ ?_<;>intro h
    ·refine sM Z<|sV (.ptr 16 2)<|sL Z<|sV (rB (decide (a0.fZ>=(-16384:Int))))<|sF h ?_ ?_<;>intro h
     ·refine sM Z<|sV (.ptr 16 2)<|sL Z<|sV (rB (decide (a0.fZ<=(1048576:Int))))<|sV (rB (decide (a0.fZ<=(1048576:Int))))<|sA Z<|sN<|qR ?_
      exact oI h▸qD
     refine sM Z<|k3<|sU<|sA Z<|sN<|qR ?_
     exact oI h▸qD
    refine sM Z<|k3<|sU<|sM Z<|k3<|sU<|sA Z<|sN<|qR ?_
    exact oI h▸qD
   refine sM Z<|k3<|sU<|sM Z<|k3<|sU<|sM Z<|k3<|sU ?_
   refine sA Z<|sN<|qR ?_
   exact oI h▸qD
  refine sM Z<|k3<|sU<|sM Z<|k3<|sU<|sM Z<|k3<|sU ?_
  refine sM Z<|k3<|sU<|sA Z<|sN<|qR ?_
  exact oI h▸qD
 refine sM Z<|k3<|sU<|sM Z<|k3<|sU<|sM Z<|k3<|sU ?_
 refine sM Z<|k3<|sU<|sM Z<|k3<|sU<|sA Z<|sN<|qR ?_
 exact oI h▸qD
theorem jU{a0:Int}{r:Int}(h:iz a0=some r):EvP prog aV ext 223 [rI a0] [] (rI r,[]):=by
 refine Ev.body Z Tryz.func223 Z Zk<|gU Z<|sV (r0)<|sN<|gU Z<|mM Z<|sV (rI (rW (a0*a0)))<|sA Z<|sN<|qR ?_
 exact oI h▸qD
theorem ref24_Square_ev{a0:ai}{a1:ai}{r:Int}(h:kk a0 a1=some r):EvP prog aV ext 174 [.d (ai.pd a0),.d (ai.pd a1)] [] (rI r,[]):=by
 refine Ev.body Z Tryz.func174 Z Zk<|gU Z<|sB (.ptr 32 0) 32 (.var (ai.rc a0))<|sB (.ptr 48 0) 48 (.var (ai.rc a1))<|sV (r0)<|sN<|qS<|gU Z<|sV (.d (ai.pd a0))<|bE h fun x1 h1 h=>cD (nJ h1)<|sF h ?_ ?_<;>intro h
 ·refine sM Z<|k3<|sT<|sN<|cT<|gU Z<|sV (r0)<|sN<|qR ?_
  exact oI h▸qD
 refine sM Z<|sV (.d (ai.pd a1))<|bE h fun x3 h3 h=>cD (nJ h3)<|sV (rB (!x3))<|sF h ?_ ?_<;>intro h
 ·refine sN<|cT<|gU Z<|sV (r0)<|sN<|qR ?_
  exact oI h▸qD
 refine sN<|cF<|qK<|WC.lU Z Z<|sV (.ptr 32 0)<|sL Z<|sV (.ptr 48 0)<|sL Z<|sV (rI (rW (a0.fX-a1.fX)))<|bE h fun x5 h5 h=>cD (jU h5)<|sV (.ptr 32 1)<|sL Z<|sV (.ptr 48 1)<|sL Z ?_
 refine sV (rI (rW (a0.fY-a1.fY)))<|bE h fun x6 h6 h=>cD (jU h6)<|sV (rI (rW (x5+x6)))<|sV (.ptr 32 2)<|sL Z<|sV (.ptr 48 2)<|sL Z<|sV (rI (rW (a0.fZ-a1.fZ)))<|bE h fun x7 h7 h=>cD (jU h7)<|sV (rI (rW ((rW (x5+x6))+x7)))<|sA Z ?_
 refine sN<|sO<|qR ?_
 exact oI h▸qD
theorem nO{a0:aQ}{a1:av}{a2:av}{r:Bool}(h:lk a0 a1 a2=some r):EvP prog aV ext 99 [.d (aQ.pd a0),.d (av.pd a1),.d (av.pd a2)] [] (rB r,[]):=by
 refine Ev.body Z Tryz.func99 Z Zk<|gU Z<|sB (.ptr 48 0) 48 (.var (aQ.rc a0))<|sB (.ptr 64 0) 64 (.var (av.rc a1))<|sB (.ptr 80 0) 80 (.var (av.rc a2))<|sU<|sN<|qS<|gU Z<|sV (.d (aQ.pd a0))<|bE h fun x1 h1 h=>cD (iD h1)<|sF h ?_ ?_<;>intro h
 ·refine sN<|cT<|gU Z<|sU<|sN<|qR ?_
  cases oI h
  exact qG
 refine sN<|cF<|qK<|WC.lU Z Z<|sV (.ptr 64 9)<|sV (.ptr 64 10)<|sV (.d (aD.pd a1.aa.ac))<|sV (.ptr 80 9)<|sV (.ptr 80 10)<|sV (.d (aD.pd a2.aa.ac))<|sB (.ptr 112 0) 112 (.var [r0,r0,r0,r0,r0,r0,r0,r0,r0,r0,r0,r0])<|sB (.ptr 128 0) 128 (.var [r0,r0,r0,r0,r0,r0,r0,r0,r0,r0,r0,r0])<|sH 112 (.var (aD.rc a1.aa.ac))<|sH 128 (.var (aD.rc a2.aa.ac)) ?_
 refine sN<|sO<|qS<|WC.lU Z Z<|sV (.d (aQ.pd a0))<|sV (.d (av.pd a1))<|bE h fun x3 h3 h=>cD (eK h3)<|sV (.d (aQ.pd a0))<|sV (.d (av.pd a2))<|bE h fun x4 h4 h=>cD (eK h4)<|sF h ?_ ?_<;>intro h
 ·refine sM Z<|k3<|k3<|sK<|sK<|sT ?_
  refine sN<|sO<|cT<|gU Z<|sT<|sN<|qR ?_
  cases oI h
  exact qG
 refine sM Z<|sV (.ptr 64 9)<|sV (.ptr 64 22)<|sV (.d (aH.pd a1.aa.aA))<|sV (.ptr 80 9)<|sV (.ptr 80 22)<|sV (.d (aH.pd a2.aa.aA))<|bE h fun x6 h6 h=>cD (ref32_Agree_ev h6)<|sV (rB (!x6))<|sF h ?_ ?_<;>intro h
 ·refine sN<|sO<|cT<|gU Z<|sT<|sN<|qR ?_
  cases oI h
  exact qG
 refine sN<|sO<|cF<|qK<|WC.join (α:=Unit) (fun x R' B'=>p6 prog 0 (A R' B') (aV.at_ 99 0 8)=some (A [(3,.ptr 48 0),(7,.ptr 112 0),(8,.ptr 128 0)] [(48,.var (aQ.rc a0)),(112,.var (aD.rc a1.aa.ac)),(128,.var (aD.rc a2.aa.ac))])) (fun x=>iC a2 a1 a0=some r) ?_ ?_
 ·refine WC.lU Z Z<|sV (.ptr 48 1)<|sL Z<|sF h ?_ ?_<;>intro h
  ·refine sM Z<|sV (.ptr 112 0)<|sV (.d (ai.pd a1.aa.ac.aO))<|sV (.ptr 128 0)<|sV (.d (ai.pd a2.aa.ac.aO))<|bE h fun x10 h10 h=>cD (ref24_Square_ev h10)<|sV (.ptr 48 1)<|sL Z<|sV (.ptr 48 1)<|sL Z<|sV (rI (rW (a0.dZ*a0.dZ)))<|sV (rB (decide (x10>(rW (a0.dZ*a0.dZ)))))<|sF h ?_ ?_<;>intro h
   ·refine sN<|sO<|cT<|gU Z<|sT<|sN<|qR ?_
    cases oI h
    exact qG
   exact sN<|sO<|cF<|qK<|⟨(),rfl,h⟩
  refine sM Z<|k3<|k3<|k3<|sK<|sK<|sU ?_
  exact sN<|sO<|cF<|qK<|⟨(),rfl,h⟩
 rintro⟨⟩ R' B' hI h
 refine gS Z hI<|sV (.ptr 112 3)<|sL Z<|sV (.ptr 128 3)<|sL Z<|sV (rI (rW (a1.aa.ac.aP-a2.aa.ac.aP)))<|sV (.ptr 128 3)<|sL Z<|sV (.ptr 112 3)<|sL Z<|sV (rI (rW (a2.aa.ac.aP-a1.aa.ac.aP)))<|sV (rI (if(rW (a2.aa.ac.aP-a1.aa.ac.aP))>(rW (a1.aa.ac.aP-a2.aa.ac.aP))then(rW (a2.aa.ac.aP-a1.aa.ac.aP))else(rW (a1.aa.ac.aP-a2.aa.ac.aP))))<|sV (.ptr 48 1)<|sL Z<|sV (rB (decide ((if(rW (a2.aa.ac.aP-a1.aa.ac.aP))>(rW (a1.aa.ac.aP-a2.aa.ac.aP))then(rW (a2.aa.ac.aP-a1.aa.ac.aP))else(rW (a1.aa.ac.aP-a2.aa.ac.aP)))>a0.dZ))) ?_
 refine sA Z<|sN<|qR ?_
 cases oI h
 exact qG
theorem oF{a0:(List Int)}{a1:Int}{r:Bool}(h:mQ a0 a1=some r):EvP prog aV ext 100 [rL a0,rI a1] [] (rB r,[]):=by
 refine Ev.body Z Tryz.func100 Z Zk<|gU Z<|sU<|sN<|qS<|gU Z<|sV (r0)<|sN<|bE h fun o7 ho7 h=>WC.block (WC.loop (WL.pJ ho7 (fun s=>gI 0 100 2 [(0,rL a0),(1,rI a1),(5,rI s)] []) (fun o=>match o with| .inl y=>gX 0 0 100 6 [] []| .inr r=>gF 100 Tryz.f100 0 (rB r,[])) Z ?_ ?_))
 ·rintro s1 R' B' q2 hI h
  refine qS<|gS Z hI<|mM Z<|sE (rI (a0.length:Int)) (oM _ _)<|sF h ?_ ?_<;>intro h
  ·refine sN<|cT<|qK<|qS<|qB<|gU Z<|mM Z<|bE h fun x4 h4 h=>eG h4 Z<|sC Z<|sM Z<|sF h ?_ ?_<;>intro h
   ·refine sN<|cT<|gU Z<|sT<|sN<|qR ?_
    cases oI h
    exact⟨nofun,rfl,rfl⟩
   refine sN<|cF<|qK<|WC.region Z Z<|sM Z<|sV (rI (rW (s1+(1:Int))))<|sA Z<|sN ?_
   cases oI h
   exact⟨rfl,rfl⟩
  refine sN<|cF<|qX ?_
  cases oI h
  exact⟨nofun,rfl,rfl⟩
 intro e R' B' he hq
 rcases o7 with y8|r9
 ·obtain⟨rfl,hI⟩:=hq
  refine qE<|gS Z hI<|sU<|sN<|qR ?_
  exact oI h▸qD
 obtain⟨rfl,hf⟩:=hq
 cases oI h
 exact hf
theorem ref35_Timely_ev{a0:aQ}{a1:av}{a2:Int}{r:Bool}(h:kl a0 a1 a2=some r):EvP prog aV ext 101 [.d (aQ.pd a0),.d (av.pd a1),rI a2] [] (rB r,[]):=by
 refine Ev.body Z Tryz.func101 Z Zk<|gU Z<|sB (.ptr 48 0) 48 (.var (aQ.rc a0))<|sB (.ptr 64 0) 64 (.var (av.rc a1))<|sU<|sN<|gU Z<|sV (.d (aQ.pd a0))<|sV (.d (av.pd a1))<|bE h fun x1 h1 h=>cD (eK h1)<|sA Z<|sN<|qS<|gU Z ?_
 refine sM Z<|sF h ?_ ?_<;>intro h
 ·refine sN<|cT<|gU Z<|sU<|sN<|qR ?_
  cases oI h
  exact qG
 refine sN<|cF<|qK<|gU Z<|sM Z<|sV (.ptr 64 9)<|sV (.ptr 64 10)<|sV (.ptr 64 13)<|sL Z<|sV (rI (rW (a2-a1.aa.ac.aP)))<|sA Z<|sN<|gU Z<|sM Z<|sF h ?_ ?_<;>intro h
 ·refine mM Z<|sV (.ptr 48 0)<|sL Z<|sM Z<|sV (rI (rW (x1-(1:Int))))<|bE h fun x4 h4 h=>eG h4 Z<|sV (.cptr [.int .i64 x4.mC])<|sC Z<|sV (rB (decide ((rW (a2-a1.aa.ac.aP))<=x4.mC)))<|sV (rB (decide ((rW (a2-a1.aa.ac.aP))<=x4.mC)))<|sA Z<|sN<|qR ?_
  cases oI h
  exact qG
 refine sM Z<|k3<|k3<|k3<|sU<|sA Z<|sN<|qR ?_
 cases oI h
 exact qG
theorem ref36_Step_ev{a0:aQ}{a1:(List aM)}{a2:Int}{a3:(List av)}{a4:Int}{r:(List aM)×(List aj)×Int}(h:mN a0 a1 a2 a3 a4=some r):EvP prog aV ext 46 [.d (aQ.pd a0),rM aM.pd a1,rI a2,rM av.pd a3,rI a4] [] (.tup [rM aM.pd r.1,rM aj.pd r.2.1,rI r.2.2],[]):=by
 refine Ev.body Z Tryz.func46 Z Zk<|gU Z<|sB (.ptr 80 0) 80 (.var (aQ.rc a0))<|sV .mo<|sV .mo<|sV (r0)<|sN<|qS<|gU Z<|sV (.d (aQ.pd a0))<|mM Z<|mM Z<|bE h fun x1 h1 h=>?_
 refine cD (ref36_Errors_ev h1)<|sA Z<|sN<|gU Z<|sM Z<|sF h ?_ ?_<;>intro h
 ·refine sN<|cT<|gU Z<|sM Z<|sV .mo<|sV .mo<|sA Z<|sN<|qR ?_
  exact oI h▸qD
 refine sN<|cF<|qK<|gU Z<|mM Z<|bE h fun x3 h3 h=>cD (ref36_Follow_ev h3)<|sA Z<|sN<|gU Z<|sV .mo<|sN<|gU Z<|sV .mo ?_
 refine sN<|qS<|gU Z<|sV (r0)<|sN<|bE h fun o73 ho73 h=>WC.block (WC.loop (WL.pJ ho73 (fun s=>gI 0 46 8 [(1,rM aM.pd a1),(2,rI a2),(3,rM av.pd a3),(4,rI a4),(5,.ptr 80 0),(14,rL x3),(15,.ref 2112 0),(16,.ref 2048 0),(17,rI s.1)] [(80,.var (aQ.rc a0)),(2048,.arr 0 59 (s.2.2.map aj.pd)),(2112,.arr 0 61 (s.2.1.map aM.pd))]) (fun o=>gX 0 0 46 24 [(2,rI a2),(3,rM av.pd a3),(4,rI a4),(5,.ptr 80 0),(14,rL x3),(15,.ref 2112 0),(16,.ref 2048 0)] [(80,.var (aQ.rc a0)),(2048,.arr 0 59 (o.2.map aj.pd)),(2112,.arr 0 61 (o.1.map aM.pd))]) Z ?_ ?_))
 ·rintro⟨s4,s5,s6⟩ R' B' q9 hI h
  refine qS<|gS Z hI<|mM Z<|sE (rI (a1.length:Int)) (oM _ _)<|sF h ?_ ?_<;>intro h
  ·refine sN<|cT<|qK<|qS<|qB<|gU Z<|mM Z<|bE h fun x11 h11 h=>eG h11 Z<|sV (.d (aM.pd x11))<|sB (.ptr 288 0) 288 (.var [r0,rB false,rS [],rS [],rS [],rS [],r0,r0,r0,r0,r0,r0,rS [],rS [],rS [],rS [],r0,r0,r0,r0,r0,.mo,r0,r0,r0,r0,r0,r0,r0,r0,r0,r0,r0,r0,r0,r0,r0,r0])<|sH 288 (.var (aM.rc x11))<|sN<|gU Z ?_
   refine sV (r0)<|sN<|WC.join (α:=(List UInt8)×(List UInt8)×(List UInt8)×(List UInt8)×Int×Int×Int×Int×Int) (fun x R' B'=>p6 prog 0 (A R' B') (aV.at_ 46 0 14)=some (A [(1,rM aM.pd a1),(2,rI a2),(3,rM av.pd a3),(4,rI a4),(5,.ptr 80 0),(14,rL x3),(15,.ref 2112 0),(16,.ref 2048 0),(17,rI s4),(18,.ptr 288 0),(19,r0)] [(80,.var (aQ.rc a0)),(288,.var (rI x11.fID::rB x11.bA::rS x.1::rS x.2.1::rS x.2.2.1::rS x.2.2.2.1::rI x.2.2.2.2.1::rI x.2.2.2.2.2.1::rI x.2.2.2.2.2.2.1::rI x.2.2.2.2.2.2.2.1::rI x.2.2.2.2.2.2.2.2::rI x11.bw::av.rc x11.ah++[rI x11.fAt])),(2048,.arr 0 59 (s6.map aj.pd)),(2112,.arr 0 61 (s5.map aM.pd))])) (fun x=>fU x3 s4 x11 s6 a2 a4 s5 a3 a0 x.1 x.2.1 x.2.2.1 x.2.2.2.1 x.2.2.2.2.1 x.2.2.2.2.2.1 x.2.2.2.2.2.2.1 x.2.2.2.2.2.2.2.1 x.2.2.2.2.2.2.2.2=some q9) ?_ ?_
   ·refine gU Z<|mM Z<|bE h fun x68 h68 h=>eG h68 Z<|sC Z<|sF h ?_ ?_<;>intro h
    ·refine sN<|cT<|WC.region Z Z<|mM Z<|sM Z<|bE h fun x70 h70 h=>eG h70 Z<|sC Z<|bE h fun x71 h71 h=>eG h71 Z<|sV (.cptr [.str x71.ap.ar.aT,.str x71.ap.ar.aU,.str x71.ap.ar.ac,.str x71.ap.ar.aS,.int .i64 x71.ap.aP,.int .i64 x71.ap.aZ,.int .i64 x71.ap.bg,.int .i64 x71.ap.aI,.int .i64 x71.ap.aL,.lst (x71.aa.aX.map ag.pd),.int .i64 x71.aa.ac.aO.fX,.int .i64 x71.aa.ac.aO.fY,.int .i64 x71.aa.ac.aO.fZ,.int .i64 x71.aa.ac.aP,.int .i64 x71.aa.ac.bc,.int .i64 x71.aa.ac.bu,.int .i64 x71.aa.ac.aF.aW.fX,.int .i64 x71.aa.ac.aF.aW.fY,.int .i64 x71.aa.ac.aF.aW.fZ,.int .i64 x71.aa.ac.aF.aN.fX,.int .i64 x71.aa.ac.aF.aN.fY,.int .i64 x71.aa.ac.aF.aN.fZ,.int .i64 x71.aa.aA.aW,.int .i64 x71.aa.aA.aN,.int .i64 x71.aa.bn])<|sV (.d (ag.pd x71.ap))<|sV (.ptr 288 2)<|sH 288 (.var (rI x11.fID::rB x11.bA::ag.rc x71.ap++rI x11.bw::av.rc x11.ah++[rI x11.fAt])) ?_
     exact sN<|⟨(x71.ap.ar.aT,x71.ap.ar.aU,x71.ap.ar.ac,x71.ap.ar.aS,x71.ap.aP,x71.ap.aZ,x71.ap.bg,x71.ap.aI,x71.ap.aL),rfl,h⟩
    exact sN<|cF<|qK<|⟨(x11.ap.ar.aT,x11.ap.ar.aU,x11.ap.ar.ac,x11.ap.ar.aS,x11.ap.aP,x11.ap.aZ,x11.ap.bg,x11.ap.aI,x11.ap.aL),rfl,h⟩
   rintro⟨j12,j13,j14,j15,j16,j17,j18,j19,j20⟩ R' B' hI h
   refine WC.join (α:=Int×Bool×Int×(List UInt8)×(List UInt8)×(List UInt8)×(List UInt8)×Int×Int×Int×Int×Int×(List ag)×Int×Int×Int×Int×Int×Int×Int×Int×Int×Int×Int×Int×Int×Int×Int) (fun x R' B'=>p6 prog 0 (A R' B') (aV.at_ 46 0 20)=some (A [(1,rM aM.pd a1),(2,rI a2),(3,rM av.pd a3),(4,rI a4),(5,.ptr 80 0),(14,rL x3),(15,.ref 2112 0),(16,.ref 2048 0),(17,rI s4),(18,.ptr 288 0),(19,rI x.1)] [(80,.var (aQ.rc a0)),(288,.var [rI x11.fID,rB x.2.1,rS j12,rS j13,rS j14,rS j15,rI j16,rI j17,rI j18,rI j19,rI j20,rI x.2.2.1,rS x.2.2.2.1,rS x.2.2.2.2.1,rS x.2.2.2.2.2.1,rS x.2.2.2.2.2.2.1,rI x.2.2.2.2.2.2.2.1,rI x.2.2.2.2.2.2.2.2.1,rI x.2.2.2.2.2.2.2.2.2.1,rI x.2.2.2.2.2.2.2.2.2.2.1,rI x.2.2.2.2.2.2.2.2.2.2.2.1,rM ag.pd x.2.2.2.2.2.2.2.2.2.2.2.2.1,rI x.2.2.2.2.2.2.2.2.2.2.2.2.2.1,rI x.2.2.2.2.2.2.2.2.2.2.2.2.2.2.1,rI x.2.2.2.2.2.2.2.2.2.2.2.2.2.2.2.1,rI x.2.2.2.2.2.2.2.2.2.2.2.2.2.2.2.2.1,rI x.2.2.2.2.2.2.2.2.2.2.2.2.2.2.2.2.2.1,rI x.2.2.2.2.2.2.2.2.2.2.2.2.2.2.2.2.2.2.1,rI x.2.2.2.2.2.2.2.2.2.2.2.2.2.2.2.2.2.2.2.1,rI x.2.2.2.2.2.2.2.2.2.2.2.2.2.2.2.2.2.2.2.2.1,rI x.2.2.2.2.2.2.2.2.2.2.2.2.2.2.2.2.2.2.2.2.2.1,rI x.2.2.2.2.2.2.2.2.2.2.2.2.2.2.2.2.2.2.2.2.2.2.1,rI x.2.2.2.2.2.2.2.2.2.2.2.2.2.2.2.2.2.2.2.2.2.2.2.1,rI x.2.2.2.2.2.2.2.2.2.2.2.2.2.2.2.2.2.2.2.2.2.2.2.2.1,rI x.2.2.2.2.2.2.2.2.2.2.2.2.2.2.2.2.2.2.2.2.2.2.2.2.2.1,rI x.2.2.2.2.2.2.2.2.2.2.2.2.2.2.2.2.2.2.2.2.2.2.2.2.2.2.1,rI x.2.2.2.2.2.2.2.2.2.2.2.2.2.2.2.2.2.2.2.2.2.2.2.2.2.2.2,rI x11.fAt]),(2048,.arr 0 59 (s6.map aj.pd)),(2112,.arr 0 61 (s5.map aM.pd))])) (fun x=>cz s6 a2 x11 a4 s5 j12 j13 j14 j15 j16 j17 j18 j19 j20 s4 x.1 x.2.1 x.2.2.1 x.2.2.2.1 x.2.2.2.2.1 x.2.2.2.2.2.1 x.2.2.2.2.2.2.1 x.2.2.2.2.2.2.2.1 x.2.2.2.2.2.2.2.2.1 x.2.2.2.2.2.2.2.2.2.1 x.2.2.2.2.2.2.2.2.2.2.1 x.2.2.2.2.2.2.2.2.2.2.2.1 x.2.2.2.2.2.2.2.2.2.2.2.2.1 x.2.2.2.2.2.2.2.2.2.2.2.2.2.1 x.2.2.2.2.2.2.2.2.2.2.2.2.2.2.1 x.2.2.2.2.2.2.2.2.2.2.2.2.2.2.2.1 x.2.2.2.2.2.2.2.2.2.2.2.2.2.2.2.2.1 x.2.2.2.2.2.2.2.2.2.2.2.2.2.2.2.2.2.1 x.2.2.2.2.2.2.2.2.2.2.2.2.2.2.2.2.2.2.1 x.2.2.2.2.2.2.2.2.2.2.2.2.2.2.2.2.2.2.2.1 x.2.2.2.2.2.2.2.2.2.2.2.2.2.2.2.2.2.2.2.2.1 x.2.2.2.2.2.2.2.2.2.2.2.2.2.2.2.2.2.2.2.2.2.1 x.2.2.2.2.2.2.2.2.2.2.2.2.2.2.2.2.2.2.2.2.2.2.1 x.2.2.2.2.2.2.2.2.2.2.2.2.2.2.2.2.2.2.2.2.2.2.2.1 x.2.2.2.2.2.2.2.2.2.2.2.2.2.2.2.2.2.2.2.2.2.2.2.2.1 x.2.2.2.2.2.2.2.2.2.2.2.2.2.2.2.2.2.2.2.2.2.2.2.2.2.1 x.2.2.2.2.2.2.2.2.2.2.2.2.2.2.2.2.2.2.2.2.2.2.2.2.2.2.1 x.2.2.2.2.2.2.2.2.2.2.2.2.2.2.2.2.2.2.2.2.2.2.2.2.2.2.2=some q9) ?_ ?_
   ·refine gS Z hI<|mM Z<|bE h fun x54 h54 h=>eG h54 Z<|sC Z<|sA Z<|sN<|qB<|gU Z<|sV (.ptr 288 1)<|sF h ?_ ?_<;>intro h
    ·exact sA rfl<|sN<|cT<|qK<|⟨(0,x11.bA,x11.bw,x11.ah.ap.ar.aT,x11.ah.ap.ar.aU,x11.ah.ap.ar.ac,x11.ah.ap.ar.aS,x11.ah.ap.aP,x11.ah.ap.aZ,x11.ah.ap.bg,x11.ah.ap.aI,x11.ah.ap.aL,x11.ah.aa.aX,x11.ah.aa.ac.aO.fX,x11.ah.aa.ac.aO.fY,x11.ah.aa.ac.aO.fZ,x11.ah.aa.ac.aP,x11.ah.aa.ac.bc,x11.ah.aa.ac.bu,x11.ah.aa.ac.aF.aW.fX,x11.ah.aa.ac.aF.aW.fY,x11.ah.aa.ac.aF.aW.fZ,x11.ah.aa.ac.aF.aN.fX,x11.ah.aa.ac.aF.aN.fY,x11.ah.aa.ac.aF.aN.fZ,x11.ah.aa.aA.aW,x11.ah.aa.aA.aN,x11.ah.aa.bn),rfl,h⟩
    refine sA Z<|sN<|cF<|WC.lU Z Z<|sM Z<|sF h ?_ ?_<;>intro h
    ·refine sM Z<|k3<|k3<|sK<|sT<|sA Z ?_
     exact sN<|sO<|cT<|WC.region rfl rfl<|sV (.ptr 288 1)<|sS 288 (.var (rI x11.fID::rB true::rS j12::rS j13::rS j14::rS j15::rI j16::rI j17::rI j18::rI j19::rI j20::rI x11.bw::av.rc x11.ah++[rI x11.fAt]))<|sV (rI 3)<|sN<|⟨(3,true,x11.bw,x11.ah.ap.ar.aT,x11.ah.ap.ar.aU,x11.ah.ap.ar.ac,x11.ah.ap.ar.aS,x11.ah.ap.aP,x11.ah.ap.aZ,x11.ah.ap.bg,x11.ah.ap.aI,x11.ah.ap.aL,x11.ah.aa.aX,x11.ah.aa.ac.aO.fX,x11.ah.aa.ac.aO.fY,x11.ah.aa.ac.aO.fZ,x11.ah.aa.ac.aP,x11.ah.aa.ac.bc,x11.ah.aa.ac.bu,x11.ah.aa.ac.aF.aW.fX,x11.ah.aa.ac.aF.aW.fY,x11.ah.aa.ac.aF.aW.fZ,x11.ah.aa.ac.aF.aN.fX,x11.ah.aa.ac.aF.aN.fY,x11.ah.aa.ac.aF.aN.fZ,x11.ah.aa.aA.aW,x11.ah.aa.aA.aN,x11.ah.aa.bn),rfl,h⟩
    refine sM Z<|sV (.d (aQ.pd a0))<|mM Z<|bE h fun x57 h57 h=>eG h57 Z<|sV (.d (av.pd x57))<|bE h fun x58 h58 h=>cD (eK h58)<|sV (rB (x58==(0:Int)))<|sF h ?_ ?_<;>intro h
    ·refine sA Z ?_
     exact sN<|sO<|cT<|WC.region rfl rfl<|sV (.ptr 288 1)<|sS 288 (.var (rI x11.fID::rB true::rS j12::rS j13::rS j14::rS j15::rI j16::rI j17::rI j18::rI j19::rI j20::rI x11.bw::av.rc x11.ah++[rI x11.fAt]))<|sV (rI 3)<|sN<|⟨(3,true,x11.bw,x11.ah.ap.ar.aT,x11.ah.ap.ar.aU,x11.ah.ap.ar.ac,x11.ah.ap.ar.aS,x11.ah.ap.aP,x11.ah.ap.aZ,x11.ah.ap.bg,x11.ah.ap.aI,x11.ah.ap.aL,x11.ah.aa.aX,x11.ah.aa.ac.aO.fX,x11.ah.aa.ac.aO.fY,x11.ah.aa.ac.aO.fZ,x11.ah.aa.ac.aP,x11.ah.aa.ac.bc,x11.ah.aa.ac.bu,x11.ah.aa.ac.aF.aW.fX,x11.ah.aa.ac.aF.aW.fY,x11.ah.aa.ac.aF.aW.fZ,x11.ah.aa.ac.aF.aN.fX,x11.ah.aa.ac.aF.aN.fY,x11.ah.aa.ac.aF.aN.fZ,x11.ah.aa.aA.aW,x11.ah.aa.aA.aN,x11.ah.aa.bn),rfl,h⟩
    refine sA Z ?_
    refine sN<|sO<|cF<|WC.lU Z Z<|sV (.d (aQ.pd a0))<|sV (.ptr 288 12)<|sV (.d (av.pd x11.ah))<|mM Z<|bE h fun x60 h60 h=>eG h60 Z<|sV (.d (av.pd x60))<|bE h fun x61 h61 h=>pP h (fun hb62 h=>?_) (fun hb62 h=>?_)
    ·refine WO.pV (v:=rB true) (u:=[]) Z Z (fun _=>Z) Z Z Z Z Z (nO h61) Z Z (congrArg (fun b=>RV.d (.bool b)) hb62) Z<|mM Z<|sV (.ptr 288 37)<|sL Z<|sV (rI (rW (a4-x11.fAt)))<|sV (.ptr 80 2)<|sL Z<|sV (rB (decide ((rW (a4-x11.fAt))>=a0.fEvery)))<|sF h ?_ ?_<;>intro h
     ·refine sA Z ?_
      refine sN<|sO<|cT<|WC.rC Z Z<|sV (.d (aQ.pd a0))<|mM Z<|bE h fun x64 h64 h=>eG h64 Z<|sV (.d (av.pd x64))<|bE h fun x65 h65 h=>cD (eK h65)<|mM Z<|bE h fun x66 h66 h=>eG h66 Z ?_
      refine sV (.d (av.pd x66))<|sV (.ptr 288 11)<|sS 288 (.var (rI x11.fID::rB x11.bA::rS j12::rS j13::rS j14::rS j15::rI j16::rI j17::rI j18::rI j19::rI j20::rI x65::av.rc x11.ah++[rI x11.fAt]))<|sV (.ptr 288 12)<|sH 288 (.var (rI x11.fID::rB x11.bA::rS j12::rS j13::rS j14::rS j15::rI j16::rI j17::rI j18::rI j19::rI j20::rI x65::av.rc x66++[rI x11.fAt]))<|sV (rI 2) ?_
      exact sN<|sO<|⟨(2,x11.bA,x65,x66.ap.ar.aT,x66.ap.ar.aU,x66.ap.ar.ac,x66.ap.ar.aS,x66.ap.aP,x66.ap.aZ,x66.ap.bg,x66.ap.aI,x66.ap.aL,x66.aa.aX,x66.aa.ac.aO.fX,x66.aa.ac.aO.fY,x66.aa.ac.aO.fZ,x66.aa.ac.aP,x66.aa.ac.bc,x66.aa.ac.bu,x66.aa.ac.aF.aW.fX,x66.aa.ac.aF.aW.fY,x66.aa.ac.aF.aW.fZ,x66.aa.ac.aF.aN.fX,x66.aa.ac.aF.aN.fY,x66.aa.ac.aF.aN.fZ,x66.aa.aA.aW,x66.aa.aA.aN,x66.aa.bn),rfl,h⟩
     refine sA Z ?_
     exact sN<|sO<|cF<|qK<|⟨(0,x11.bA,x11.bw,x11.ah.ap.ar.aT,x11.ah.ap.ar.aU,x11.ah.ap.ar.ac,x11.ah.ap.ar.aS,x11.ah.ap.aP,x11.ah.ap.aZ,x11.ah.ap.bg,x11.ah.ap.aI,x11.ah.ap.aL,x11.ah.aa.aX,x11.ah.aa.ac.aO.fX,x11.ah.aa.ac.aO.fY,x11.ah.aa.ac.aO.fZ,x11.ah.aa.ac.aP,x11.ah.aa.ac.bc,x11.ah.aa.ac.bu,x11.ah.aa.ac.aF.aW.fX,x11.ah.aa.ac.aF.aW.fY,x11.ah.aa.ac.aF.aW.fZ,x11.ah.aa.ac.aF.aN.fX,x11.ah.aa.ac.aF.aN.fY,x11.ah.aa.ac.aF.aN.fZ,x11.ah.aa.aA.aW,x11.ah.aa.aA.aN,x11.ah.aa.bn),rfl,h⟩
    refine WO.pV (v:=rB false) (u:=[]) Z Z (fun _=>Z) Z Z Z Z Z (nO h61) Z Z (congrArg (fun b=>RV.d (.bool b)) hb62) Z<|sM Z<|k3<|k3<|sK<|sU<|sA Z ?_
    exact sN<|sO<|cF<|qK<|⟨(0,x11.bA,x11.bw,x11.ah.ap.ar.aT,x11.ah.ap.ar.aU,x11.ah.ap.ar.ac,x11.ah.ap.ar.aS,x11.ah.ap.aP,x11.ah.ap.aZ,x11.ah.ap.bg,x11.ah.ap.aI,x11.ah.ap.aL,x11.ah.aa.aX,x11.ah.aa.ac.aO.fX,x11.ah.aa.ac.aO.fY,x11.ah.aa.ac.aO.fZ,x11.ah.aa.ac.aP,x11.ah.aa.ac.bc,x11.ah.aa.ac.bu,x11.ah.aa.ac.aF.aW.fX,x11.ah.aa.ac.aF.aW.fY,x11.ah.aa.ac.aF.aW.fZ,x11.ah.aa.ac.aF.aN.fX,x11.ah.aa.ac.aF.aN.fY,x11.ah.aa.ac.aF.aN.fZ,x11.ah.aa.aA.aW,x11.ah.aa.aA.aN,x11.ah.aa.bn),rfl,h⟩
   rintro⟨j21,j22,j23,j24,j25,j26,j27,j28,j29,j30,j31,j32,j33,j34,j35,j36,j37,j38,j39,j40,j41,j42,j43,j44,j45,j46,j47,j48⟩ R' B' hI h
   refine qS<|gS Z hI<|sM Z<|sF h ?_ ?_<;>intro h
   ·refine sN<|cT<|gU Z<|sM Z<|sV (.ptr 288 37)<|sS 288 (.var [rI x11.fID,rB j22,rS j12,rS j13,rS j14,rS j15,rI j16,rI j17,rI j18,rI j19,rI j20,rI j23,rS j24,rS j25,rS j26,rS j27,rI j28,rI j29,rI j30,rI j31,rI j32,rM ag.pd j33,rI j34,rI j35,rI j36,rI j37,rI j38,rI j39,rI j40,rI j41,rI j42,rI j43,rI j44,rI j45,rI j46,rI j47,rI j48,rI a4])<|sN<|WC.region Z Z<|mM Z<|sM Z<|WO.tD Z Z Z Z Z Z Z Z Z<|sV (rI (rW (a2+(s6.length:Int))))<|sM Z<|sV (.ptr 288 0) ?_
    refine sL Z<|sM Z<|sV (.ptr 288 11)<|sL Z<|sV (.ptr 288 12)<|sV (.d (av.pd (av.mk (ag.mk (au.mk j24 j25 j26 j27) j28 j29 j30 j31 j32) (az.mk j33 (aD.mk (ai.mk j34 j35 j36) j37 j38 j39 (aY.mk (ai.mk j40 j41 j42) (ai.mk j43 j44 j45))) (aH.mk j46 j47) j48))))<|sG (.d (aj.pd (aj.mk (rW (a2+(s6.length:Int))) j21 x11.fID a4 j23 (av.mk (ag.mk (au.mk j24 j25 j26 j27) j28 j29 j30 j31 j32) (az.mk j33 (aD.mk (ai.mk j34 j35 j36) j37 j38 j39 (aY.mk (ai.mk j40 j41 j42) (ai.mk j43 j44 j45))) (aH.mk j46 j47) j48)))))<|sG (.d (.lst ([(aj.mk (rW (a2+(s6.length:Int))) j21 x11.fID a4 j23 (av.mk (ag.mk (au.mk j24 j25 j26 j27) j28 j29 j30 j31 j32) (az.mk j33 (aD.mk (ai.mk j34 j35 j36) j37 j38 j39 (aY.mk (ai.mk j40 j41 j42) (ai.mk j43 j44 j45))) (aH.mk j46 j47) j48)))].map aj.pd)))<|bE h fun x50 h50 h=>aR h50 (fun _=>Z) Z<|sA Z<|sN<|WC.region Z Z<|sM Z<|sV (.d (aM.pd (aM.mk x11.fID j22 (ag.mk (au.mk j12 j13 j14 j15) j16 j17 j18 j19 j20) j23 (av.mk (ag.mk (au.mk j24 j25 j26 j27) j28 j29 j30 j31 j32) (az.mk j33 (aD.mk (ai.mk j34 j35 j36) j37 j38 j39 (aY.mk (ai.mk j40 j41 j42) (ai.mk j43 j44 j45))) (aH.mk j46 j47) j48)) a4))) ?_
    refine sG (.d (.lst ([(aM.mk x11.fID j22 (ag.mk (au.mk j12 j13 j14 j15) j16 j17 j18 j19 j20) j23 (av.mk (ag.mk (au.mk j24 j25 j26 j27) j28 j29 j30 j31 j32) (az.mk j33 (aD.mk (ai.mk j34 j35 j36) j37 j38 j39 (aY.mk (ai.mk j40 j41 j42) (ai.mk j43 j44 j45))) (aH.mk j46 j47) j48)) a4)].map aM.pd)))<|bE h fun x51 h51 h=>aR h51 (fun _=>Z) Z<|sA Z<|sN<|WC.region Z Z<|sM Z<|sV (rI (rW (s4+(1:Int))))<|sA Z<|sN ?_
    cases oI h
    exact⟨rfl,rfl⟩
   refine sN<|cF<|qK<|WC.region Z Z<|sM Z<|sV (.d (aM.pd (aM.mk x11.fID j22 (ag.mk (au.mk j12 j13 j14 j15) j16 j17 j18 j19 j20) j23 (av.mk (ag.mk (au.mk j24 j25 j26 j27) j28 j29 j30 j31 j32) (az.mk j33 (aD.mk (ai.mk j34 j35 j36) j37 j38 j39 (aY.mk (ai.mk j40 j41 j42) (ai.mk j43 j44 j45))) (aH.mk j46 j47) j48)) x11.fAt)))<|sG (.d (.lst ([(aM.mk x11.fID j22 (ag.mk (au.mk j12 j13 j14 j15) j16 j17 j18 j19 j20) j23 (av.mk (ag.mk (au.mk j24 j25 j26 j27) j28 j29 j30 j31 j32) (az.mk j33 (aD.mk (ai.mk j34 j35 j36) j37 j38 j39 (aY.mk (ai.mk j40 j41 j42) (ai.mk j43 j44 j45))) (aH.mk j46 j47) j48)) x11.fAt)].map aM.pd)))<|bE h fun x52 h52 h=>aR h52 (fun _=>Z) Z<|sA Z<|sN<|WC.region Z Z<|sM Z<|sV (rI (rW (s4+(1:Int))))<|sA Z ?_
   refine sN ?_
   cases oI h
   exact⟨rfl,rfl⟩
  refine sN<|cF<|qX ?_
  cases oI h
  exact⟨nofun,rfl,rfl⟩
 intro e R' B' he hq
 obtain⟨rfl,hI⟩:=hq
 refine qE<|qS<|gS Z hI<|sV (r0)<|sN<|bE h fun o93 ho93 h=>WC.block (WC.loop (WL.pJ ho93 (fun s=>gI 0 46 25 [(2,rI a2),(3,rM av.pd a3),(4,rI a4),(5,.ptr 80 0),(14,rL x3),(15,.ref 2112 0),(16,.ref 2048 0),(21,rI s.1)] [(80,.var (aQ.rc a0)),(2048,.arr 0 59 (s.2.2.map aj.pd)),(2112,.arr 0 61 (s.2.1.map aM.pd))]) (fun o=>gX 3 0 46 31 [(2,rI a2),(15,.ref 2112 0),(16,.ref 2048 0)] [(2048,.arr 0 59 (o.2.map aj.pd)),(2112,.arr 0 61 (o.1.map aM.pd))]) Z ?_ ?_))
 ·rintro⟨s74,s75,s76⟩ R' B' q79 hI h
  refine qS<|gS Z hI<|mM Z<|sE (rI (a3.length:Int)) (oM _ _)<|sF h ?_ ?_<;>intro h
  ·refine sN<|cT<|qK<|qS<|qB<|qS<|WC.lU Z Z<|mM Z<|bE h fun x81 h81 h=>pP h (fun hb82 h=>?_) (fun hb82 h=>?_)
   ·refine WO.pV (v:=rB true) (u:=[]) Z Z (fun _=>Z) Z Z Z Z Z (oF h81) Z Z (congrArg (fun b=>RV.d (.bool b)) hb82) Z<|sM Z<|k3<|k3<|sK<|sK<|sT ?_
    refine sN<|sO<|cT<|qX<|qE<|WC.region Z Z<|sM Z<|sV (rI (rW (s74+(1:Int))))<|sA Z<|sN ?_
    cases oI h
    exact⟨rfl,rfl⟩
   refine WO.pV (v:=rB false) (u:=[]) Z Z (fun _=>Z) Z Z Z Z Z (oF h81) Z Z (congrArg (fun b=>RV.d (.bool b)) hb82) Z<|sM Z<|sV (.d (aQ.pd a0))<|mM Z<|bE h fun x83 h83 h=>eG h83 Z<|sV (.d (av.pd x83))<|sM Z<|bE h fun x84 h84 h=>cD (ref35_Timely_ev h84)<|sV (rB (!x84))<|sF h ?_ ?_<;>intro h
   ·refine sN<|sO<|cT<|qX<|qE<|WC.region Z Z<|sM Z<|sV (rI (rW (s74+(1:Int))))<|sA Z<|sN ?_
    cases oI h
    exact⟨rfl,rfl⟩
   refine sN<|sO<|cF<|qK<|WC.lU Z Z<|mM Z<|WO.tD Z Z Z Z Z Z Z Z Z<|sV (rI (rW (a2+(s76.length:Int))))<|mM Z<|bE h fun x86 h86 h=>eG h86 Z<|sV (.cptr [.str x86.ap.ar.aT,.str x86.ap.ar.aU,.str x86.ap.ar.ac,.str x86.ap.ar.aS,.int .i64 x86.ap.aP,.int .i64 x86.ap.aZ,.int .i64 x86.ap.bg,.int .i64 x86.ap.aI,.int .i64 x86.ap.aL,.lst (x86.aa.aX.map ag.pd),.int .i64 x86.aa.ac.aO.fX,.int .i64 x86.aa.ac.aO.fY,.int .i64 x86.aa.ac.aO.fZ,.int .i64 x86.aa.ac.aP,.int .i64 x86.aa.ac.bc,.int .i64 x86.aa.ac.bu,.int .i64 x86.aa.ac.aF.aW.fX,.int .i64 x86.aa.ac.aF.aW.fY,.int .i64 x86.aa.ac.aF.aW.fZ,.int .i64 x86.aa.ac.aF.aN.fX,.int .i64 x86.aa.ac.aF.aN.fY,.int .i64 x86.aa.ac.aF.aN.fZ,.int .i64 x86.aa.aA.aW,.int .i64 x86.aa.aA.aN,.int .i64 x86.aa.bn])<|sV (.d (ag.pd x86.ap))<|sV (.d (aQ.pd a0)) ?_
   refine mM Z<|bE h fun x87 h87 h=>eG h87 Z<|sV (.d (av.pd x87))<|bE h fun x88 h88 h=>cD (eK h88)<|mM Z<|bE h fun x89 h89 h=>eG h89 Z<|sV (.d (av.pd x89))<|sM Z<|sG (.d (aM.pd (aM.mk (rW (a2+(s76.length:Int))) false x86.ap x88 x89 a4)))<|sB (.ptr 352 0) 352 (.var [r0,rB false,rS [],rS [],rS [],rS [],r0,r0,r0,r0,r0,r0,rS [],rS [],rS [],rS [],r0,r0,r0,r0,r0,.mo,r0,r0,r0,r0,r0,r0,r0,r0,r0,r0,r0,r0,r0,r0,r0,r0]) ?_
   refine sH 352 (.var (rI (rW (a2+(s76.length:Int)))::rB false::ag.rc x86.ap++rI x88::av.rc x89++[rI a4])) ?_
   refine sN<|sO<|gU Z<|sM Z<|sV (.ptr 352 0)<|sL Z<|sV (.ptr 352 0)<|sL Z<|sM Z<|sV (.ptr 352 11)<|sL Z<|sV (.ptr 352 12)<|sV (.d (av.pd x89))<|sG (.d (aj.pd (aj.mk (rW (a2+(s76.length:Int))) 1 (rW (a2+(s76.length:Int))) a4 x88 x89)))<|sG (.d (.lst ([(aj.mk (rW (a2+(s76.length:Int))) 1 (rW (a2+(s76.length:Int))) a4 x88 x89)].map aj.pd)))<|bE h fun x90 h90 h=>?_
   refine aR h90 (fun _=>Z) Z<|sA Z<|sN<|WC.region Z Z<|sM Z<|sV (.d (aM.pd (aM.mk (rW (a2+(s76.length:Int))) false x86.ap x88 x89 a4)))<|sG (.d (.lst ([(aM.mk (rW (a2+(s76.length:Int))) false x86.ap x88 x89 a4)].map aM.pd)))<|bE h fun x91 h91 h=>aR h91 (fun _=>Z) Z<|sA Z<|sN<|WC.region Z Z<|sM Z<|sV (rI (rW (s74+(1:Int))))<|sA Z ?_
   refine sN ?_
   cases oI h
   exact⟨rfl,rfl⟩
  refine sN<|cF<|qX ?_
  cases oI h
  exact⟨nofun,rfl,rfl⟩
 intro e R' B' he hq
 obtain⟨rfl,hI⟩:=hq
 refine qE<|qS<|gS Z hI<|sM Z<|WO.tD Z Z Z Z Z Z Z Z Z<|sF h ?_ ?_<;>intro h
 ·refine sM Z<|k3<|k3<|k3<|sK<|sT<|sN<|cT<|gU Z ?_
  refine sV .mo<|sV .mo<|sV (rI 8)<|sN<|qR ?_
  exact oI h▸qD
 refine mM Z<|sM Z<|WO.tD Z Z Z Z Z Z Z Z Z<|sV (rI (rW (a2+(o93.2.length:Int))))<|sF h ?_ ?_<;>intro h
 ·refine mM Z<|WO.tD Z Z Z Z Z Z Z Z Z<|sV (rB (decide ((o93.2.length:Int)>(0:Int))))<|sV (rB (decide ((o93.2.length:Int)>(0:Int))))<|sF h ?_ ?_<;>intro h
  ·refine sN<|cT<|gU Z<|sV .mo<|sV .mo<|sV (rI 8)<|sN<|qR ?_
   exact oI h▸qD
  refine sN<|cF<|qK<|gU Z<|mM Z<|sA Z<|sA Z<|sV (r0)<|sN<|qR ?_
  exact oI h▸qD
 refine sM Z<|k3<|sU<|sU<|sN<|cF<|qK<|gU Z<|mM Z<|sA Z<|sA Z<|sV (r0) ?_
 refine sN<|qR ?_
 exact oI h▸qD
theorem law37_told_ev{a1:Int}{d0:aq}{r:(List aj)×aq}(h:mD a1 d0=some r):EvP prog aV ext 16 [.ptr 0 0,rI a1] [.var (aq.rc d0)] (rM aj.pd r.1,[.var (aq.rc r.2)]):=by
 refine Ev.body Z Tryz.func16 Z Zk<|gU Z<|sV .mo<|sN<|gU Z<|sV .mo<|sN<|gU Z<|sV .mo<|sN<|gU Z<|sM Z<|bE h fun x1 h1 h=>cR (.d (aQ.pd x1.1)) [(0,.var (aq.rc x1.2))] (Src_Policy_ev h1)<|sB (.ptr 112 0) 112 (.var [.mo,r0,r0]) ?_
 refine sS 112 (.var (aQ.rc x1.1))<|sV (rI 1000)<|sN<|qS<|gU Z<|sV (r0)<|sN<|bE h fun o19 ho19 h=>WC.block (WC.loop (WL.pJ ho19 (fun s=>gI 1 16 5 [(0,.ptr 0 0),(1,rI a1),(5,rM aM.pd s.1),(6,.ref 656 0),(7,.ptr 112 0),(8,rI s.2.1),(9,rI s.2.2.1)] [(0,.var [rL s.2.2.2.1,rI s.2.2.2.2.1]),(112,.var (aQ.rc x1.1)),(656,.arr 0 59 (s.2.2.2.2.2.map aj.pd))]) (fun o=>gX 0 1 16 11 [(6,.ref 656 0)] [(0,.var [rL o.2.1,rI o.2.2]),(656,.arr 0 59 (o.1.map aj.pd))]) Z ?_ ?_))
 ·rintro⟨s2,s3,s4,s5,s6,s7⟩ R' B' q11 hI h
  refine qS<|gS Z hI<|mM Z<|sF h ?_ ?_<;>intro h
  ·refine sN<|cT<|qK<|qS<|qB<|gU Z<|mM Z<|bE h fun x13 h13 h=>cR (rI x13.1) [(0,.var (aq.rc x13.2))] (cg h13)<|sV (rI (rW (s3+x13.1)))<|sA Z<|sN<|WC.lU Z Z<|sV (.d (aQ.pd x1.1)) ?_
   refine mM Z<|WO.tD Z Z Z Z Z Z Z Z Z<|sM Z<|bE h fun x14 h14 h=>cR (rM av.pd x14.1) [(0,.var (aq.rc x14.2))] (Src_Events_ev h14)<|sM Z<|bE h fun x15 h15 h=>cR (.tup [rM aM.pd x15.1,rM aj.pd x15.2.1,rI x15.2.2]) [] (ref36_Step_ev h15)<|sM Z<|sV (rM aM.pd x15.1)<|sV (rM aj.pd x15.2.1)<|sV (rI x15.2.2)<|sA Z<|sA Z ?_
   refine sA Z ?_
   refine sN<|sO<|gU Z<|sM Z<|sF h ?_ ?_<;>intro h
   ·refine sN<|cT<|WC.region Z Z<|mM Z<|sM Z<|bE h fun x17 h17 h=>aR h17 (fun _=>Z) Z<|sA Z<|sA Z<|sN<|WC.region Z Z<|sM Z<|sV (rI (rW (s4+(1:Int))))<|sA Z ?_
    refine sN ?_
    cases oI h
    exact⟨rfl,rfl⟩
   refine sN<|cF<|qK<|WC.region Z Z<|sM Z<|sV (rI (rW (s4+(1:Int))))<|sA Z<|sN ?_
   cases oI h
   exact⟨rfl,rfl⟩
  refine sN<|cF<|qX ?_
  cases oI h
  exact⟨nofun,rfl,rfl⟩
 intro e R' B' he hq
 obtain⟨rfl,hI⟩:=hq
 refine qE<|gS Z hI<|sM Z<|sA Z<|sN<|qR ?_
 exact oI h▸qD
theorem iH{a0:Int}{a1:Int}{a2:Int}{r:Bool}(h:jm a0 a1 a2=some r):EvP prog aV ext 102 [rI a0,rI a1,rI a2] [] (rB r,[]):=by
 refine Ev.body Z Tryz.func102 Z Zk<|gU Z<|sU<|sN<|gU Z<|mM Z<|sF h ?_ ?_<;>intro h
 ·refine mM Z<|sM Z<|sV (rB (decide (a0<=a2)))<|sV (rB (decide (a0<=a2)))<|sA Z<|sN<|qR ?_
  exact oI h▸qD
 refine sM Z<|k3<|sU<|sA Z<|sN<|qR ?_
 exact oI h▸qD
theorem sender_New_ev{a0:Int}{r:aG×Int}(h:o5 a0=some r):EvP prog aV ext 47 [rI a0] [] (.tup [.d (aG.pd r.1),rI r.2],[]):=by
 refine Ev.body Z Tryz.func47 Z Zk<|gU Z<|sB (.ptr 32 0) 32 (.var [r0,r0,.mo])<|sV (r0)<|sN<|qS<|gU Z<|sM Z<|bE h fun x1 h1 h=>cD (iH h1)<|sF h ?_ ?_<;>intro h
 ·refine sN<|cT<|gU Z<|sV (.agg [r0,r0,.mo])<|sS 32 (.var [r0,r0,.mo])<|sV (rI 2)<|sN<|qR ?_
  exact oI h▸qD
 refine sN<|cF<|qK<|gU Z<|sM Z<|sV (.agg [rI a0,r0,.mo])<|sS 32 (.var [rI a0,r0,.mo])<|sV (r0)<|sN<|qR ?_
 exact oI h▸qD
theorem cx{a0:Int}{a1:Int}{a2:Int}{r:Bool}(h:di a0 a1 a2=some r):EvP prog aV ext 48 [rI a0,rI a1,rI a2] [] (rB r,[]):=by
 refine Ev.body Z Tryz.func48 Z Zk<|gU Z<|sU<|sN<|gU Z<|mM Z<|sF h ?_ ?_<;>intro h
 ·refine mM Z<|sM Z<|sV (rB (decide (a0<=a2)))<|sV (rB (decide (a0<=a2)))<|sA Z<|sN<|qR ?_
  exact oI h▸qD
 refine sM Z<|k3<|sU<|sA Z<|sN<|qR ?_
 exact oI h▸qD
theorem receiver_New_ev{r:aw}(h:px=some r):EvP prog aV ext 49 [] [] (.d (aw.pd r),[]):=by
 refine Ev.body Z Tryz.func49 Z Zk<|gU Z<|sB (.ptr 0 0) 0 (.var [.mo,.mo])<|sN<|gU Z<|sV (.agg [.mo,.mo])<|sS 0 (.var [.mo,.mo])<|sN<|qR ?_
 exact oI h▸qD
theorem link_New_ev{r:aC}(h:link_New=some r):EvP prog aV ext 50 [] [] (.d (aC.pd r),[]):=by
 refine Ev.body Z Tryz.func50 Z Zk<|gU Z<|sB (.ptr 0 0) 0 (.var [r0,r0,.mo])<|sN<|gU Z<|sV (.agg [r0,r0,.mo])<|sS 0 (.var [r0,r0,.mo])<|sN<|qR ?_
 exact oI h▸qD
theorem session_New_ev{a0:Int}{a1:Int}{r:aK×Int}(h:ln a0 a1=some r):EvP prog aV ext 17 [rI a0,rI a1] [] (.tup [.d (aK.pd r.1),rI r.2],[]):=by
 refine Ev.body Z Tryz.func17 Z Zk<|gU Z<|sB (.ptr 64 0) 64 (.var zZ4)<|sV (r0)<|sN<|gU Z<|sM Z<|bE h fun x1 h1 h=>cR (.tup [.d (aG.pd x1.1),rI x1.2]) [] (sender_New_ev h1)<|sM Z<|sV (.d (aG.pd x1.1))<|sV (rI x1.2)<|sB (.ptr 96 0) 96 (.var [r0,r0,.mo])<|sS 96 (.var (aG.rc x1.1))<|sA Z ?_
 refine sN<|qS<|gU Z<|sM Z<|sF h ?_ ?_<;>intro h
 ·refine sM Z<|k3<|sT<|sN<|cT<|gU Z<|sG (.agg zZ4)<|sH 64 (.var zZ4)<|sV (rI 2)<|sN<|qR ?_
  cases oI h
  exact qG
 refine mM Z<|bE h fun x3 h3 h=>cD (cx h3)<|sV (rB (!x3))<|sF h ?_ ?_<;>intro h
 ·refine sN<|cT<|gU Z<|sG (.agg zZ4)<|sH 64 (.var zZ4)<|sV (rI 2)<|sN<|qR ?_
  cases oI h
  exact qG
 refine sN<|cF<|qK<|WC.lU Z Z<|sM Z<|sV (.d (aG.pd x1.1))<|bE h fun x5 h5 h=>cD (receiver_New_ev h5)<|bE h fun x6 h6 h=>cD (link_New_ev h6)<|bE h fun x7 h7 h=>cD (link_New_ev h7)<|sG (.agg (r0::rI a1::r0::aG.rc x1.1++aw.rc x5++aC.rc x6++aC.rc x7++[.mo]))<|sH 64 (.var (r0::rI a1::r0::aG.rc x1.1++aw.rc x5++aC.rc x6++aC.rc x7++[.mo]))<|sV (r0) ?_
 refine sN<|sO<|qR ?_
 cases oI h
 exact qG
end Go.Dw.Fc
