
import Derived.Test.YtmmgjlgoggielaaGreatEdFn
import Derived.Test.YtmmgjlgoggielaaGreatDwShort
import Derived.Test.YtmmgjlgoggielaaGreatDwNest
import Derived.Test.YtmmgjlgoggielaaGreatProg
import Derived.Test.YtmmgjlgoggielaaGreatDwClone
import Derived.Test.YtmmgjlgoggielaaGreatDwSortI
import Derived.Test.YtmmgjlgoggielaaGreatDwConst
import Derived.Test.YtmmgjlgoggielaaGreatDwSort

set_option maxRecDepth 100000
set_option maxHeartbeats 4000000
namespace Go.Dw.Ed
open Go.Proofs Go.Proofs.Tryz Go.Dw
@[reducible] def rW(n:Int):Int:=IntKind.wrap .i64 n
@[reducible] def rI(n:Int):RV:= .d (.int .i64 n)
@[reducible] def r0:RV:= .d (.int .i64 0)
@[reducible] def rS(s:List UInt8):RV:= .d (.str s)
@[reducible] def rB(b:Bool):RV:= .d (.bool b)
@[reducible] def rM{α:Type}(g:α->PD)(l:List α):RV:= .d (.lst (l.map g))
@[reducible] def rL(l:List Int):RV:= .d (.lst (l.map (PD.int .i64)))
@[reducible] def zZ0:List RV:=[.mA,.d (.int .i64 0),.d (.int .i64 0),.d (.int .i64 0),.d (.int .i64 0),.d (.int .i64 0),.d (.int .i64 0),.d (.int .i64 0),.d (.int .i64 0),.d (.int .i64 0),.d (.int .i64 0),.d (.int .i64 0),.d (.int .i64 0),.d (.int .i64 0),.d (.int .i64 0),.d (.int .i64 0)]
@[reducible] def zZ1:List RV:=[.d (.int .i64 0),.d (.int .i64 0),.d (.int .i64 0),.d (.int .i64 0),.d (.int .i64 0),.d (.int .i64 0),.d (.int .i64 0),.d (.int .i64 0),.d (.int .i64 0),.d (.int .i64 0),.d (.int .i64 0),.d (.int .i64 0)]
@[reducible] def zZ2:List RV:=[.d (.str []),.d (.str []),.d (.str []),.d (.str []),.d (.int .i64 0),.d (.int .i64 0),.d (.int .i64 0),.d (.int .i64 0),.d (.int .i64 0)]
@[reducible] def zZ3:List RV:=[.d (.int .i64 0),.d (.int .i64 0),.d (.int .i64 0),.d (.int .i64 0),.d (.int .i64 0),.d (.int .i64 0),.d (.int .i64 0),.mA]
@[reducible] def zZ4:List RV:=[.d (.int .i64 0),.d (.int .i64 0),.d (.int .i64 0),.d (.int .i64 0),.d (.int .i64 0),.d (.int .i64 0)]
@[reducible] def aq.rc(x:aq):List RV:=[.d (.int .i64 x.ai.aK.aI.fX),.d (.int .i64 x.ai.aK.aI.fY),.d (.int .i64 x.ai.aK.aI.fZ),.d (.int .i64 x.ai.aK.aC.fX),.d (.int .i64 x.ai.aK.aC.fY),.d (.int .i64 x.ai.aK.aC.fZ),.d (.int .i64 x.ai.bc.bn),.d (.lst (x.ai.bc.aI.map (PD.int .i64))),.d (.lst (x.ai.bc.aC.map (PD.int .i64))),.d (.int .i64 x.ai.cU),.d (.int .i64 x.ai.bP),.d (.int .i64 x.ai.dn),.d (.int .i64 x.ai.kM),.d (.int .i64 x.ai.cN),.d (.int .i64 x.eB.bX.bn),.d (.lst (x.eB.bX.aI.map (PD.int .i64))),.d (.lst (x.eB.bX.aC.map (PD.int .i64))),.d (.int .i64 x.eB.bK),.d (.int .i64 x.eB.bC),.d (.int .i64 x.bP)]
@[reducible] def aB.rc(x:aB):List RV:=[.d (.int .i64 x.iL),.d (.int .i64 x.bK.a0),.d (.int .i64 x.bK.a1),.d (.int .i64 x.bK.a2),.d (.int .i64 x.bC.a0),.d (.int .i64 x.bC.a1),.d (.int .i64 x.bC.a2),.d (.lst (x.eC.map (PD.int .i64))),.d (.int .i64 x.dl),.d (.int .i64 x.dm)]
@[reducible] def ae.rc(x:ae):List RV:=[.d (.str x.aA.bd),.d (.str x.aA.aQ),.d (.str x.aA.av),.d (.str x.aA.bh),.d (.int .i64 x.a7),.d (.int .i64 x.aM),.d (.int .i64 x.bv),.d (.int .i64 x.a8),.d (.int .i64 x.bp)]
@[reducible] def ar.rc(x:ar):List RV:=[.d (.int .i64 x.bj),.d (.int .i64 x.fTo),.d (.int .i64 x.fy.bK),.d (.int .i64 x.fy.bC),.d (.int .i64 x.aW.fX),.d (.int .i64 x.aW.fY),.d (.int .i64 x.aW.fZ),.d (.lst (x.bg.bw.map aB.pd))]
@[reducible] def ah.rc(x:ah):List RV:=[.d (.int .i64 x.aI.fX),.d (.int .i64 x.aI.fY),.d (.int .i64 x.aI.fZ),.d (.int .i64 x.aC.fX),.d (.int .i64 x.aC.fY),.d (.int .i64 x.aC.fZ)]
@[reducible] def au.rc(x:au):List RV:=[.d (.str x.aA.bd),.d (.str x.aA.aQ),.d (.str x.aA.av),.d (.str x.aA.bh),.d (.lst (x.bL.map ar.pd))]
@[reducible] def aG.rc(x:aG):List RV:=[.d (.int .i64 x.aK.aI.fX),.d (.int .i64 x.aK.aI.fY),.d (.int .i64 x.aK.aI.fZ),.d (.int .i64 x.aK.aC.fX),.d (.int .i64 x.aK.aC.fY),.d (.int .i64 x.aK.aC.fZ),.d (.int .i64 x.bc.bn),.d (.lst (x.bc.aI.map (PD.int .i64))),.d (.lst (x.bc.aC.map (PD.int .i64))),.d (.int .i64 x.cU),.d (.int .i64 x.bP),.d (.int .i64 x.dn),.d (.int .i64 x.kM),.d (.int .i64 x.cN)]
@[reducible] def ag.rc(x:ag):List RV:=[.d (.int .i64 x.aK.aI.fX),.d (.int .i64 x.aK.aI.fY),.d (.int .i64 x.aK.aI.fZ),.d (.int .i64 x.aK.aC.fX),.d (.int .i64 x.aK.aC.fY),.d (.int .i64 x.aK.aC.fZ),.d (.int .i64 x.bc.bn),.d (.lst (x.bc.aI.map (PD.int .i64))),.d (.lst (x.bc.aC.map (PD.int .i64))),.d (.lst (x.aX.map al.pd)),.d (.int .i64 x.cU)]
@[reducible] def ak.rc(x:ak):List RV:=[.d (.int .i64 x.jd.aI.fX),.d (.int .i64 x.jd.aI.fY),.d (.int .i64 x.jd.aI.fZ),.d (.int .i64 x.jd.aC.fX),.d (.int .i64 x.jd.aC.fY),.d (.int .i64 x.jd.aC.fZ),.d (.int .i64 x.ce),.d (.int .i64 x.f8)]
@[reducible] def al.rc(x:al):List RV:=[.d (.int .i64 x.aQ.fX),.d (.int .i64 x.aQ.fY),.d (.int .i64 x.aQ.fZ),.d (.int .i64 x.aM),.d (.int .i64 x.bv),.d (.int .i64 x.bD)]
@[reducible] def bz.rc(x:bz):List RV:=[.d (.int .i64 x.bX.bn),.d (.lst (x.bX.aI.map (PD.int .i64))),.d (.lst (x.bX.aC.map (PD.int .i64))),.d (.int .i64 x.bK),.d (.int .i64 x.bC)]
@[reducible] def bM.rc(x:bM):List RV:=[.d (.int .i64 x.fp.aK.aI.fX),.d (.int .i64 x.fp.aK.aI.fY),.d (.int .i64 x.fp.aK.aI.fZ),.d (.int .i64 x.fp.aK.aC.fX),.d (.int .i64 x.fp.aK.aC.fY),.d (.int .i64 x.fp.aK.aC.fZ),.d (.int .i64 x.fp.bc.bn),.d (.lst (x.fp.bc.aI.map (PD.int .i64))),.d (.lst (x.fp.bc.aC.map (PD.int .i64))),.d (.lst (x.fp.aX.map al.pd)),.d (.int .i64 x.fp.cU),.d (.lst (x.jD.map ak.pd)),.d (.int .i64 x.f8),.d (.int .i64 x.ftaken),.d (.bool x.ffound),.d (.int .i64 x.bQ.aU.fX),.d (.int .i64 x.bQ.aU.fY),.d (.int .i64 x.bQ.aU.fZ),.d (.int .i64 x.bQ.a7),.d (.int .i64 x.bQ.bi),.d (.int .i64 x.bQ.eN),.d (.int .i64 x.bQ.aZ.aI.fX),.d (.int .i64 x.bQ.aZ.aI.fY),.d (.int .i64 x.bQ.aZ.aI.fZ),.d (.int .i64 x.bQ.aZ.aC.fX),.d (.int .i64 x.bQ.aZ.aC.fY),.d (.int .i64 x.bQ.aZ.aC.fZ)]
@[reducible] def aD.rc(x:aD):List RV:=[.d (.str x.bV.aA.bd),.d (.str x.bV.aA.aQ),.d (.str x.bV.aA.av),.d (.str x.bV.aA.bh),.d (.int .i64 x.bV.a7),.d (.int .i64 x.bV.aM),.d (.int .i64 x.bV.bv),.d (.int .i64 x.bV.a8),.d (.int .i64 x.bV.bp),.d (.lst (x.aL.f5.map ae.pd)),.d (.int .i64 x.aL.av.aU.fX),.d (.int .i64 x.aL.av.aU.fY),.d (.int .i64 x.aL.av.aU.fZ),.d (.int .i64 x.aL.av.a7),.d (.int .i64 x.aL.av.bi),.d (.int .i64 x.aL.av.eN),.d (.int .i64 x.aL.av.aZ.aI.fX),.d (.int .i64 x.aL.av.aZ.aI.fY),.d (.int .i64 x.aL.av.aZ.aI.fZ),.d (.int .i64 x.aL.av.aZ.aC.fX),.d (.int .i64 x.aL.av.aZ.aC.fY),.d (.int .i64 x.aL.av.aZ.aC.fZ),.d (.int .i64 x.aL.bO.aI),.d (.int .i64 x.aL.bO.aC),.d (.int .i64 x.aL.jc)]
@[reducible] def aY.rc(x:aY):List RV:=[.d (.lst (x.f5.map ae.pd)),.d (.int .i64 x.av.aU.fX),.d (.int .i64 x.av.aU.fY),.d (.int .i64 x.av.aU.fZ),.d (.int .i64 x.av.a7),.d (.int .i64 x.av.bi),.d (.int .i64 x.av.eN),.d (.int .i64 x.av.aZ.aI.fX),.d (.int .i64 x.av.aZ.aI.fY),.d (.int .i64 x.av.aZ.aI.fZ),.d (.int .i64 x.av.aZ.aC.fX),.d (.int .i64 x.av.aZ.aC.fY),.d (.int .i64 x.av.aZ.aC.fZ),.d (.int .i64 x.bO.aI),.d (.int .i64 x.bO.aC),.d (.int .i64 x.jc)]
@[reducible] def aj.rc(x:aj):List RV:=[.d (.int .i64 x.aU.fX),.d (.int .i64 x.aU.fY),.d (.int .i64 x.aU.fZ),.d (.int .i64 x.a7),.d (.int .i64 x.bi),.d (.int .i64 x.eN),.d (.int .i64 x.aZ.aI.fX),.d (.int .i64 x.aZ.aI.fY),.d (.int .i64 x.aZ.aI.fZ),.d (.int .i64 x.aZ.aC.fX),.d (.int .i64 x.aZ.aC.fY),.d (.int .i64 x.aZ.aC.fZ)]
@[reducible] def aV.rc(x:aV):List RV:=[.d (.lst (x.cj.map (PD.int .i64))),.d (.int .i64 x.aU.fX),.d (.int .i64 x.aU.fY),.d (.int .i64 x.aU.fZ),.d (.int .i64 x.a7)]
@[reducible] def aw.rc(x:aw):List RV:=[.d (.str x.bd),.d (.str x.aQ),.d (.str x.av),.d (.str x.bh)]
@[reducible] def ac.rc(x:ac):List RV:=[.d (.lst (x.fL.map (PD.int .i64))),.d (.int .i64 x.fAt)]
@[reducible] def aa.rc(x:aa):List RV:=[.d (.int .i64 x.fX),.d (.int .i64 x.fY),.d (.int .i64 x.fZ)]
@[reducible] def aH.rc(x:aH):List RV:=[.d (.int .i64 x.bn),.d (.lst (x.aI.map (PD.int .i64))),.d (.lst (x.aC.map (PD.int .i64)))]
@[reducible] def ba.rc(x:ba):List RV:=[.d (.lst (x.mE.map (PD.int .i64))),.d (.lst (x.fback.map (PD.int .i64)))]
@[reducible] def aS.rc(x:aS):List RV:=[.d (.lst (x.db.map ae.pd)),.d (.lst (x.cx.map al.pd)),.d (.lst (x.f7.map ar.pd))]
@[reducible] def aJ.rc(x:aJ):List RV:=[.d (.lst (x.bK.map (PD.int .i64))),.d (.lst (x.bC.map (PD.int .i64)))]
@[reducible] def az.rc(x:az):List RV:=[.d (.int .i64 x.aI),.d (.int .i64 x.aC)]
theorem Z{α:Sort _}{a:α}:a=a:=rfl
theorem Zk{α:Sort _}{a b:α}(h:a=b:=by kernel_rfl):a=b:=h
theorem gU{P:Program}{H:Hints}{ext:FuncId->Option qa}{f:FuncId}{nb:Nat}{R:List (Nat×RV)}{B:List (Nat×Box)}{Q:Ex->List (Nat×RV)->List (Nat×Box)->Prop}{id:Nat}{ops:Array Oper}{l:List Oper}{R0:List (Nat×RV)}{B0:List (Nat×Box)}{b:Code}(hl:(ops.toList,qb P nb (A R B) (H.at_ f nb id))=(l,some (A R0 B0)))
    (h:WO P H ext (H.hf f) ops l R0 B0 fun R' B' _=>WC P H ext f nb b R' B' Q):WC P H ext f nb (.seq (.region id ops false) b) R B Q:=gS (congrArg Prod.fst hl) (congrArg Prod.snd hl) h
theorem mM{P:Program}{H:Hints}{ext:FuncId->Option qa}{mt:Hf}{ops:Array Oper}{l:List Oper}{R:List (Nat×RV)}{B:List (Nat×Box)}{K:List (Nat×RV)->List (Nat×Box)->List Tr->Prop}{d e:Nat}{ty uy:TypeId}{p q:String}{af bf:Array Edge}{g k:Option (Nat×Bool)}{x y:Operand}{v w:RV}(hx:((A R B).opd x,(A ((d,v)::R) B).opd y)=(some v,some w))(h:WO P H ext mt ops l ((e,w)::(d,v)::R) B fun R' B' ts=>K R' B' (⟨[],[]⟩::⟨[],[]⟩::ts))(hw:pO ops (A R B) ⟨some d,.move x,ty,p,af,g⟩=some true:=by exact rfl)(hu:pO ops (A ((d,v)::R) B) ⟨some e,.move y,uy,q,bf,k⟩=some true:=by exact rfl):WO P H ext mt ops (⟨some d,.move x,ty,p,af,g⟩::⟨some e,.move y,uy,q,bf,k⟩::l) R B K:=
  sM (congrArg Prod.fst hx) (sM (congrArg Prod.snd hx) h hu) hw
def hintAt:FuncId->Nat->Nat->List wM:=fun f nb id=>
  if f=10 then(if nb=0 then(if id=9 then [.nZ [4,5,7,8,44,45] [64,80,112]]else if id=13 then [.nZ [4,5,7,8,10,11,44,45,51,52,53] [64,80,112]]else if id=17 then [.nZ [4,5,7,8,10,11,44,45] [64,80,112]]else if id=23 then [.nZ [] []]else [])else [])else if f=13 then(if nb=1 then(if id=3 then [.ownp (.cell 80 0) 1104 116,.nZ [0,1,4,5,6] [0,64,80,1104]]else if id=16 then [.nZ [4,5] [0,64,80,1104]]else [])else [])else if f=14 then(if nb=1 then(if id=4 then [.own 9 2192 66,.nZ [0,5,6,9,10,11,12] [0,80,96,160,2192]]else if id=12 then [.nZ [0,5,6,9,10,11,12,13,14,16] [0,80,96,160,208,224,2192]]else if id=14 then [.nZ [0,5,6,9,10,11,12,13,16] [0,80,96,160,208,2192]]else if id=18 then [.nZ [0,5,6,9,10,11,12,13] [0,80,96,160,208,2192]]else if id=21 then [.nZ [9] [0,2192]]else [])else [])else if f=20 then(if nb=0 then(if id=9 then [.own 14 1360 86,.nZ [3,4,9,13,14,47,48,49] [48,64,1360]]else if id=13 then [.own 17 1056 66,.nZ [3,4,9,13,14,17,47,48,49,54,55,56] [48,64,1056,1360]]else if id=17 then [.nZ [3,4,9,13,14,17,47,48,49] [48,64,1056,1360]]else if id=22 then [.nZ [9,13,14] [1360]]else if id=25 then [.own 22 1648 66,.nZ [9,14,22,91,92,93] [1360,1648]]else if id=29 then [.nZ [14,22] [1360,1648]]else [])else [])else if f=21 then(if nb=0 then(if id=4 then [.nZ [0,1,5] []]else if id=8 then [.nZ [] []]else [])else [])else if f=26 then(if nb=0 then(if id=4 then [.nZ [0,1,5] []]else if id=8 then [.nZ [] []]else [])else [])else if f=44 then(if nb=1 then(if id=3 then [.ownp (.cell 80 0) 1536 116,.nZ [0,4,5,10,11,12] [0,64,80,1536]]else if id=20 then [.nZ [4,5] [0,64,80,1536]]else [])else [])else if f=49 then(if nb=1 then(if id=3 then [.nZ [2,3,16,17] [0,32,48,96,97]]else if id=7 then [.nZ [2,3] [0,32,48,96,97]]else [])else [])else if f=52 then(if nb=1 then(if id=3 then [.ownp (.cell 48 0) 1040 184,.nZ [0,2,3,4] [0,32,48,1040]]else if id=13 then [.nZ [2,3] [0,32,48,1040]]else [])else [])else if f=53 then(if nb=0 then(if id=2 then [.nZ [2,4,6,13,14,15] [64,96]]else if id=5 then [.nZ [2,4,6,9,13,14,15,20,21,22] [64,96,144]]else if id=10 then [.nZ [2,4,6,13,14,15] [64,96]]else if id=11 then [.nZ [6] [96]]else [])else [])else if f=55 then(if nb=0 then(if id=7 then [.ownp (.cell 128 0) 704 66,.ownp (.cell 128 1) 784 81,.ownp (.cell 128 2) 864 113,.nZ [3,4,6,8,25,26,27] [48,64,96,128,400,704,784,864]]else if id=13 then [.nZ [6,8] [96,128,704,784,864]]else [])else [])else if f=57 then(if nb=0 then(if id=7 then [.nZ [4,8,37,38,39] [64,128]]else if id=13 then [.nZ [4,8] [64,128]]else [])else [])else if f=58 then(if nb=0 then(if id=3 then [.own 7 816 47,.nZ [3,4,5,7,13,14,15] [48,64,80,816]]else if id=9 then [.nZ [7] [816]]else [])else [])else if f=62 then(if nb=0 then(if id=3 then [.nZ [1,2,6,18,19,20] [32,272]]else if id=7 then [.nZ [1,2,6] [32,272]]else if id=11 then [.nZ [1,2,9,10,45,46,47] [32,272]]else if id=17 then [.nZ [9,10] []]else [])else [])else if f=65 then(if nb=0 then(if id=8 then [.own 9 656 66,.own 10 720 81,.nZ [3,4,9,10,24,25,26] [48,64,384,656,720]]else if id=14 then [.nZ [9,10] [656,720]]else [])else [])else if f=66 then(if nb=0 then(if id=8 then [.own 8 2432 142,.own 9 2576 3,.nZ [1,2,8,9,10,11] [32,176,560,561,2432,2576]]else if id=13 then [.own 13 1120 81,.nZ [1,2,8,9,10,11,12,13,55,56,57] [32,176,560,561,1120,2432,2576]]else if id=17 then [.frz (.reg 13),.nZ [1,2,8,9,10,11,12,13] [32,176,560,561,2432,2576]]else if id=25 then [.own 19 1840 3,.nZ [1,2,8,9,10,11,12,16,18,19,98,99,100] [32,176,256,560,561,1840,2432,2576]]else if id=30 then [.nZ [1,2,8,9,10,11,12,16,19] [32,176,256,560,561,1840,2432,2576]]else if id=33 then [.ownp (.cell 352 0) 2288 3,.nZ [1,2,8,9,10,11,22,127,128,129] [32,176,352,560,561,1840,2288,2432,2576]]else if id=38 then [.nZ [1,2,8,9,10,11,22] [32,176,352,560,561,2288,2432,2576]]else if id=40 then [.nZ [1,2,8,9,10,11,12] [32,176,560,561,2432,2576]]else if id=42 then [.nZ [8,9] [2432,2576]]else [])else [])else if f=78 then(if nb=0 then(if id=3 then [.nZ [1,3,9,10] [16,112]]else if id=7 then [.nZ [1,3] [16,112]]else [])else [])else if f=83 then(if nb=0 then(if id=2 then [.nZ [1,6,7,8] [16]]else if id=7 then [.nZ [1] [16]]else [])else [])else if f=95 then(if nb=0 then(if id=3 then [.nZ [3,6,7,8] []]else if id=8 then [.nZ [3] []]else [])else [])else if f=98 then(if nb=0 then(if id=5 then [.wx 624,.ownn (.reg 6) 624 42 66,.nZ [0,5,6,15,16,17] [192,624]]else if id=8 then [.wx 624,.ownn (.reg 6) 624 42 66,.nZ [0,5,6,8,15,16,17] [128,192,624]]else if id=9 then [.lend 624 none 784]else if id=11 then [.wx 624,.nZ [6] [624]]else if id=12 then [.wx 624,.nZ [6,55,56,57] [624]]else if id=13 then [.lend 624 (some 57) 960]else if id=16 then [.wx 624,.frzn (.reg 6),.nZ [6] []]else [])else [])else if f=105 then(if nb=1 then(if id=4 then [.ownp (.cell 48 1) 432 3,.ownp (.cell 48 2) 512 3,.nZ [0,2,3,4,5,6] [0,32,48,432,512]]else if id=9 then [.nZ [2,3] [0,32,48,432,512]]else [])else [])else if f=108 then(if nb=0 then(if id=10 then [.nZ [1,7] [304,368]]else if id=14 then [.frz (.cell 304 11),.nZ [7] [304]]else [])else [])else if f=109 then(if nb=0 then(if id=5 then [.nZ [4,5,6,7,8,31] [64,80,96,112,128]]else [])else [])else if f=115 then(if nb=0 then(if id=3 then [.own 5 304 3,.nZ [1,5,8,9,10] [304]]else if id=7 then [.nZ [5] [304]]else [])else [])else if f=118 then(if nb=0 then(if id=6 then [.nZ [2,52,53,54] [32]]else if id=12 then [.nZ [] []]else [])else [])else if f=120 then(if nb=0 then(if id=14 then [.nZ [1,38,39,40] [16]]else if id=20 then [.nZ [] []]else [])else [])else if f=122 then(if nb=0 then(if id=3 then [.nZ [2,3,6,16,17,18] [32,48,224]]else if id=10 then [.nZ [6] [224]]else [])else [])else if f=123 then(if nb=0 then(if id=3 then [.nZ [1,2,3,7,11,12,13] [48]]else if id=8 then [.nZ [7] []]else [])else [])else if f=127 then(if nb=0 then(if id=3 then [.nZ [0,2,3,13,14] [32,48,112,160]]else if id=7 then [.nZ [2,3] [32,48,112,160]]else [])else [])else if f=129 then(if nb=0 then(if id=4 then [.own 9 928 3,.nZ [2,3,4,5,9,10,11] [64,80,928]]else if id=7 then [.nZ [9] [928]]else [])else if nb=2 then(if id=4 then [.own 9 928 3,.nZ [2,3,4,5,9,10,11] [0,1,64,80,928]]else if id=7 then [.nZ [9] [0,1,928]]else [])else [])else if f=131 then(if nb=0 then(if id=8 then [.nZ [2,10,33,34,35] [512]]else if id=12 then [.nZ [10] [512]]else [])else [])else if f=134 then(if nb=0 then(if id=5 then [.nZ [0,1,4,5,6] [64,80]]else if id=9 then [.nZ [4,5] [64,80]]else [])else [])else if f=135 then(if nb=1 then(if id=2 then [.nZ [0,1,2,3,4,10,11] [0]]else [])else [])else if f=156 then(if nb=0 then(if id=2 then [.nZ [0,5,6,7] []]else if id=7 then [.nZ [0] []]else [])else [])else if f=175 then(if nb=0 then(if id=2 then [.nZ [3,4,9,10,11] [48,64]]else if id=7 then [.nZ [4] [64]]else [])else [])else if f=176 then(if nb=0 then(if id=2 then [.nZ [1,4,9,10,11] [64]]else if id=7 then [.nZ [4] [64]]else [])else [])else if f=177 then(if nb=0 then(if id=4 then [.nZ [1,2,15,16,17] []]else if id=10 then [.nZ [] []]else [])else [])else if f=179 then(if nb=0 then(if id=4 then [.nZ [0,1,12,13] []]else if id=9 then [.nZ [] []]else [])else [])else if f=183 then(if nb=1 then(if id=2 then [.bumpp (.reg 0),.nZ [0] [0]]else if id=4 then [.nZ [0,3] [0]]else if id=9 then [.nZ [0,3,4,5] [0]]else if id=14 then [.nZ [0,3] [0]]else if id=16 then [.bumpp (.reg 0),.nZ [0] [0]]else [])else [])else if f=184 then(if nb=1 then(if id=5 then [.ownp (.cell 0 11) 80176 194,.mv (.cell 0 11) 90081,.nZ [6] [0,90081]]else [])else if nb=2 then(if id=5 then [.ownp (.cell 0 11) 80176 194,.bumpp (.cell 0 11),.nZ [6] [0,1]]else [])else [])else if f=186 then(if nb=2 then(if id=2 then [.bumpp (.cell 0 11),.nZ [] [0,1]]else [])else [])else if f=195 then(if nb=0 then(if id=5 then [.nZ [2,7,8,9,28,29] [128,144]]else [])else [])else if f=198 then(if nb=0 then(if id=2 then [.nZ [0,1,7,8] []]else if id=7 then [.nZ [] []]else [])else [])else if f=199 then(if nb=0 then(if id=6 then [.nZ [1,4,5,33,34] [16]]else if id=12 then [.nZ [] []]else [])else [])else if f=208 then(if nb=1 then(if id=1 then [.nZ [0,1,2,3,8] [0]]else if id=2 then [.nZ [0,1,2,3,8] [0]]else if id=4 then [.nZ [0,1,2,3,8,9] [0]]else [])else [])else if f=217 then(if nb=0 then(if id=4 then [.nZ [0,2] []]else if id=7 then [.nZ [0,2] []]else [])else [])else if f=229 then(if nb=2 then(if id=2 then [.nZ [0,1,2,6,7,8] [0,1]]else if id=6 then [.nZ [0,1,2,6,7] [0,1]]else if id=7 then [.nZ [0,1,2,6] [0,1]]else if id=9 then [.nZ [0,1,2,6,7,8] [0,1]]else if id=13 then [.nZ [0,1,2,6,7] [0,1]]else [])else [])else if f=231 then(if nb=1 then(if id=1 then [.nZ [0,1,2,3,8] [0]]else if id=2 then [.nZ [0,1,2,3,8] [0]]else if id=4 then [.nZ [0,1,2,3,8,9] [0]]else [])else [])else if f=241 then(if nb=0 then(if id=2 then [.nZ [0,1,2,9,10] []]else if id=7 then [.nZ [0,1,2] []]else [])else [])else if f=255 then(if nb=0 then(if id=2 then [.nZ [0,1,7,8] []]else if id=7 then [.nZ [] []]else [])else [])else if f=256 then(if nb=1 then(if id=2 then [.nZ [0,1,2,6,7,8] [0]]else if id=6 then [.nZ [0,1,2,6,7] [0]]else if id=7 then [.nZ [0,1,2,6] [0]]else if id=9 then [.nZ [0,1,2,6,7,8] [0]]else if id=13 then [.nZ [0,1,2,6,7] [0]]else [])else [])else if f=257 then(if nb=0 then(if id=3 then [.nZ [1,2,10,11,12] [16,32,112]]else if id=7 then [.nZ [1,2] [16,32,112]]else [])else [])else if f=273 then(if nb=0 then(if id=7 then [.nZ [1,2,6,8,31,32,33] [96,128]]else if id=17 then [.nZ [6,8] [96,128]]else [])else [])else if f=278 then(if nb=2 then(if id=2 then [.nZ [1,5,6] [0,1]]else if id=7 then [.nZ [5] [0,1]]else [])else [])else if f=280 then(if nb=0 then(if id=5 then [.nZ [0,3,4] []]else if id=10 then [.nZ [3] []]else [])else [])else if f=301 then(if nb=2 then(if id=1 then [.nZ [0,1,2,3,8] [0,1]]else if id=2 then [.nZ [0,1,2,3,8] [0,1]]else if id=4 then [.nZ [0,1,2,3,8,9] [0,1]]else [])else [])else if f=326 then(if nb=0 then(if id=3 then [.nZ [1,2,13,14] [16,32,112]]else if id=7 then [.nZ [1,2] [16,32,112]]else [])else [])else if f=330 then(if nb=2 then(if id=0 then [.nZ [0,1] [0,1]]else [])else [])else if f=331 then(if nb=2 then(if id=2 then [.nZ [0,1,2,7] [0,1]]else if id=8 then [.nZ [0,1,2,7,9] [0,1]]else if id=11 then [.nZ [1,7] [0,1]]else [])else [])else if f=332 then(if nb=0 then(if id=5 then [.nZ [2,3,4,16] [32,48,64]]else [])else [])else if f=339 then(if nb=0 then(if id=9 then [.nZ [0,1,5,6] []]else [])else [])else if f=350 then(if nb=0 then(if id=1 then [.nZ [0,1] []]else if id=3 then [.nZ [0] []]else [])else [])else if f=353 then(if nb=0 then(if id=6 then [.fixv 16,.nZ [1,3] []]else [])else [])else if f=354 then(if nb=0 then(if id=3 then [.nZ [3,6,7,8] []]else if id=10 then [.nZ [3] []]else [])else [])else if f=383 then(if nb=0 then(if id=3 then [.nZ [3,6,7,8] []]else if id=7 then [.nZ [3] []]else [])else [])else if f=386 then(if nb=0 then(if id=3 then [.nZ [1,5,16,17,18] [240]]else if id=7 then [.nZ [1,5,6,7,8,16,17,18,25,26] [240]]else if id=14 then [.nZ [1,5,16,17,18] [240]]else if id=15 then [.nZ [5] [240]]else [])else [])else if f=393 then(if nb=0 then(if id=2 then [.nZ [0,1,7,8] []]else if id=7 then [.nZ [] []]else [])else [])else if f=406 then(if nb=0 then(if id=4 then [.own 4 240 3,.nZ [0,4] [240]]else if id=7 then [.nZ [4] [240]]else [])else [])else if f=408 then(if nb=0 then(if id=6 then [.own 6 560 3,.nZ [0,1,6,7,18,19] [560]]else if id=12 then [.nZ [6] [560]]else [])else [])else if f=409 then(if nb=0 then(if id=1 then [.nZ [0] []]else if id=3 then [.nZ [0] []]else [])else [])else if f=411 then(if nb=0 then(if id=2 then [.nZ [0,1,7,8] []]else if id=7 then [.nZ [] []]else [])else [])else if f=421 then(if nb=0 then(if id=2 then [.nZ [0,1,7,8] []]else if id=7 then [.nZ [] []]else [])else [])else []
def aN:Hints:={ at_:=hintAt,mt:=fun f i=>(f==13&&i==28)||(f==44&&i==16)||(f==98&&i==38)||(f==183&&i==59)||(f==443&&i==19),by_:=fun f i=>(f==68&&i==0)||(f==79&&i==0)||(f==129&&i==0)||(f==132&&i==0)||(f==133&&i==0)||(f==135&&i==0)||(f==149&&i==0)||(f==173&&i==0)||(f==183&&i==0)||(f==208&&i==0)||(f==229&&i==0)||(f==231&&i==0)||(f==256&&i==0)||(f==301&&i==0)||(f==442&&i==0),own:=fun f i=>(f==105&&i==0)||(f==106&&i==0)||(f==107&&i==0)||(f==127&&i==0)||(f==182&&i==0)||(f==183&&i==0)||(f==257&&i==0)||(f==325&&i==0)||(f==364&&i==0) }
@[reducible] def gI(nb f id:Nat)(R:List (Nat×RV))(B:List (Nat×Box))(R':List (Nat×RV))(B':List (Nat×Box)):Prop:=qb prog nb (A R' B') (aN.at_ f nb id)=some (A R B)
@[reducible] def gX(x nb f id:Nat)(R:List (Nat×RV))(B:List (Nat×Box))(e:Ex)(R':List (Nat×RV))(B':List (Nat×Box)):Prop:=e= .exit x∧gI nb f id R B R' B'
@[reducible] def gF(f:Nat)(fn:Func)(nb:Nat)(x:RV×List Box)(e:Ex)(R':List (Nat×RV))(B':List (Nat×Box)):Prop:=e= .ret∧finish prog (aN.own f) fn nb (A R' B')=some x
theorem eqN_26(a b:aa):wc prog .neq 26 (.d a.pd) (.d b.pd)=some (.bool (!((a.fX==b.fX)&&((a.fY==b.fY)&&((a.fZ==b.fZ)&&true)))),true):=by kernel_rfl
theorem eqE_45(a b:aj):wc prog .eql 45 (.d a.pd) (.d b.pd)=some (.bool (((a.aU.fX==b.aU.fX)&&((a.aU.fY==b.aU.fY)&&((a.aU.fZ==b.aU.fZ)&&true)))&&((a.a7==b.a7)&&((a.bi==b.bi)&&((a.eN==b.eN)&&((((a.aZ.aI.fX==b.aZ.aI.fX)&&((a.aZ.aI.fY==b.aZ.aI.fY)&&((a.aZ.aI.fZ==b.aZ.aI.fZ)&&true)))&&(((a.aZ.aC.fX==b.aZ.aC.fX)&&((a.aZ.aC.fY==b.aZ.aC.fY)&&((a.aZ.aC.fZ==b.aZ.aC.fZ)&&true)))&&true))&&true))))),true):=by kernel_rfl
theorem eqE_47(a b:az):wc prog .eql 47 (.d a.pd) (.d b.pd)=some (.bool ((a.aI==b.aI)&&((a.aC==b.aC)&&true)),true):=by kernel_rfl
theorem eqE_64(a b:aw):wc prog .eql 64 (.d a.pd) (.d b.pd)=some (.bool ((a.bd==b.bd)&&((a.aQ==b.aQ)&&((a.av==b.av)&&((a.bh==b.bh)&&true)))),true):=by kernel_rfl
theorem eqE_66(a b:ae):wc prog .eql 66 (.d a.pd) (.d b.pd)=some (.bool (((a.aA.bd==b.aA.bd)&&((a.aA.aQ==b.aA.aQ)&&((a.aA.av==b.aA.av)&&((a.aA.bh==b.aA.bh)&&true))))&&((a.a7==b.a7)&&((a.aM==b.aM)&&((a.bv==b.bv)&&((a.a8==b.a8)&&((a.bp==b.bp)&&true)))))),true):=by kernel_rfl
theorem eqN_66(a b:ae):wc prog .neq 66 (.d a.pd) (.d b.pd)=some (.bool (!(((a.aA.bd==b.aA.bd)&&((a.aA.aQ==b.aA.aQ)&&((a.aA.av==b.aA.av)&&((a.aA.bh==b.aA.bh)&&true))))&&((a.a7==b.a7)&&((a.aM==b.aM)&&((a.bv==b.bv)&&((a.a8==b.a8)&&((a.bp==b.bp)&&true))))))),true):=by kernel_rfl
theorem io(a b:aT):wc prog .eql 182 (.d a.pd) (.d b.pd)=some (.bool ((a.a0==b.a0)&&((a.a1==b.a1)&&((a.a2==b.a2)&&true))),true):=by kernel_rfl
theorem T_api_Pick_inj:∀x y:ae,x.pd=y.pd->x=y:=by
  rintro⟨⟨z1,z2,z3,z4⟩,z5,z6,z7,z8,z9⟩ ⟨⟨z10,z11,z12,z13⟩,z14,z15,z16,z17,z18⟩ h
  cases h;rfl
def ext0:FuncId->Option qa:=fun _=>none
theorem kE{a0:(List UInt8)}{r:Bool}(h:fx a0=some r):EvP prog aN ext0 306 [rS a0] [] (rB r,[]):=by
 refine Ev.body Z Tryz.func306 Z Zk<|gU Z<|sU<|sN<|gU Z<|mM Z<|sV (rB (!(a0==a0)))<|sA Z<|sN<|qR ?_
 exact oI h▸qD
theorem ec{a0:(List UInt8)}{a1:(List UInt8)}{r:Int}(h:cz a0 a1=some r):EvP prog aN ext0 239 [rS a0,rS a1] [] (rI r,[]):=by
 refine Ev.body Z Tryz.func239 Z Zk<|gU Z<|sV (r0)<|sN<|gU Z<|sM Z<|bE h fun x1 h1 h=>cD (kE h1)<|sA Z<|sN<|gU Z<|sM Z<|bE h fun x2 h2 h=>cD (kE h2)<|sA Z ?_
 refine sN<|qS<|gU Z<|sF h ?_ ?_<;>intro h
 ·refine sN<|cT<|qS<|gU Z<|sF h ?_ ?_<;>intro h
  ·refine sN<|cT<|gU Z<|sV (r0)<|sN<|qR ?_
   exact oI h▸qD
  refine sN<|cF<|qK<|gU Z<|sV (rI (-1))<|sN<|qR ?_
  exact oI h▸qD
 refine sN<|cF<|qK<|qS<|gU Z<|sF h ?_ ?_<;>intro h
 ·refine sN<|cT<|gU Z<|sV (rI 1)<|sN<|qR ?_
  exact oI h▸qD
 refine sN<|cF<|qK<|qS<|gU Z<|mM Z<|sF h ?_ ?_<;>intro h
 ·refine sN<|cT<|gU Z<|sV (rI (-1))<|sN<|qR ?_
  exact oI h▸qD
 refine sN<|cF<|qK<|qS<|gU Z<|mM Z<|sF h ?_ ?_<;>intro h
 ·refine sN<|cT<|gU Z<|sV (rI 1)<|sN<|qR ?_
  exact oI h▸qD
 refine sN<|cF<|qK<|gU Z<|sV (r0)<|sN<|qR ?_
 exact oI h▸qD
theorem nG{a0:(List Int)}{r:Int}(h:cA a0=some r):EvP prog aN ext0 95 [rL a0] [] (rI r,[]):=by
 refine Ev.body Z Tryz.func95 Z Zk<|gU Z<|sV (r0)<|sN<|gU Z<|sV (r0)<|sN<|qS<|gU Z<|sM Z<|sE (rI (a0.length:Int)) (pf _ _)<|sV (r0)<|sN<|bE h fun o7 ho7 h=>WC.block (WC.loop (WL.pI ho7 (fun s=>gI 0 95 3 [(3,r0),(6,rL a0),(7,rI (a0.length:Int)),(8,rI s)] []) (fun o=>match o with| .inl y=>gX 0 0 95 8 [(3,r0)] []| .inr r=>gF 95 Tryz.f95 0 (rI r,[])) Z ?_ ?_))
 ·rintro s1 R' B' q2 hI h
  refine gS Z hI<|sF h ?_ ?_<;>intro h
  ·refine sN<|qS<|cT<|qK<|qS<|qB<|gU Z<|bE h fun x4 h4 h=>eG h4 Z<|sC Z<|sA Z<|sN<|gU Z<|sM Z<|sM Z ?_
   refine sF h ?_ ?_<;>intro h
   ·refine sN<|cT<|gU Z<|sM Z<|sA Z<|sN<|qR ?_
    cases oI h
    exact⟨nofun,rfl,rfl⟩
   refine sN<|cF<|qK<|WC.region Z Z<|sV (rI (rW (s1+(1:Int))))<|sM Z<|sN ?_
   cases oI h
   exact⟨rfl,rfl⟩
  refine sN<|qS<|cF<|qX ?_
  cases oI h
  exact⟨nofun,rfl,rfl⟩
 intro e R' B' he hq
 rcases o7 with y8|r9
 ·obtain⟨rfl,hI⟩:=hq
  refine qE<|gS Z hI<|sM Z<|sA Z<|sN<|qR ?_
  exact oI h▸qD
 obtain⟨rfl,hf⟩:=hq
 cases oI h
 exact hf
theorem oZ{a0:aw}{a1:aw}{r:Int}(h:fN a0 a1=some r):EvP prog aN ext0 153 [.d (aw.pd a0),.d (aw.pd a1)] [] (rI r,[]):=by
 refine Ev.body Z Tryz.func153 Z Zk<|gU Z<|sB (.ptr 32 0) 32 (.var (aw.rc a0))<|sB (.ptr 48 0) 48 (.var (aw.rc a1))<|sV (r0)<|sN<|WC.cI Z Z<|sV (.ptr 32 0)<|sL Z<|sV (.ptr 48 0)<|sL Z<|bE h fun x1 h1 h=>cD (ec h1)<|sV (.ptr 32 1)<|sL Z ?_
 refine sV (.ptr 48 1)<|sL Z<|bE h fun x2 h2 h=>cD (ec h2)<|sV (.ptr 32 2)<|sL Z<|sV (.ptr 48 2)<|sL Z<|bE h fun x3 h3 h=>cD (ec h3)<|sV (.ptr 32 3)<|sL Z<|sV (.ptr 48 3)<|sL Z<|bE h fun x4 h4 h=>?_
 refine cD (ec h4)<|sV (.d (.lst ([x1,x2,x3,x4].map (PD.int .i64))))<|bE h fun x5 h5 h=>cD (nG h5)<|sA Z ?_
 refine sN<|sO<|qR ?_
 exact oI h▸qD
theorem lX{a0:Int}{r:Bool}(h:iI a0=some r):EvP prog aN ext0 170 [rI a0] [] (rB r,[]):=by
 refine Ev.body Z Tryz.func170 Z Zk<|gU Z<|sU<|sN<|gU Z<|mM Z<|sV (rB (a0 != a0))<|sA Z<|sN<|qR ?_
 exact oI h▸qD
theorem d5{a0:Int}{a1:Int}{r:Int}(h:bA a0 a1=some r):EvP prog aN ext0 96 [rI a0,rI a1] [] (rI r,[]):=by
 refine Ev.body Z Tryz.func96 Z Zk<|gU Z<|sV (r0)<|sN<|gU Z<|sM Z<|bE h fun x1 h1 h=>cD (lX h1)<|sA Z<|sN<|gU Z<|sM Z<|bE h fun x2 h2 h=>cD (lX h2)<|sA Z ?_
 refine sN<|qS<|gU Z<|sF h ?_ ?_<;>intro h
 ·refine sN<|cT<|qS<|gU Z<|sF h ?_ ?_<;>intro h
  ·refine sN<|cT<|gU Z<|sV (r0)<|sN<|qR ?_
   exact oI h▸qD
  refine sN<|cF<|qK<|gU Z<|sV (rI (-1))<|sN<|qR ?_
  exact oI h▸qD
 refine sN<|cF<|qK<|qS<|gU Z<|sF h ?_ ?_<;>intro h
 ·refine sN<|cT<|gU Z<|sV (rI 1)<|sN<|qR ?_
  exact oI h▸qD
 refine sN<|cF<|qK<|qS<|gU Z<|mM Z<|sF h ?_ ?_<;>intro h
 ·refine sN<|cT<|gU Z<|sV (rI (-1))<|sN<|qR ?_
  exact oI h▸qD
 refine sN<|cF<|qK<|qS<|gU Z<|mM Z<|sF h ?_ ?_<;>intro h
 ·refine sN<|cT<|gU Z<|sV (rI 1)<|sN<|qR ?_
  exact oI h▸qD
 refine sN<|cF<|qK<|gU Z<|sV (r0)<|sN<|qR ?_
 exact oI h▸qD
theorem oS{a0:ae}{a1:ae}{r:Int}(h:b9 a0 a1=some r):EvP prog aN ext0 80 [.d (ae.pd a0),.d (ae.pd a1)] [] (rI r,[]):=by
 refine Ev.body Z Tryz.func80 Z Zk<|gU Z<|sB (.ptr 32 0) 32 (.var (ae.rc a0))<|sB (.ptr 48 0) 48 (.var (ae.rc a1))<|sV (r0)<|sN<|WC.cI Z Z<|sV (.ptr 32 0)<|sV (.d (aw.pd a0.aA))<|sV (.ptr 48 0)<|sV (.d (aw.pd a1.aA))<|bE h fun x1 h1 h=>cD (oZ h1)<|sV (.ptr 32 4)<|sL Z ?_
 refine sV (.ptr 48 4)<|sL Z<|bE h fun x2 h2 h=>cD (d5 h2)<|sV (.ptr 32 5)<|sL Z<|sV (.ptr 48 5)<|sL Z<|bE h fun x3 h3 h=>cD (d5 h3)<|sV (.ptr 32 6)<|sL Z<|sV (.ptr 48 6)<|sL Z<|bE h fun x4 h4 h=>?_
 refine cD (d5 h4)<|sV (.ptr 32 7)<|sL Z<|sV (.ptr 48 7)<|sL Z<|bE h fun x5 h5 h=>cD (d5 h5)<|sV (.ptr 32 8)<|sL Z<|sV (.ptr 48 8)<|sL Z<|bE h fun x6 h6 h=>cD (d5 h6)<|sV (.d (.lst ([x1,x2,x3,x4,x5,x6].map (PD.int .i64))))<|bE h fun x7 h7 h=>?_
 refine cD (nG h7)<|sA Z ?_
 refine sN<|sO<|qR ?_
 cases oI h
 exact qG
noncomputable def ext:FuncId->Option qa:=fun f=>if f=79 then some (AV 80 66 ae.pd b9)else if f=182 then some (vD 66 9 104)else if f=325 then some (vD 113 8 80)else if f=364 then some (vD 184 10 96)else if f=107 then some (vD 3 1 8)else if f=133 then some (xF 3)else if f=47 then some (zP (rB true))else none
theorem sort_79_80{l r:List ae}(h:vN b9 l=some r):EvP prog aN ext 79 [.ref 0 0,.d (.raw (.func (.func 80) #[] #[]))] [.arr 0 66 (l.map ae.pd)] (.tup [],[.arr 0 66 (r.map ae.pd)]):=sort_ev rfl (sortD_of T_api_Pick_inj h)
theorem closed_47{r:Bool}(h:closed47=some r):EvP prog aN ext 47 [] [] (rB r,[]):=by cases h;exact Ev.lib (g:=zP (rB true)) rfl rfl
theorem og{l r:List Int}(h:sh l=some r):EvP prog aN ext 133 [.ref 0 0] [.arr 0 3 (l.map (PD.int .i64))] (.tup [],[.arr 0 3 (r.map (PD.int .i64))]):=sortI_ev rfl h
theorem clone_182{l r:List ae}(h:ry 104 l=some r):EvP prog aN ext 182 [rM ae.pd l] [] (.ref 0 0,[.arr 0 66 (r.map ae.pd)]):=wP (g:=ae.pd) rfl (fun _=>rfl) h
theorem clone_325{l r:List ar}(h:ry 80 l=some r):EvP prog aN ext 325 [rM ar.pd l] [] (.ref 0 0,[.arr 0 113 (r.map ar.pd)]):=wP (g:=ar.pd) rfl (fun _=>rfl) h
theorem clone_364{l r:List aB}(h:ry 96 l=some r):EvP prog aN ext 364 [rM aB.pd l] [] (.ref 0 0,[.arr 0 184 (r.map aB.pd)]):=wP (g:=aB.pd) rfl (fun _=>rfl) h
theorem clone_107{l r:List Int}(h:ry 8 l=some r):EvP prog aN ext 107 [rL l] [] (.ref 0 0,[.arr 0 3 (r.map (PD.int .i64))]):=wP (g:=(PD.int .i64)) rfl (fun _=>rfl) h
theorem keep_New_ev{a0:(List Int)}{r:ac}(h:pp a0=some r):EvP prog aN ext 11 [rL a0] [] (.ptr 0 0,[.var (ac.rc r)]):=by
 refine Ev.body Z Tryz.func11 Z Zk<|gU Z<|sV (.d (.raw (.pointer none)))<|sN<|gU Z<|mM Z<|sE (rI (a0.length:Int)) (pf _ _)<|sV (rI (if(2000:Int)<(a0.length:Int)then(2000:Int)else(a0.length:Int)))<|bE h fun x1 h1 h=>WO.cutL (sz:=1) (g:=(PD.int .i64)) h1 (fun _=>Z) Z Z Z Z Z Z Z Z Z Z Z<|sV (.d (ac.pd (ac.mk x1 0)))<|sB (.ptr 144 0) 144 (.var [rL x1,r0])<|sA Z<|sN ?_
 refine qR ?_
 exact oI h▸qD
theorem Src_Raw_ev{d0:ac}{r:Int×ac}(h:Src_Raw d0=some r):EvP prog aN ext 72 [.ptr 0 0] [.var (ac.rc d0)] (rI r.1,[.var (ac.rc r.2)]):=by
 refine Ev.body Z Tryz.func72 Z Zk<|gU Z<|sV (r0)<|sN<|qS<|WC.cI Z Z<|sM Z<|sV (.ptr 0 0)<|sV (.ptr 0 1)<|sL Z<|sM Z<|sV (.ptr 0 0)<|sV (.ptr 0 0)<|sL Z<|sE (rI (d0.fL.length:Int)) (pf _ _) ?_
 refine sF h ?_ ?_<;>intro h
 ·refine sN<|sO<|cT<|gU Z<|sV (r0)<|sN<|qR ?_
  exact oI h▸qD
 refine sN<|sO<|cF<|qK<|gU Z<|sM Z<|sV (.ptr 0 0)<|sV (.ptr 0 1)<|sL Z<|sV (rI (rW (d0.fAt+(1:Int))))<|sV (.ptr 0 0)<|sV (.ptr 0 1)<|sS 0 (.var [rL d0.fL,rI (rW (d0.fAt+(1:Int)))])<|sN<|WC.cI Z Z<|sM Z ?_
 refine sV (.ptr 0 0)<|sV (.ptr 0 0)<|sL Z<|sM Z<|sV (.ptr 0 0)<|sV (.ptr 0 1)<|sL Z<|sV (rI (rW ((rW (d0.fAt+(1:Int)))-(1:Int))))<|bE h fun x2 h2 h=>eG h2 Z<|sC Z<|sA Z ?_
 refine sN<|sO<|qR ?_
 exact oI h▸qD
theorem keep_Mod_ev{a0:Int}{a1:Int}{r:Int}(h:nJ a0 a1=some r):EvP prog aN ext 24 [rI a0,rI a1] [] (rI r,[]):=by
 refine Ev.body Z Tryz.func24 Z Zk<|gU Z<|sV (r0)<|sN<|qS<|gU Z<|sM Z<|sF h ?_ ?_<;>intro h
 ·refine sN<|cT<|gU Z<|sV (r0)<|sN<|qR ?_
  exact oI h▸qD
 refine sN<|cF<|qK<|gU Z<|mM Z<|bE h fun x2 h2 h=>WO.remG h2 Z Z Z Z Z Z<|sA Z<|sN<|qS<|gU Z<|sM Z<|sF h ?_ ?_<;>intro h
 ·refine sN<|cT<|WC.region Z Z<|mM Z<|sV (rI (rW (x2+a1)))<|sA Z<|sN<|gU Z<|sM Z<|sA Z<|sN<|qR ?_
  exact oI h▸qD
 refine sN<|cF<|qK<|gU Z<|sM Z<|sA Z<|sN<|qR ?_
 exact oI h▸qD
theorem bG{a1:Int}{d0:ac}{r:Int×ac}(h:cV a1 d0=some r):EvP prog aN ext 25 [.ptr 0 0,rI a1] [.var (ac.rc d0)] (rI r.1,[.var (ac.rc r.2)]):=by
 refine Ev.body Z Tryz.func25 Z Zk<|gU Z<|sV (r0)<|sN<|gU Z<|sM Z<|bE h fun x1 h1 h=>cR (rI x1.1) [(0,.var (ac.rc x1.2))] (Src_Raw_ev h1)<|sM Z<|bE h fun x2 h2 h=>cD (keep_Mod_ev h2)<|sA Z<|sN<|qR ?_
 exact oI h▸qD
theorem lf{a1:Int}{d0:ac}{r:aa×ac}(h:jV a1 d0=some r):EvP prog aN ext 51 [.ptr 0 0,rI a1] [.var (ac.rc d0)] (.d (aa.pd r.1),[.var (ac.rc r.2)]):=by
 refine Ev.body Z Tryz.func51 Z Zk<|gU Z<|sB (.ptr 64 0) 64 (.var [r0,r0,r0])<|sN<|gU Z<|mM Z<|sV (rI (rW ((2:Int)*a1)))<|sV (rI (rW ((rW ((2:Int)*a1))+(1:Int))))<|bE h fun x1 h1 h=>cR (rI x1.1) [(0,.var (ac.rc x1.2))] (bG h1)<|sM Z<|sV (rI (rW (x1.1-a1)))<|sM Z<|sM Z ?_
 refine sV (rI (rW ((2:Int)*a1)))<|sV (rI (rW ((rW ((2:Int)*a1))+(1:Int))))<|bE h fun x2 h2 h=>cR (rI x2.1) [(0,.var (ac.rc x2.2))] (bG h2)<|sM Z<|sV (rI (rW (x2.1-a1)))<|mM Z<|sV (rI (rW (a1+(1:Int))))<|bE h fun x3 h3 h=>cR (rI x3.1) [(0,.var (ac.rc x3.2))] (bG h3)<|sV (.d (aa.pd (aa.mk (rW (x1.1-a1)) (rW (x2.1-a1)) x3.1)))<|sS 64 (.var [rI (rW (x1.1-a1)),rI (rW (x2.1-a1)),rI x3.1])<|sN<|qR ?_
 exact oI h▸qD
theorem Src_Box_ev{a1:Int}{a2:Int}{d0:ac}{r:ah×ac}(h:n8 a1 a2 d0=some r):EvP prog aN ext 104 [.ptr 0 0,rI a1,rI a2] [.var (ac.rc d0)] (.d (ah.pd r.1),[.var (ac.rc r.2)]):=by
 refine Ev.body Z Tryz.func104 Z Zk<|gU Z<|sB (.ptr 96 0) 96 (.var zZ4)<|sN<|gU Z<|mM Z<|bE h fun x1 h1 h=>cR (.d (aa.pd x1.1)) [(0,.var (ac.rc x1.2))] (lf h1)<|sB (.ptr 112 0) 112 (.var [r0,r0,r0])<|sS 112 (.var (aa.rc x1.1))<|sN<|WC.cI Z Z<|sV (.d (aa.pd x1.1))<|sV (.ptr 112 0) ?_
 refine sL Z<|mM Z<|sV (rI (rW (a2+(1:Int))))<|bE h fun x2 h2 h=>cR (rI x2.1) [(0,.var (ac.rc x2.2))] (bG h2)<|sV (rI (rW (x1.1.fX+x2.1)))<|sV (.ptr 112 1)<|sL Z<|mM Z<|sV (rI (rW (a2+(1:Int))))<|bE h fun x3 h3 h=>cR (rI x3.1) [(0,.var (ac.rc x3.2))] (bG h3)<|sV (rI (rW (x1.1.fY+x3.1))) ?_
 refine sV (.ptr 112 2)<|sL Z<|mM Z<|sV (rI (rW (a2+(1:Int))))<|bE h fun x4 h4 h=>cR (rI x4.1) [(0,.var (ac.rc x4.2))] (bG h4)<|sV (rI (rW (x1.1.fZ+x4.1)))<|sV (.d (aa.pd (aa.mk (rW (x1.1.fX+x2.1)) (rW (x1.1.fY+x3.1)) (rW (x1.1.fZ+x4.1)))))<|sG (.d (ah.pd (ah.mk x1.1 (aa.mk (rW (x1.1.fX+x2.1)) (rW (x1.1.fY+x3.1)) (rW (x1.1.fZ+x4.1))))))<|sH 96 (.var (aa.rc x1.1++[rI (rW (x1.1.fX+x2.1)),rI (rW (x1.1.fY+x3.1)),rI (rW (x1.1.fZ+x4.1))])) ?_
 refine sN<|sO<|qR ?_
 cases oI h
 exact qG
theorem du{a1:(List Int)}{d0:ac}{r:Int×ac}(h:ey a1 d0=some r):EvP prog aN ext 50 [.ptr 0 0,rL a1] [.var (ac.rc d0)] (rI r.1,[.var (ac.rc r.2)]):=by
 refine Ev.body Z Tryz.func50 Z Zk<|gU Z<|sV (r0)<|sN<|gU Z<|mM Z<|sM Z<|sE (rI (a1.length:Int)) (pf _ _)<|bE h fun x1 h1 h=>cR (rI x1.1) [(0,.var (ac.rc x1.2))] (bG h1)<|bE h fun x2 h2 h=>eG h2 Z<|sC Z<|sA Z ?_
 refine sN<|qR ?_
 exact oI h▸qD
theorem pc{d0:ac}{r:aH×ac}(h:jX d0=some r):EvP prog aN ext 105 [.ptr 0 0] [.var (ac.rc d0)] (.agg [rI r.1.bn,.ref 1 0,.ref 2 0],[.var (ac.rc r.2),.arr 0 3 (r.1.aI.map (PD.int .i64)),.arr 0 3 (r.1.aC.map (PD.int .i64))]):=by
 refine Ev.body Z Tryz.func105 Z Zk<|gU Z<|sB (.ptr 32 0) 32 (.var [r0,.mA,.mA])<|sN<|gU Z<|sM Z<|sV (.d (.lst ([20,25,40,100].map (PD.int .i64))))<|bE h fun x1 h1 h=>cR (rI x1.1) [(0,.var (ac.rc x1.2))] (du h1)<|sV (.agg [rI x1.1,.mA,.mA])<|sB (.ptr 48 0) 48 (.var [r0,.mA,.mA])<|sS 48 (.var [rI x1.1,.mA,.mA])<|sN<|gU Z<|sM Z ?_
 refine bE h fun x2 h2 h=>cR (rI x2.1) [(0,.var (ac.rc x2.2))] (bG h2)<|sV (r0)<|sA Z<|sN<|qS<|gU Z<|sV (r0)<|sN<|bE h fun o24 ho24 h=>WC.block (WC.loop (WL.pI ho24 (fun s=>gI 1 105 4 [(0,.ptr 0 0),(2,.ptr 32 0),(3,.ptr 48 0),(4,rI s.1),(5,rI s.2.1),(6,rI s.2.2.1)] [(0,.var [rL s.2.2.2.1,rI s.2.2.2.2.1]),(32,.var [r0,.mA,.mA]),(48,.var [rI x1.1,.ref 432 0,.ref 512 0]),(432,.arr 0 3 (s.2.2.2.2.2.1.map (PD.int .i64))),(512,.arr 0 3 (s.2.2.2.2.2.2.map (PD.int .i64)))]) (fun o=>gX 0 1 105 9 [(2,.ptr 32 0),(3,.ptr 48 0)] [(0,.var [rL o.1,rI o.2.1]),(32,.var [r0,.mA,.mA]),(48,.var [rI x1.1,.ref 432 0,.ref 512 0]),(432,.arr 0 3 (o.2.2.1.map (PD.int .i64))),(512,.arr 0 3 (o.2.2.2.map (PD.int .i64)))]) Z ?_ ?_))
 ·rintro⟨s3,s4,s5,s6,s7,s8,s9⟩ R' B' q14 hI h
  unfold ks at h
  refine qS<|WC.cI hI Z<|sM Z<|sV (.ptr 48 0)<|sL Z<|bE h fun x15 h15 h=>WO.um h15 Z Z Z Z Z Z<|sM Z<|bE h fun x16 h16 h=>cR (rI x16.1) [(0,.var (ac.rc x16.2))] (bG h16)<|sV (rI (rW (x15+x16.1)))<|sF h ?_ ?_<;>intro h
  ·refine sN<|sO<|cT<|qK<|qS<|qB<|WC.cI Z Z<|sV (.ptr 48 1)<|sL Z<|sM Z<|sV (.d (.lst ([s3].map (PD.int .i64))))<|bE h fun x18 h18 h=>aR h18 (fun _=>Z) Z<|sV (.ptr 48 2)<|sL Z<|sM Z ?_
   refine sV (.d (.lst ([s4].map (PD.int .i64))))<|bE h fun x19 h19 h=>aR h19 (fun _=>Z) Z<|sV (.ptr 48 1)<|sS 48 (.var [rI x1.1,.ref 432 1,.ref 512 0])<|sV (.ptr 48 2)<|sS 48 (.var [rI x1.1,.ref 432 1,.ref 512 1]) ?_
   refine sN<|sO<|WC.cI Z Z<|mM Z<|sV (.d (.lst ([0,10,20,35].map (PD.int .i64))))<|bE h fun x20 h20 h=>cR (rI x20.1) [(0,.var (ac.rc x20.2))] (du h20)<|sV (.ptr 48 0)<|sL Z<|bE h fun x21 h21 h=>WO.um h21 Z Z Z Z Z Z<|sV (rI (rW (x20.1+x21)))<|sV (rI (rW (s3+(rW (x20.1+x21)))))<|sA Z ?_
   refine sN<|sO<|WC.region Z Z<|mM Z<|sV (rI (if(rW (s3+(rW (x20.1+x21))))>s4 then(rW (s3+(rW (x20.1+x21))))else s4))<|sM Z<|sV (.d (.lst ([0,0,5,30].map (PD.int .i64))))<|bE h fun x22 h22 h=>cR (rI x22.1) [(0,.var (ac.rc x22.2))] (du h22)<|sV (rI (rW ((if(rW (s3+(rW (x20.1+x21))))>s4 then(rW (s3+(rW (x20.1+x21))))else s4)+x22.1)))<|sA Z<|sN<|WC.region Z Z<|sM Z<|sV (rI (rW (s5+(1:Int)))) ?_
   refine sA Z<|sN ?_
   cases oI h
   exact⟨rfl,rfl⟩
  refine sN<|sO<|cF<|qX ?_
  cases oI h
  exact⟨nofun,rfl,rfl⟩
 intro e R' B' he hq
 obtain⟨rfl,hI⟩:=hq
 refine qE<|gS Z hI<|sV (.agg [rI x1.1,.ref 432 0,.ref 512 0])<|sS 32 (.var [rI x1.1,.ref 432 0,.ref 512 0])<|sN<|qR ?_
 exact oI h▸qD
theorem oH{a1:Int}{d0:ac}{r:aG×ac}(h:eP a1 d0=some r):EvP prog aN ext 48 [.ptr 0 0,rI a1] [.var (ac.rc d0)] (.d (aG.pd r.1),[.var (ac.rc r.2)]):=by
 refine Ev.body Z Tryz.func48 Z Zk<|gU Z<|sB (.ptr 64 0) 64 (.var [r0,r0,r0,r0,r0,r0,r0,.mA,.mA,r0,r0,r0,r0,r0])<|sN<|gU Z<|mM Z<|bE h fun x1 h1 h=>cR (.d (ah.pd x1.1)) [(0,.var (ac.rc x1.2))] (Src_Box_ev h1)<|sM Z<|bE h fun x2 h2 h=>cR (.agg [rI x2.1.bn,.ref 144 0,.ref 145 0]) [(0,.var (ac.rc x2.2)),(144,.arr 0 3 (x2.1.aI.map (PD.int .i64))),(145,.arr 0 3 (x2.1.aC.map (PD.int .i64)))] (pc h2)<|sM Z<|sV (.d (.lst ([10,50,200].map (PD.int .i64))))<|bE h fun x3 h3 h=>?_
 refine cR (rI x3.1) [(0,.var (ac.rc x3.2))] (du h3)<|sM Z<|sV (.d (.lst ([0,0,10,40].map (PD.int .i64))))<|bE h fun x4 h4 h=>cR (rI x4.1) [(0,.var (ac.rc x4.2))] (du h4)<|sM Z<|sV (.d (.lst ([0,50,200,400].map (PD.int .i64))))<|bE h fun x5 h5 h=>cR (rI x5.1) [(0,.var (ac.rc x5.2))] (du h5)<|sM Z<|sV (.d (.lst ([0,5,20].map (PD.int .i64))))<|bE h fun x6 h6 h=>cR (rI x6.1) [(0,.var (ac.rc x6.2))] (du h6)<|sM Z<|bE h fun x7 h7 h=>?_
 refine cR (rI x7.1) [(0,.var (ac.rc x7.2))] (bG h7)<|sV (rI (rW ((2:Int)+x7.1)))<|sG (.agg (ah.rc x1.1++[rI x2.1.bn,.ref 144 0,.ref 145 0,rI x3.1,rI x4.1,rI x5.1,rI x6.1,rI (rW ((2:Int)+x7.1))]))<|sH 64 (.var (ah.rc x1.1++[rI x2.1.bn,.ref 144 0,.ref 145 0,rI x3.1,rI x4.1,rI x5.1,rI x6.1,rI (rW ((2:Int)+x7.1))]))<|sN<|qR ?_
 cases oI h
 exact qG
theorem Src_Scale_ev{d0:ac}{r:bz×ac}(h:lw d0=some r):EvP prog aN ext 49 [.ptr 0 0] [.var (ac.rc d0)] (.d (bz.pd r.1),[.var (ac.rc r.2)]):=by
 refine Ev.body Z Tryz.func49 Z Zk<|gU Z<|sB (.ptr 32 0) 32 (.var [r0,.mA,.mA,r0,r0])<|sN<|gU Z<|sM Z<|bE h fun x1 h1 h=>cR (.agg [rI x1.1.bn,.ref 96 0,.ref 97 0]) [(0,.var (ac.rc x1.2)),(96,.arr 0 3 (x1.1.aI.map (PD.int .i64))),(97,.arr 0 3 (x1.1.aC.map (PD.int .i64)))] (pc h1)<|sM Z<|bE h fun x2 h2 h=>cR (rI x2.1) [(0,.var (ac.rc x2.2))] (bG h2)<|sM Z<|bE h fun x3 h3 h=>cR (rI x3.1) [(0,.var (ac.rc x3.2))] (bG h3)<|sV (rI (rW ((1:Int)+x3.1))) ?_
 refine sV (.agg [rI x1.1.bn,.ref 96 0,.ref 97 0,rI x2.1,rI (rW ((1:Int)+x3.1))])<|sB (.ptr 48 0) 48 (.var [r0,.mA,.mA,r0,r0])<|sS 48 (.var [rI x1.1.bn,.ref 96 0,.ref 97 0,rI x2.1,rI (rW ((1:Int)+x3.1))])<|sN<|qS<|gU Z<|sV (.ptr 48 0)<|sV (.ptr 48 1)<|sL Z<|WO.tn Z Z Z Z Z Z Z Z Z<|sV (r0)<|sN<|bE h fun o26 ho26 h=>WC.block (WC.loop (WL.pI ho26 (fun s=>gI 1 49 3 [(2,.ptr 32 0),(3,.ptr 48 0),(16,rI (x1.1.aI.length:Int)),(17,rI s.1)] [(0,.var (ac.rc x3.2)),(32,.var [r0,.mA,.mA,r0,r0]),(48,.var [rI x1.1.bn,.ref 96 0,.ref 97 0,rI x2.1,rI (rW ((1:Int)+x3.1))]),(96,.arr 0 3 (s.2.1.map (PD.int .i64))),(97,.arr 0 3 (s.2.2.map (PD.int .i64)))]) (fun o=>gX 0 1 49 7 [(2,.ptr 32 0),(3,.ptr 48 0)] [(0,.var (ac.rc x3.2)),(32,.var [r0,.mA,.mA,r0,r0]),(48,.var [rI x1.1.bn,.ref 96 0,.ref 97 0,rI x2.1,rI (rW ((1:Int)+x3.1))]),(96,.arr 0 3 (o.1.map (PD.int .i64))),(97,.arr 0 3 (o.2.map (PD.int .i64)))]) Z ?_ ?_))
 ·rintro⟨s4,s5,s6⟩ R' B' q9 hI h
  refine gS Z hI<|sF h ?_ ?_<;>intro h
  ·refine sN<|qS<|cT<|qK<|qS<|qB<|gU Z<|sM Z<|sA Z<|sN<|WC.pX Z Z<|sV (.ptr 48 0)<|sV (.ptr 48 1)<|sL Z<|sM Z ?_
   refine sV (.ptr 48 0)<|sV (.ptr 48 2)<|sL Z<|sM Z<|sV (.ptr 48 0)<|sV (.ptr 48 1)<|sL Z<|sM Z<|bE h fun x12 h12 h=>WO.qk h12 Z Z Z Z Z Z Z Z<|bE h fun x13 h13 h=>WO.qj h13 Z Z Z Z Z Z<|bE h fun x14 h14 h=>WO.um h14 Z Z Z Z Z Z<|sV (.ptr 48 0) ?_
   refine sV (.ptr 48 2)<|sL Z<|sM Z<|bE h fun x16 h16 h=>WO.qk h16 Z Z Z Z Z Z Z Z<|bE h fun x17 h17 h=>WO.qj h17 Z Z Z Z Z Z<|bE h fun x18 h18 h=>WO.um h18 Z Z Z Z Z Z<|bE h fun x20 h20 h=>WO.qk h20 Z Z Z Z Z Z Z Z<|bE h fun x21 h21 h=>WO.rA (g:=(PD.int .i64)) (sz:=1) (p:= .int .i64 x14) h21 (fun _=>Z) (fun _=>Z) Z Z Z Z Z Z Z Z Z<|bE h fun x23 h23 h=>WO.qk h23 Z Z Z Z Z Z Z Z ?_
   refine bE h fun x24 h24 h=>WO.rA (g:=(PD.int .i64)) (sz:=1) (p:= .int .i64 x18) h24 (fun _=>Z) (fun _=>Z) Z Z Z Z Z Z Z Z Z ?_
   refine sN<|sO<|WC.region Z Z<|sV (rI (rW (s4+(1:Int))))<|sM Z<|sN ?_
   cases oI h
   exact⟨rfl,rfl⟩
  refine sN<|qS<|cF<|qX ?_
  cases oI h
  exact⟨nofun,rfl,rfl⟩
 intro e R' B' he hq
 obtain⟨rfl,hI⟩:=hq
 refine qE<|gS Z hI<|sV (.agg [rI x1.1.bn,.ref 96 0,.ref 97 0,rI x2.1,rI (rW ((1:Int)+x3.1))])<|sS 32 (.var [rI x1.1.bn,.ref 96 0,.ref 97 0,rI x2.1,rI (rW ((1:Int)+x3.1))])<|sN<|qR ?_
 exact oI h▸qD
theorem Src_Settings_ev{a1:Int}{d0:ac}{r:aq×ac}(h:ig a1 d0=some r):EvP prog aN ext 12 [.ptr 0 0,rI a1] [.var (ac.rc d0)] (.d (aq.pd r.1),[.var (ac.rc r.2)]):=by
 refine Ev.body Z Tryz.func12 Z Zk<|gU Z<|sB (.ptr 64 0) 64 (.var [r0,r0,r0,r0,r0,r0,r0,.mA,.mA,r0,r0,r0,r0,r0,r0,.mA,.mA,r0,r0,r0])<|sN<|gU Z<|mM Z<|bE h fun x1 h1 h=>cR (.d (aG.pd x1.1)) [(0,.var (ac.rc x1.2))] (oH h1)<|sM Z<|bE h fun x2 h2 h=>cR (.d (bz.pd x2.1)) [(0,.var (ac.rc x2.2))] (Src_Scale_ev h2)<|sM Z<|sV (.d (.lst ([0,0,10,40].map (PD.int .i64))))<|bE h fun x3 h3 h=>?_
 refine cR (rI x3.1) [(0,.var (ac.rc x3.2))] (du h3)<|sG (.d (.agg [.int .i64 x1.1.aK.aI.fX,.int .i64 x1.1.aK.aI.fY,.int .i64 x1.1.aK.aI.fZ,.int .i64 x1.1.aK.aC.fX,.int .i64 x1.1.aK.aC.fY,.int .i64 x1.1.aK.aC.fZ,.int .i64 x1.1.bc.bn,.lst (x1.1.bc.aI.map (PD.int .i64)),.lst (x1.1.bc.aC.map (PD.int .i64)),.int .i64 x1.1.cU,.int .i64 x1.1.bP,.int .i64 x1.1.dn,.int .i64 x1.1.kM,.int .i64 x1.1.cN,.int .i64 x2.1.bX.bn,.lst (x2.1.bX.aI.map (PD.int .i64)),.lst (x2.1.bX.aC.map (PD.int .i64)),.int .i64 x2.1.bK,.int .i64 x2.1.bC,.int .i64 x3.1]))<|sH 64 (.var (aG.rc x1.1++bz.rc x2.1++[rI x3.1]))<|sN<|qR ?_
 cases oI h
 exact qG
theorem kL{d0:ac}{r:aP×ac}(h:eT d0=some r):EvP prog aN ext 52 [.ptr 0 0] [.var (ac.rc d0)] (.d (aP.pd r.1),[.var (ac.rc r.2)]):=by
 refine Ev.body Z Tryz.func52 Z Zk<|gU Z<|sB (.ptr 32 0) 32 (.var [.mA])<|sN<|gU Z<|sB (.ptr 48 0) 48 (.var [.mA])<|sN<|qS<|gU Z<|sM Z<|bE h fun x1 h1 h=>cR (rI x1.1) [(0,.var (ac.rc x1.2))] (bG h1)<|sA Z<|sN<|bE h fun o28 ho28 h=>?_
 refine WC.block (WC.loop (WL.pI ho28 (fun s=>gI 1 52 3 [(0,.ptr 0 0),(2,.ptr 32 0),(3,.ptr 48 0),(4,rI s.1)] [(0,.var [rL s.2.1,rI s.2.2.1]),(32,.var [.mA]),(48,.var [.ref 1040 0]),(1040,.arr 0 184 (s.2.2.2.map aB.pd))]) (fun o=>gX 0 1 52 13 [(2,.ptr 32 0),(3,.ptr 48 0)] [(0,.var [rL o.1,rI o.2.1]),(32,.var [.mA]),(48,.var [.ref 1040 0]),(1040,.arr 0 184 (o.2.2.map aB.pd))]) Z ?_ ?_))
 ·rintro⟨s2,s3,s4,s5⟩ R' B' q9 hI h
  refine qS<|gS Z hI<|sM Z<|sF h ?_ ?_<;>intro h
  ·refine sN<|cT<|qK<|qS<|qB<|gU Z<|sM Z<|bE h fun x11 h11 h=>cR (rI x11.1) [(0,.var (ac.rc x11.2))] (bG h11)<|sG (.agg [rI x11.1,r0,r0,r0,r0,r0,r0,.mA,r0,r0])<|sB (.ptr 80 0) 80 (.var [r0,r0,r0,r0,r0,r0,r0,.mA,r0,r0])<|sH 80 (.var [rI x11.1,r0,r0,r0,r0,r0,r0,.mA,r0,r0])<|sN<|qS<|gU Z ?_
   refine sV (.ptr 80 0)<|sL Z<|sN<|qB<|gU Z<|sF h ?_ ?_<;>intro h
   ·refine sA Z<|sN<|cT<|WC.region Z Z<|sM Z<|sV (.d (.lst ([0,1,9,99,1048575].map (PD.int .i64))))<|bE h fun x13 h13 h=>cR (rI x13.1) [(0,.var (ac.rc x13.2))] (du h13)<|sV (rI (rW ((1:Int)+x13.1)))<|sM Z<|sV (.d (.lst ([0,0,2,9,999].map (PD.int .i64))))<|bE h fun x14 h14 h=>cR (rI x14.1) [(0,.var (ac.rc x14.2))] (du h14)<|sV (rI (rW ((1:Int)+x14.1)))<|sV (.ptr 80 1) ?_
    refine sV (.ptr 80 1)<|sS 80 (.var [rI x11.1,rI (rW ((1:Int)+x13.1)),r0,r0,r0,r0,r0,.mA,r0,r0])<|sV (.ptr 80 4)<|sV (.ptr 80 4)<|sS 80 (.var [rI x11.1,rI (rW ((1:Int)+x13.1)),r0,r0,rI (rW ((1:Int)+x14.1)),r0,r0,.mA,r0,r0])<|sN<|WC.region Z Z<|sV (.ptr 48 0)<|sL Z<|sV (.agg [rI x11.1,rI (rW ((1:Int)+x13.1)),r0,r0,rI (rW ((1:Int)+x14.1)),r0,r0,.mA,r0,r0])<|sG (.d (.lst ([(aB.mk x11.1 (aT.mk (rW ((1:Int)+x13.1)) 0 0) (aT.mk (rW ((1:Int)+x14.1)) 0 0) [] 0 0)].map aB.pd)))<|bE h fun x15 h15 h=>aR h15 (fun _=>Z) Z<|sV (.ptr 48 0)<|sS 48 (.var [.ref 1040 1]) ?_
    refine sN<|WC.region Z Z<|sM Z<|sV (rI (rW (s2-(1:Int))))<|sA Z<|sN ?_
    cases oI h
    exact⟨rfl,rfl⟩
   refine sA Z<|sN<|cF<|gU Z<|sF h ?_ ?_<;>intro h
   ·refine sA Z<|sN<|cT<|WC.region Z Z<|sM Z<|bE h fun x17 h17 h=>cR (rI x17.1) [(0,.var (ac.rc x17.2))] (bG h17)<|sM Z<|bE h fun x18 h18 h=>cR (rI x18.1) [(0,.var (ac.rc x18.2))] (bG h18)<|sV (rI (rW (x18.1-(3:Int))))<|sM Z<|bE h fun x19 h19 h=>cR (rI x19.1) [(0,.var (ac.rc x19.2))] (bG h19)<|sV (rI (rW (x19.1-(1:Int)))) ?_
    refine sV (.d (aT.pd (aT.mk x17.1 (rW (x18.1-(3:Int))) (rW (x19.1-(1:Int))))))<|sM Z<|bE h fun x20 h20 h=>cR (rI x20.1) [(0,.var (ac.rc x20.2))] (bG h20)<|sV (rI (rW ((1:Int)+x20.1)))<|sM Z<|bE h fun x21 h21 h=>cR (rI x21.1) [(0,.var (ac.rc x21.2))] (bG h21)<|sM Z<|bE h fun x22 h22 h=>cR (rI x22.1) [(0,.var (ac.rc x22.2))] (bG h22)<|sV (.d (aT.pd (aT.mk (rW ((1:Int)+x20.1)) x21.1 x22.1)))<|sV (.ptr 80 1)<|sS 80 (.var [rI x11.1,rI x17.1,rI (rW (x18.1-(3:Int))),rI (rW (x19.1-(1:Int))),r0,r0,r0,.mA,r0,r0])<|sV (.ptr 80 4) ?_
    refine sS 80 (.var [rI x11.1,rI x17.1,rI (rW (x18.1-(3:Int))),rI (rW (x19.1-(1:Int))),rI (rW ((1:Int)+x20.1)),rI x21.1,rI x22.1,.mA,r0,r0])<|sN<|WC.region Z Z<|sV (.ptr 48 0)<|sL Z<|sV (.agg [rI x11.1,rI x17.1,rI (rW (x18.1-(3:Int))),rI (rW (x19.1-(1:Int))),rI (rW ((1:Int)+x20.1)),rI x21.1,rI x22.1,.mA,r0,r0])<|sG (.d (.lst ([(aB.mk x11.1 (aT.mk x17.1 (rW (x18.1-(3:Int))) (rW (x19.1-(1:Int)))) (aT.mk (rW ((1:Int)+x20.1)) x21.1 x22.1) [] 0 0)].map aB.pd)))<|bE h fun x23 h23 h=>aR h23 (fun _=>Z) Z<|sV (.ptr 48 0)<|sS 48 (.var [.ref 1040 1])<|sN<|WC.region Z Z<|sM Z<|sV (rI (rW (s2-(1:Int)))) ?_
    refine sA Z<|sN ?_
    cases oI h
    exact⟨rfl,rfl⟩
   refine sA Z<|sN<|cF<|WC.region Z Z<|sM Z<|bE h fun x24 h24 h=>cR (rI x24.1) [(0,.var (ac.rc x24.2))] (bG h24)<|sV (rI (rW ((1:Int)+x24.1)))<|sV (.d (.lst ([(rW ((1:Int)+x24.1)),2,1].map (PD.int .i64))))<|sM Z<|bE h fun x25 h25 h=>cR (rI x25.1) [(0,.var (ac.rc x25.2))] (bG h25)<|sV (.ptr 80 7)<|sS 80 (.var [rI x11.1,r0,r0,r0,r0,r0,r0,.d (.lst ([(rW ((1:Int)+x24.1)),2,1].map (PD.int .i64))),r0,r0])<|sV (.ptr 80 8) ?_
   refine sS 80 (.var [rI x11.1,r0,r0,r0,r0,r0,r0,.d (.lst ([(rW ((1:Int)+x24.1)),2,1].map (PD.int .i64))),rI 1,r0])<|sV (.ptr 80 9)<|sS 80 (.var [rI x11.1,r0,r0,r0,r0,r0,r0,.d (.lst ([(rW ((1:Int)+x24.1)),2,1].map (PD.int .i64))),rI 1,rI x25.1])<|sN<|WC.region Z Z<|sV (.ptr 48 0)<|sL Z<|sV (.d (.agg [.int .i64 x11.1,.int .i64 0,.int .i64 0,.int .i64 0,.int .i64 0,.int .i64 0,.int .i64 0,.lst ([(rW ((1:Int)+x24.1)),2,1].map (PD.int .i64)),.int .i64 1,.int .i64 x25.1]))<|sG (.d (.lst ([(aB.mk x11.1 (aT.mk 0 0 0) (aT.mk 0 0 0) [(rW ((1:Int)+x24.1)),2,1] 1 x25.1)].map aB.pd)))<|bE h fun x26 h26 h=>aR h26 (fun _=>Z) Z<|sV (.ptr 48 0)<|sS 48 (.var [.ref 1040 1])<|sN<|WC.region Z Z ?_
   refine sM Z<|sV (rI (rW (s2-(1:Int))))<|sA Z<|sN ?_
   cases oI h
   exact⟨rfl,rfl⟩
  refine sN<|cF<|qX ?_
  cases oI h
  exact⟨nofun,rfl,rfl⟩
 intro e R' B' he hq
 obtain⟨rfl,hI⟩:=hq
 refine qE<|gS Z hI<|sV (.agg [.ref 1040 0])<|sS 32 (.var [.ref 1040 0])<|sN<|qR ?_
 exact oI h▸qD
theorem nK{a0:Int}{r:aw}(h:gN a0=some r):EvP prog aN ext 29 [rI a0] [] (.d (aw.pd r),[]):=by
 refine Ev.body Z Tryz.func29 Z Zk<|gU Z<|sB (.ptr 32 0) 32 (.var [rS [],rS [],rS [],rS []])<|sN<|gU Z<|sV (.d (.lst ([[83,49],[83,50],[83,51],[83,52],[83,53],[83,54]].map PD.str)))<|sM Z<|bE h fun x1 h1 h=>cD (keep_Mod_ev h1)<|bE h fun x2 h2 h=>eG h2 Z<|sC Z<|sV (.d (aw.pd (aw.mk [65,66] x2 [48,48] [66,72,90])))<|sS 32 (.var [rS [65,66],rS x2,rS [48,48],rS [66,72,90]])<|sN ?_
 refine qR ?_
 exact oI h▸qD
theorem Src_Sites_ev{a1:Int}{d0:ac}{r:ap×ac}(h:ly a1 d0=some r):EvP prog aN ext 13 [.ptr 0 0,rI a1] [.var (ac.rc d0)] (.d (ap.pd r.1),[.var (ac.rc r.2)]):=by
 refine Ev.body Z Tryz.func13 Z Zk<|gU Z<|sB (.ptr 64 0) 64 (.var [.mA])<|sN<|gU Z<|sB (.ptr 80 0) 80 (.var [.mA])<|sN<|qS<|gU Z<|sV (r0)<|sN<|bE h fun o34 ho34 h=>WC.block (WC.loop (WL.pI ho34 (fun s=>gI 1 13 3 [(0,.ptr 0 0),(1,rI a1),(4,.ptr 64 0),(5,.ptr 80 0),(6,rI s.1)] [(0,.var [rL s.2.1,rI s.2.2.1]),(64,.var [.mA]),(80,.var [.ref 1104 0]),(1104,.arr 0 116 (s.2.2.2.map au.pd))]) (fun o=>gX 0 1 13 16 [(4,.ptr 64 0),(5,.ptr 80 0)] [(0,.var [rL o.1,rI o.2.1]),(64,.var [.mA]),(80,.var [.ref 1104 0]),(1104,.arr 0 116 (o.2.2.map au.pd))]) Z ?_ ?_))
 ·rintro⟨s1,s2,s3,s4⟩ R' B' q8 hI h
  refine qS<|gS Z hI<|mM Z<|sF h ?_ ?_<;>intro h
  ·refine mM Z<|sV (rB (decide (s1<(6:Int))))<|sF h ?_ ?_<;>intro h
   ·refine sN<|cT<|qK<|qS<|qB<|gU Z<|sV (.d (bJ.pd (bJ.mk 100 1)))<|sM Z<|bE h fun x11 h11 h=>cR (.d (aa.pd x11.1)) [(0,.var (ac.rc x11.2))] (lf h11)<|sM Z<|bE h fun x12 h12 h=>cR (.d (aP.pd x12.1)) [(0,.var (ac.rc x12.2))] (kL h12)<|sG (.d (.agg [.int .i64 0,.int .i64 100000,.int .i64 100,.int .i64 1,.int .i64 x11.1.fX,.int .i64 x11.1.fY,.int .i64 x11.1.fZ,.lst (x12.1.bw.map aB.pd)]))<|sB (.ptr 112 0) 112 (.var zZ3) ?_
    refine sH 112 (.var (r0::rI 100000::rI 100::rI 1::aa.rc x11.1++[rM aB.pd x12.1.bw]))<|sN<|WC.cI Z Z<|sM Z<|bE h fun x13 h13 h=>cD (nK h13)<|sV (.d (.agg [.int .i64 0,.int .i64 100000,.int .i64 100,.int .i64 1,.int .i64 x11.1.fX,.int .i64 x11.1.fY,.int .i64 x11.1.fZ,.lst (x12.1.bw.map aB.pd)]))<|sB (.ref 448 0) 448 (.arr 0 113 ([(ar.mk 0 100000 (bJ.mk 100 1) x11.1 x12.1)].map ar.pd))<|sV (.agg (aw.rc x13++[.ref 448 0]))<|sB (.ptr 128 0) 128 (.var [rS [],rS [],rS [],rS [],.mA])<|sS 128 (.var (aw.rc x13++[.ref 448 0])) ?_
    refine sN<|sO<|qS<|gU Z<|sM Z<|bE h fun x14 h14 h=>cR (rI x14.1) [(0,.var (ac.rc x14.2))] (bG h14)<|sN<|qB<|gU Z<|sF h ?_ ?_<;>intro h
    ·refine sA Z<|sN<|cT<|gU Z<|sV (.d (.agg [.int .i64 0,.int .i64 100000,.int .i64 100,.int .i64 1,.int .i64 x11.1.fX,.int .i64 x11.1.fY,.int .i64 x11.1.fZ,.lst (x12.1.bw.map aB.pd)]))<|sB (.ptr 144 0) 144 (.var zZ3)<|sH 144 (.var (r0::rI 100000::rI 100::rI 1::aa.rc x11.1++[rM aB.pd x12.1.bw]))<|sN<|gU Z<|sM Z<|bE h fun x16 h16 h=>cR (rI x16.1) [(0,.var (ac.rc x16.2))] (bG h16)<|sV (rI (rW ((1500:Int)+x16.1)))<|sM Z<|bE h fun x17 h17 h=>?_
     refine cR (.d (aa.pd x17.1)) [(0,.var (ac.rc x17.2))] (lf h17)<|sM Z<|bE h fun x18 h18 h=>cR (.d (aP.pd x18.1)) [(0,.var (ac.rc x18.2))] (kL h18)<|sV (.ptr 144 0)<|sS 144 (.var (rI (rW ((1500:Int)+x16.1))::rI 100000::rI 100::rI 1::aa.rc x11.1++[rM aB.pd x12.1.bw]))<|sV (.ptr 144 4)<|sS 144 (.var (rI (rW ((1500:Int)+x16.1))::rI 100000::rI 100::rI 1::aa.rc x17.1++[rM aB.pd x12.1.bw]))<|sV (.ptr 144 7)<|sS 144 (.var (rI (rW ((1500:Int)+x16.1))::rI 100000::rI 100::rI 1::aa.rc x17.1++[rM aB.pd x18.1.bw]))<|sN<|gU Z<|sV (.ptr 128 4)<|sL Z<|sV (.ptr 144 0) ?_
     refine sL Z<|bE h fun x20 h20 h=>WO.qk h20 Z Z Z Z Z Z Z Z<|sV (.elt 448 0 ((0:Int)).toNat 1)<|bE h fun x21 h21 h=>WO.vO (g:=ar.pd) (u:=[]) (sz:=1) h21 (fun _=>Z) (fun _=>Nat.le_of_ble_eq_true Z) Z Z Z Z Z Z Z Z Z Z Z<|sN<|WC.region Z Z<|sV (.ptr 128 4)<|sL Z<|sV (.d (.agg [.int .i64 (rW ((1500:Int)+x16.1)),.int .i64 100000,.int .i64 100,.int .i64 1,.int .i64 x17.1.fX,.int .i64 x17.1.fY,.int .i64 x17.1.fZ,.lst (x18.1.bw.map aB.pd)]))<|sG (.d (.lst ([(ar.mk (rW ((1500:Int)+x16.1)) 100000 (bJ.mk 100 1) x17.1 x18.1)].map ar.pd)))<|bE h fun x23 h23 h=>aR h23 (fun _=>Z) Z<|sV (.ptr 128 4) ?_
     refine sS 128 (.var (aw.rc x13++[.ref 448 1]))<|sN<|WC.region Z Z<|sV (.ptr 80 0)<|sL Z<|sV (.agg (aw.rc x13++[.ref 448 1]))<|sB (.d (.lst [au.pd (au.mk x13 x23)])) 448 .dead<|bE h fun x24 h24 h=>aR h24 (fun _=>Z) Z<|sV (.ptr 80 0)<|sS 80 (.var [.ref 1104 1])<|sN<|WC.region Z Z<|sM Z<|sV (rI (rW (s1+(1:Int)))) ?_
     refine sA Z<|sN ?_
     cases oI h
     exact⟨rfl,rfl⟩
    refine sA Z<|sN<|cF<|gU Z<|sF h ?_ ?_<;>intro h
    ·refine sA Z<|sN<|cT<|WC.pX Z Z<|sV (.ptr 128 4)<|sL Z<|sM Z<|bE h fun x26 h26 h=>cR (rI x26.1) [(0,.var (ac.rc x26.2))] (bG h26)<|bE h fun x28 h28 h=>WO.qk h28 Z Z Z Z Z Z Z Z<|sV (.elt 448 0 ((0:Int)).toNat 0)<|bE h fun x29 h29 h=>WO.vO (g:=ar.pd) (u:=[]) (sz:=1) h29 (fun _=>Z) (fun _=>Nat.le_of_ble_eq_true Z) Z Z Z Z Z Z Z Z Z Z Z ?_
     refine sN<|sO<|WC.region Z Z<|sV (.ptr 80 0)<|sL Z<|sV (.agg (aw.rc x13++[.ref 448 0]))<|sB (.d (.lst [au.pd (au.mk x13 x29)])) 448 .dead<|bE h fun x31 h31 h=>aR h31 (fun _=>Z) Z<|sV (.ptr 80 0)<|sS 80 (.var [.ref 1104 1])<|sN<|WC.region Z Z<|sM Z<|sV (rI (rW (s1+(1:Int))))<|sA Z ?_
     refine sN ?_
     cases oI h
     exact⟨rfl,rfl⟩
    refine sA Z<|sN<|cF<|qK<|WC.region Z Z<|sV (.ptr 80 0)<|sL Z<|sV (.agg (aw.rc x13++[.ref 448 0]))<|sB (.d (.lst [au.pd (au.mk x13 [(ar.mk 0 100000 (bJ.mk 100 1) x11.1 x12.1)])])) 448 .dead<|bE h fun x32 h32 h=>aR h32 (fun _=>Z) Z<|sV (.ptr 80 0)<|sS 80 (.var [.ref 1104 1])<|sN<|WC.region Z Z ?_
    refine sM Z<|sV (rI (rW (s1+(1:Int))))<|sA Z<|sN ?_
    cases oI h
    exact⟨rfl,rfl⟩
   refine sN<|cF<|qX ?_
   cases oI h
   exact⟨nofun,rfl,rfl⟩
  refine sM Z<|sK<|sK<|sU<|sN<|cF<|qX ?_
  cases oI h
  exact⟨nofun,rfl,rfl⟩
 intro e R' B' he hq
 obtain⟨rfl,hI⟩:=hq
 refine qE<|gS Z hI<|sV (.agg [.ref 1104 0])<|sS 64 (.var [.ref 1104 0])<|sN<|qR ?_
 exact oI h▸qD
theorem mR{a1:Int}{a2:Int}{d0:ac}{r:Int×ac}(h:lv a1 a2 d0=some r):EvP prog aN ext 73 [.ptr 0 0,rI a1,rI a2] [.var (ac.rc d0)] (rI r.1,[.var (ac.rc r.2)]):=by
 refine Ev.body Z Tryz.func73 Z Zk<|gU Z<|sV (r0)<|sN<|gU Z<|mM Z<|mM Z<|sV (rI (rW (a2-a1)))<|sV (rI (rW ((rW (a2-a1))+(1:Int))))<|bE h fun x1 h1 h=>cR (rI x1.1) [(0,.var (ac.rc x1.2))] (bG h1)<|sV (rI (rW (a1+x1.1)))<|sA Z ?_
 refine sN<|qR ?_
 exact oI h▸qD
theorem pb{a1:ah}{d0:ac}{r:aa×ac}(h:my a1 d0=some r):EvP prog aN ext 27 [.ptr 0 0,.d (ah.pd a1)] [.var (ac.rc d0)] (.d (aa.pd r.1),[.var (ac.rc r.2)]):=by
 refine Ev.body Z Tryz.func27 Z Zk<|gU Z<|sB (.ptr 48 0) 48 (.var (ah.rc a1))<|sB (.ptr 64 0) 64 (.var [r0,r0,r0])<|sN<|WC.cI Z Z<|sM Z<|sV (.ptr 48 0)<|sV (.ptr 48 0)<|sL Z<|sV (.ptr 48 3)<|sV (.ptr 48 3)<|sL Z<|bE h fun x1 h1 h=>cR (rI x1.1) [(0,.var (ac.rc x1.2))] (mR h1) ?_
 refine sM Z<|sV (.ptr 48 0)<|sV (.ptr 48 1)<|sL Z<|sV (.ptr 48 3)<|sV (.ptr 48 4)<|sL Z<|bE h fun x2 h2 h=>cR (rI x2.1) [(0,.var (ac.rc x2.2))] (mR h2)<|sM Z<|sV (.ptr 48 0)<|sV (.ptr 48 2)<|sL Z<|sV (.ptr 48 3)<|sV (.ptr 48 5) ?_
 refine sL Z<|bE h fun x3 h3 h=>cR (rI x3.1) [(0,.var (ac.rc x3.2))] (mR h3)<|sV (.d (aa.pd (aa.mk x1.1 x2.1 x3.1)))<|sS 64 (.var [rI x1.1,rI x2.1,rI x3.1]) ?_
 refine sN<|sO<|qR ?_
 exact oI h▸qD
theorem keep_place_ev{a0:ap}{a1:aw}{a2:Int}{r:aa×Bool}(h:mZ a0 a1 a2=some r):EvP prog aN ext 53 [.d (ap.pd a0),.d (aw.pd a1),rI a2] [] (.tup [.d (aa.pd r.1),rB r.2],[]):=by
 refine Ev.body Z Tryz.func53 Z Zk<|gU Z<|sB (.ptr 48 0) 48 (.var [rM au.pd a0.aO])<|sB (.ptr 64 0) 64 (.var (aw.rc a1))<|sB (.ptr 96 0) 96 (.var [r0,r0,r0])<|sU<|sN<|qS<|gU Z<|sV (.ptr 48 0)<|sL Z<|sE (rI (a0.aO.length:Int)) (pf _ _)<|sV (r0)<|sN<|bE h fun o18 ho18 h=>?_
 refine WC.block (WC.loop (WL.pI ho18 (fun s=>gI 0 53 2 [(2,rI a2),(4,.ptr 64 0),(6,.ptr 96 0),(13,rM au.pd a0.aO),(14,rI (a0.aO.length:Int)),(15,rI s)] [(64,.var (aw.rc a1)),(96,.var [r0,r0,r0])]) (fun o=>match o with| .inl y=>gX 0 0 53 11 [(6,.ptr 96 0)] [(96,.var [r0,r0,r0])]| .inr r=>gF 53 Tryz.f53 0 (.tup [.d (aa.pd r.1),rB r.2],[])) Z ?_ ?_))
 ·rintro s1 R' B' q2 hI h
  refine gS Z hI<|sF h ?_ ?_<;>intro h
  ·refine sN<|qS<|cT<|qK<|qS<|qB<|gU Z<|bE h fun x4 h4 h=>eG h4 Z<|sV (.d (au.pd x4))<|sB (.ptr 144 0) 144 (.var [rS [],rS [],rS [],rS [],.mA])<|sS 144 (.var (au.rc x4))<|sN<|gU Z<|sV (.ptr 144 4) ?_
   refine sL Z<|sE (rI (x4.bL.length:Int)) (pf _ _)<|sV (r0)<|sN<|bE h fun o14 ho14 h=>WC.block (WC.loop (WL.pI ho14 (fun s=>gI 0 53 5 [(2,rI a2),(4,.ptr 64 0),(6,.ptr 96 0),(9,.ptr 144 0),(13,rM au.pd a0.aO),(14,rI (a0.aO.length:Int)),(15,rI s1),(20,rM ar.pd x4.bL),(21,rI (x4.bL.length:Int)),(22,rI s)] [(64,.var (aw.rc a1)),(96,.var [r0,r0,r0]),(144,.var (au.rc x4))]) (fun o=>match o with| .inl y=>gX 2 0 53 10 [(2,rI a2),(4,.ptr 64 0),(6,.ptr 96 0),(13,rM au.pd a0.aO),(14,rI (a0.aO.length:Int)),(15,rI y)] [(64,.var (aw.rc a1)),(96,.var [r0,r0,r0])]| .inr r=>gF 53 Tryz.f53 0 (.tup [.d (aa.pd r.1),rB r.2],[])) Z ?_ ?_))
   ·rintro s5 R' B' q7 hI h
    refine gS Z hI<|sF h ?_ ?_<;>intro h
    ·refine sN<|qS<|cT<|qK<|qS<|qB<|gU Z<|bE h fun x9 h9 h=>eG h9 Z<|sV (.d (ar.pd x9))<|sB (.ptr 176 0) 176 (.var zZ3)<|sH 176 (.var (ar.rc x9))<|sN<|gU Z<|sV (.ptr 144 0) ?_
     refine sV (.d (aw.pd x4.aA))<|sV (.d (aw.pd a1))<|qe h (fun hb10 h=>?_) (fun hb10 h=>?_)
     ·refine WO.uw (eqE_64 x4.aA a1) hb10 Z Z Z Z Z<|sM Z<|sV (.ptr 176 0)<|sL Z<|sM Z<|sV (rB (decide (x9.bj<=a2)))<|sF h ?_ ?_<;>intro h
      ·refine mM Z<|sV (.ptr 176 1)<|sL Z<|sV (rB (decide (a2<x9.fTo)))<|sF h ?_ ?_<;>intro h
       ·refine sN<|cT<|gU Z<|sV (.ptr 176 4)<|sV (.d (aa.pd x9.aW))<|sS 96 (.var (aa.rc x9.aW))<|sT<|sN<|qR ?_
        cases oI h
        exact⟨nofun,rfl,rfl⟩
       refine sN<|cF<|qK<|WC.region Z Z<|sV (rI (rW (s5+(1:Int))))<|sM Z<|sN ?_
       cases oI h
       exact⟨rfl,rfl⟩
      refine sM Z<|k3<|sK<|sU<|sN<|cF<|qK<|WC.region Z Z<|sV (rI (rW (s5+(1:Int))))<|sM Z<|sN ?_
      cases oI h
      exact⟨rfl,rfl⟩
     refine WO.uw (eqE_64 x4.aA a1) hb10 Z Z Z Z Z<|sM Z<|k3<|sK<|sU<|sM Z<|k3<|sK<|sU<|sN<|cF ?_
     refine qK<|WC.region Z Z<|sV (rI (rW (s5+(1:Int))))<|sM Z<|sN ?_
     cases oI h
     exact⟨rfl,rfl⟩
    refine sN<|qS<|cF<|qX ?_
    cases oI h
    exact⟨nofun,rfl,rfl⟩
   intro e R' B' he hq
   rcases o14 with y15|r16
   ·obtain⟨rfl,hI⟩:=hq
    refine qE<|WC.region hI Z<|sV (rI (rW (y15+(1:Int))))<|sM Z<|sN ?_
    cases oI h
    exact⟨rfl,rfl⟩
   obtain⟨rfl,hf⟩:=hq
   cases oI h
   exact⟨nofun,rfl,hf⟩
  refine sN<|qS<|cF<|qX ?_
  cases oI h
  exact⟨nofun,rfl,rfl⟩
 intro e R' B' he hq
 rcases o18 with y19|r20
 ·obtain⟨rfl,hI⟩:=hq
  refine qE<|gS Z hI<|sV (.d (aa.pd (aa.mk 0 0 0)))<|sS 96 (.var [r0,r0,r0])<|sU<|sN<|qR ?_
  exact oI h▸qD
 obtain⟨rfl,hf⟩:=hq
 cases oI h
 exact hf
theorem oP{a0:Int}{r:Int}(h:oa a0=some r):EvP prog aN ext 54 [rI a0] [] (rI r,[]):=by
 refine Ev.body Z Tryz.func54 Z Zk<|gU Z<|sV (r0)<|sN<|gU Z<|mM Z<|sV (rI (rW (a0*a0)))<|sA Z<|sN<|qR ?_
 exact oI h▸qD
theorem Src_Picks_ev{a1:aq}{a2:ap}{a3:Int}{d0:ac}{r:(List ae)×ac}(h:mw a1 a2 a3 d0=some r):EvP prog aN ext 14 [.ptr 0 0,.d (aq.pd a1),.d (ap.pd a2),rI a3] [.var (ac.rc d0)] (rM ae.pd r.1,[.var (ac.rc r.2)]):=by
 refine Ev.body Z Tryz.func14 Z Zk<|gU Z<|sB (.ptr 80 0) 80 (.var (aq.rc a1))<|sB (.ptr 96 0) 96 (.var [rM au.pd a2.aO])<|sV .mA<|sN<|gU Z<|sV .mA<|sN<|gU Z<|sM Z<|sV (.ptr 80 0)<|sV (.ptr 80 0)<|sV (.d (ah.pd a1.ai.aK))<|bE h fun x1 h1 h=>?_
 refine cR (.d (aa.pd x1.1)) [(0,.var (ac.rc x1.2))] (pb h1)<|sM Z<|bE h fun x2 h2 h=>cR (rI x2.1) [(0,.var (ac.rc x2.2))] (bG h2)<|sV (rI (rW ((1000:Int)+x2.1)))<|sB (.ptr 160 0) 160 (.var [r0,r0,r0])<|sS 160 (.var (aa.rc x1.1))<|sA Z<|sN<|qS<|gU Z<|mM Z<|sV (rI (rW (a3+(1:Int))))<|bE h fun x3 h3 h=>?_
 refine cR (rI x3.1) [(0,.var (ac.rc x3.2))] (bG h3)<|sA Z<|sN<|bE h fun o61 ho61 h=>WC.block (WC.loop (WL.pI ho61 (fun s=>gI 1 14 4 [(0,.ptr 0 0),(5,.ptr 80 0),(6,.ptr 96 0),(9,.ref 2192 0),(10,.ptr 160 0),(11,rI s.1),(12,rI s.2.1)] [(0,.var [rL s.2.2.1,rI s.2.2.2.1]),(80,.var (aq.rc a1)),(96,.var [rM au.pd a2.aO]),(160,.var [rI s.2.2.2.2.2.1,rI s.2.2.2.2.2.2.1,rI s.2.2.2.2.2.2.2]),(2192,.arr 0 66 (s.2.2.2.2.1.map ae.pd))]) (fun o=>gX 0 1 14 21 [(9,.ref 2192 0)] [(0,.var [rL o.2.1,rI o.2.2]),(2192,.arr 0 66 (o.1.map ae.pd))]) Z ?_ ?_))
 ·rintro⟨s4,s5,s6,s7,s8,s9,s10,s11⟩ R' B' q15 hI h
  refine qS<|gS Z hI<|sM Z<|sF h ?_ ?_<;>intro h
  ·refine sN<|cT<|qK<|qS<|qB<|gU Z<|sM Z<|bE h fun x17 h17 h=>cR (rI x17.1) [(0,.var (ac.rc x17.2))] (bG h17)<|bE h fun x18 h18 h=>cD (nK h18)<|sM Z<|sV (.d (.lst ([0,1,50,1000,1048576].map (PD.int .i64))))<|bE h fun x19 h19 h=>cR (rI x19.1) [(0,.var (ac.rc x19.2))] (du h19) ?_
   refine sM Z<|bE h fun x20 h20 h=>cR (rI x20.1) [(0,.var (ac.rc x20.2))] (bG h20)<|sV (rI (rW (x20.1-(1:Int))))<|sG (.d (ae.pd (ae.mk x18 0 0 0 x19.1 (rW (x20.1-(1:Int))))))<|sB (.ptr 208 0) 208 (.var zZ2)<|sH 208 (.var (aw.rc x18++[r0,r0,r0,rI x19.1,rI (rW (x20.1-(1:Int)))]))<|sN<|gU Z<|sM Z<|bE h fun x21 h21 h=>cR (rI x21.1) [(0,.var (ac.rc x21.2))] (bG h21)<|sV (rI (rW ((1000:Int)+x21.1)))<|sV (.ptr 208 5)<|sS 208 (.var (aw.rc x18++[r0,rI (rW ((1000:Int)+x21.1)),r0,rI x19.1,rI (rW (x20.1-(1:Int)))])) ?_
   refine sN<|WC.join (α:=Int×Int×(List Int)×Int×(List ae)×Int×Int×Int×Int) (fun x R' B'=>qb prog 1 (A R' B') (aN.at_ 14 1 18)=some (A [(0,.ptr 0 0),(5,.ptr 80 0),(6,.ptr 96 0),(9,.ref 2192 0),(10,.ptr 160 0),(11,rI x.1),(12,rI x.2.1),(13,.ptr 208 0)] [(0,.var [rL x.2.2.1,rI x.2.2.2.1]),(80,.var (aq.rc a1)),(96,.var [rM au.pd a2.aO]),(160,.var [rI x.2.2.2.2.2.1,rI x.2.2.2.2.2.2.1,rI x.2.2.2.2.2.2.2.1]),(208,.var (aw.rc x18++[r0,rI x.2.2.2.2.2.2.2.2,r0,rI x19.1,rI (rW (x20.1-(1:Int)))])),(2192,.arr 0 66 (x.2.2.2.2.1.map ae.pd))])) (fun x=>fh x18 x19 x20 x.1 x.2.1 x.2.2.1 x.2.2.2.1 x.2.2.2.2.1 x.2.2.2.2.2.1 x.2.2.2.2.2.2.1 x.2.2.2.2.2.2.2.1 x.2.2.2.2.2.2.2.2=some q15) ?_ ?_
   ·refine gU Z<|sM Z<|bE h fun x35 h35 h=>cR (rI x35.1) [(0,.var (ac.rc x35.2))] (bG h35)<|sN<|qB<|gU Z<|sF h ?_ ?_<;>intro h
    ·refine sA Z<|sN<|cT<|WC.region Z Z<|sM Z<|sV (.ptr 80 0)<|sV (.ptr 80 0)<|sV (.d (ah.pd a1.ai.aK))<|bE h fun x37 h37 h=>cR (.d (aa.pd x37.1)) [(0,.var (ac.rc x37.2))] (pb h37)<|mM Z<|bE h fun x38 h38 h=>cR (rI x38.1) [(0,.var (ac.rc x38.2))] (bG h38)<|sV (rI (rW (s4+x38.1))) ?_
     exact sS 160 (.var (aa.rc x37.1))<|sA rfl<|sN<|⟨((rW (s4+x38.1)),s5,x38.2.fL,x38.2.fAt,s8,x37.1.fX,x37.1.fY,x37.1.fZ,(rW ((1000:Int)+x21.1))),rfl,h⟩
    refine sA Z<|sN<|cF<|gU Z<|sF h ?_ ?_<;>intro h
    ·exact sA rfl<|sN<|cT<|qK<|⟨(s4,s5,x35.2.fL,x35.2.fAt,s8,s9,s10,s11,(rW ((1000:Int)+x21.1))),rfl,h⟩
    refine sA Z<|sN<|cF<|gU Z<|sV (.d (ap.pd a2))<|sV (.ptr 208 0)<|sV (.d (aw.pd x18))<|sM Z<|bE h fun x40 h40 h=>cR (.tup [.d (aa.pd x40.1),rB x40.2]) [] (keep_place_ev h40)<|sM Z<|sV (.d (aa.pd x40.1))<|sV (rB x40.2)<|sB (.ptr 224 0) 224 (.var [r0,r0,r0])<|sS 224 (.var (aa.rc x40.1)) ?_
    refine sA Z<|sN<|gU Z<|sF h ?_ ?_<;>intro h
    ·refine sN<|cT<|gU Z<|sV (r0)<|sN<|qS<|bE h fun o56 ho56 h=>WC.block (WC.loop (WL.pI ho56 (fun s=>gI 1 14 12 [(0,.ptr 0 0),(5,.ptr 80 0),(6,.ptr 96 0),(9,.ref 2192 0),(10,.ptr 160 0),(11,rI s4),(12,rI s5),(13,.ptr 208 0),(14,.ptr 224 0),(16,rI s)] [(0,.var (ac.rc x35.2)),(80,.var (aq.rc a1)),(96,.var [rM au.pd a2.aO]),(160,.var [rI s9,rI s10,rI s11]),(208,.var (aw.rc x18++[r0,rI (rW ((1000:Int)+x21.1)),r0,rI x19.1,rI (rW (x20.1-(1:Int)))])),(224,.var (aa.rc x40.1)),(2192,.arr 0 66 (s8.map ae.pd))]) (fun o=>gX 3 1 14 14 [(0,.ptr 0 0),(5,.ptr 80 0),(6,.ptr 96 0),(9,.ref 2192 0),(10,.ptr 160 0),(11,rI o.1),(12,rI o.2.1),(13,.ptr 208 0),(16,rI o.2.2.1)] [(0,.var (ac.rc x35.2)),(80,.var (aq.rc a1)),(96,.var [rM au.pd a2.aO]),(160,.var [rI o.2.2.2.2.1,rI o.2.2.2.2.2.1,rI o.2.2.2.2.2.2]),(208,.var (aw.rc x18++[r0,rI (rW ((1000:Int)+x21.1)),r0,rI x19.1,rI (rW (x20.1-(1:Int)))])),(2192,.arr 0 66 (o.2.2.2.1.map ae.pd))]) Z ?_ ?_))
     ·rintro s42 R' B' q50 hI h
      refine qS<|WC.cI hI Z<|mM Z<|sV (rI (rW (s42*s42)))<|sV (.ptr 224 0)<|sL Z<|sV (.ptr 160 0)<|sL Z<|sV (rI (rW (x40.1.fX-s9)))<|bE h fun x51 h51 h=>cD (oP h51)<|sV (.ptr 224 1)<|sL Z<|sV (.ptr 160 1) ?_
      refine sL Z<|sV (rI (rW (x40.1.fY-s10)))<|bE h fun x52 h52 h=>cD (oP h52)<|sV (rI (rW (x51+x52)))<|sV (.ptr 224 2)<|sL Z<|sV (.ptr 160 2)<|sL Z<|sV (rI (rW (x40.1.fZ-s11)))<|bE h fun x53 h53 h=>cD (oP h53)<|sV (rI (rW ((rW (x51+x52))+x53)))<|sF h ?_ ?_<;>intro h
      ·refine sN<|sO<|cT<|qK<|qB<|WC.region Z Z<|sM Z<|sV (rI (rW (s42+(1:Int))))<|sA Z<|sN ?_
       cases oI h
       exact⟨rfl,rfl⟩
      refine sN<|sO<|cF<|qX ?_
      cases oI h
      exact⟨nofun,rfl,rfl⟩
     intro e R' B' he hq
     obtain⟨rfl,hI⟩:=hq
     refine qE<|WC.pX hI Z<|sM Z<|sV (.ptr 80 0)<|sV (.ptr 80 6)<|sV (.ptr 80 7)<|sL Z<|sM Z<|sV (.ptr 80 0)<|sV (.ptr 80 6)<|sV (.ptr 80 6)<|sL Z<|bE h fun x57 h57 h=>WO.um h57 Z Z Z Z Z Z<|sV (.ptr 80 0) ?_
     refine sV (.ptr 80 6)<|sV (.ptr 80 7)<|sL Z<|sE (rI (a1.ai.bc.aI.length:Int)) (pf _ _)<|sV (rI (rW ((a1.ai.bc.aI.length:Int)-(1:Int))))<|sV (rI (if(rW ((a1.ai.bc.aI.length:Int)-(1:Int)))<x57 then(rW ((a1.ai.bc.aI.length:Int)-(1:Int)))else x57))<|bE h fun x58 h58 h=>eG h58 Z<|sC Z<|sV (rI (rW (o56.1+x58)))<|sM Z<|bE h fun x59 h59 h=>cR (rI x59.1) [(0,.var (ac.rc x59.2))] (bG h59)<|sV (rI (rW ((rW (o56.1+x58))+x59.1)))<|sV (.ptr 208 5) ?_
     refine sS 208 (.var (aw.rc x18++[r0,rI (rW ((rW (o56.1+x58))+x59.1)),r0,rI x19.1,rI (rW (x20.1-(1:Int)))])) ?_
     exact sN<|sO<|⟨(o56.1,o56.2.1,x59.2.fL,x59.2.fAt,o56.2.2.2.1,o56.2.2.2.2.1,o56.2.2.2.2.2.1,o56.2.2.2.2.2.2,(rW ((rW (o56.1+x58))+x59.1))),rfl,h⟩
    exact sN<|cF<|qK<|⟨(s4,s5,x35.2.fL,x35.2.fAt,s8,s9,s10,s11,(rW ((1000:Int)+x21.1))),rfl,h⟩
   rintro⟨j22,j23,j24,j25,j26,j27,j28,j29,j30⟩ R' B' hI h
   refine WC.cI hI Z<|sV (.ptr 208 5)<|sL Z<|sM Z<|bE h fun x31 h31 h=>cR (rI x31.1) [(0,.var (ac.rc x31.2))] (bG h31)<|sV (rI (rW (j30+x31.1)))<|sV (.ptr 208 4)<|sS 208 (.var (aw.rc x18++[rI (rW (j30+x31.1)),rI j30,r0,rI x19.1,rI (rW (x20.1-(1:Int)))])) ?_
   refine sN<|sO<|WC.cI Z Z<|sV (.ptr 208 4)<|sL Z<|sM Z<|bE h fun x32 h32 h=>cR (rI x32.1) [(0,.var (ac.rc x32.2))] (bG h32)<|sV (rI (rW ((rW (j30+x31.1))+x32.1)))<|sV (.ptr 208 6)<|sS 208 (.var (aw.rc x18++[rI (rW (j30+x31.1)),rI j30,rI (rW ((rW (j30+x31.1))+x32.1)),rI x19.1,rI (rW (x20.1-(1:Int)))])) ?_
   refine sN<|sO<|WC.region Z Z<|sM Z<|sV (.d (ae.pd (ae.mk x18 (rW (j30+x31.1)) j30 (rW ((rW (j30+x31.1))+x32.1)) x19.1 (rW (x20.1-(1:Int))))))<|sG (.d (.lst ([(ae.mk x18 (rW (j30+x31.1)) j30 (rW ((rW (j30+x31.1))+x32.1)) x19.1 (rW (x20.1-(1:Int))))].map ae.pd)))<|bE h fun x33 h33 h=>aR h33 (fun _=>Z) Z<|sA Z<|sN<|WC.region Z Z<|sM Z<|sV (rI (rW (j23-(1:Int))))<|sA Z<|sN ?_
   cases oI h
   exact⟨rfl,rfl⟩
  refine sN<|cF<|qX ?_
  cases oI h
  exact⟨nofun,rfl,rfl⟩
 intro e R' B' he hq
 obtain⟨rfl,hI⟩:=hq
 refine qE<|gS Z hI<|sM Z<|sA Z<|sN<|qR ?_
 exact oI h▸qD
theorem Src_Corrected_ev{a1:ap}{d0:ac}{r:ap×ac}(h:kr a1 d0=some r):EvP prog aN ext 44 [.ptr 0 0,.d (ap.pd a1)] [.var (ac.rc d0)] (.d (ap.pd r.1),[.var (ac.rc r.2)]):=by
 refine Ev.body Z Tryz.func44 Z Zk<|gU Z<|sB (.ptr 48 0) 48 (.var [rM au.pd a1.aO])<|sB (.ptr 64 0) 64 (.var [.mA])<|sN<|gU Z<|sB (.ptr 80 0) 80 (.var [.mA])<|sN<|qS<|gU Z<|sV (.ptr 48 0)<|sL Z<|sE (rI (a1.aO.length:Int)) (pf _ _)<|sV (r0)<|sN ?_
 refine bE h fun o53 ho53 h=>WC.block (WC.loop (WL.pI ho53 (fun s=>gI 1 44 3 [(0,.ptr 0 0),(4,.ptr 64 0),(5,.ptr 80 0),(10,rM au.pd a1.aO),(11,rI (a1.aO.length:Int)),(12,rI s.1)] [(0,.var [rL s.2.1,rI s.2.2.1]),(64,.var [.mA]),(80,.var [.ref 1536 0]),(1536,.arr 0 116 (s.2.2.2.map au.pd))]) (fun o=>gX 0 1 44 20 [(4,.ptr 64 0),(5,.ptr 80 0)] [(0,.var [rL o.1,rI o.2.1]),(64,.var [.mA]),(80,.var [.ref 1536 0]),(1536,.arr 0 116 (o.2.2.map au.pd))]) Z ?_ ?_))
 ·rintro⟨s1,s2,s3,s4⟩ R' B' q8 hI h
  refine gS Z hI<|sF h ?_ ?_<;>intro h
  ·refine sN<|qS<|cT<|qK<|qS<|qB<|gU Z<|bE h fun x10 h10 h=>eG h10 Z<|sV (.d (au.pd x10))<|sB (.ptr 112 0) 112 (.var [rS [],rS [],rS [],rS [],.mA])<|sS 112 (.var (au.rc x10))<|sN<|gU Z<|sB (.ref 256 0) 256 (.arr 0 113 (([]:List ar).map ar.pd)) ?_
   refine sV (.ptr 112 4)<|sL Z<|bE h fun x11 h11 h=>aR h11 (fun _=>Z) Z<|sV (.ptr 112 4)<|sS 112 (.var (aw.rc x10.aA++[.ref 256 1]))<|sN<|gU Z<|sM Z<|sV (.ptr 112 4)<|sL Z<|WO.tn Z Z Z Z Z Z Z Z Z<|bE h fun x12 h12 h=>cR (rI x12.1) [(0,.var (ac.rc x12.2))] (bG h12)<|sA Z ?_
   refine sN<|qS<|gU Z<|sM Z<|bE h fun x13 h13 h=>cR (rI x13.1) [(0,.var (ac.rc x13.2))] (bG h13)<|sN<|qB<|gU Z<|sF h ?_ ?_<;>intro h
   ·refine sA Z<|sN<|cT<|WC.pX Z Z<|sV (.ptr 112 4)<|sL Z<|mM Z<|bE h fun x15 h15 h=>cR (.d (aa.pd x15.1)) [(0,.var (ac.rc x15.2))] (lf h15)<|bE h fun x17 h17 h=>WO.qk h17 Z Z Z Z Z Z Z Z<|sV (.elt 256 1 (x12.1).toNat 4)<|bE h fun x18 h18 h=>WO.vO (g:=ar.pd) (u:=[]) (sz:=3) h18 (fun _=>Z) (fun _=>Nat.le_of_ble_eq_true Z) Z Z Z Z Z Z Z Z Z Z Z ?_
    refine sN<|sO<|WC.region Z Z<|sV (.ptr 80 0)<|sL Z<|sV (.agg (aw.rc x10.aA++[.ref 256 1]))<|sB (.d (.lst [au.pd (au.mk x10.aA x18)])) 256 .dead<|bE h fun x20 h20 h=>aR h20 (fun _=>Z) Z<|sV (.ptr 80 0)<|sS 80 (.var [.ref 1536 1])<|sN<|WC.region Z Z<|sV (rI (rW (s1+(1:Int))))<|sM Z<|sN ?_
    cases oI h
    exact⟨rfl,rfl⟩
   refine sA Z<|sN<|cF<|gU Z<|sF h ?_ ?_<;>intro h
   ·refine sA Z<|sN<|cT<|WC.pX Z Z<|sV (.ptr 112 4)<|sL Z<|mM Z<|bE h fun x22 h22 h=>cR (.d (aP.pd x22.1)) [(0,.var (ac.rc x22.2))] (kL h22)<|bE h fun x24 h24 h=>WO.qk h24 Z Z Z Z Z Z Z Z<|sV (.elt 256 1 (x12.1).toNat 7)<|bE h fun x25 h25 h=>WO.vO (g:=ar.pd) (u:=[]) (sz:=1) h25 (fun _=>Z) (fun _=>Nat.le_of_ble_eq_true Z) Z Z Z Z Z Z Z Z Z Z Z ?_
    refine sN<|sO<|WC.region Z Z<|sV (.ptr 80 0)<|sL Z<|sV (.agg (aw.rc x10.aA++[.ref 256 1]))<|sB (.d (.lst [au.pd (au.mk x10.aA x25)])) 256 .dead<|bE h fun x27 h27 h=>aR h27 (fun _=>Z) Z<|sV (.ptr 80 0)<|sS 80 (.var [.ref 1536 1])<|sN<|WC.region Z Z<|sV (rI (rW (s1+(1:Int))))<|sM Z<|sN ?_
    cases oI h
    exact⟨rfl,rfl⟩
   refine sA Z<|sN<|cF<|gU Z<|sF h ?_ ?_<;>intro h
   ·refine sA Z<|sN<|cT<|WC.pX Z Z<|sV (.ptr 112 4)<|sL Z<|sV (.ptr 112 4)<|sL Z<|WO.tn Z Z Z Z Z Z Z Z Z<|sV (rI (rW ((x11.length:Int)-(1:Int))))<|sV (.ptr 112 4)<|sL Z<|sV (.ptr 112 4)<|sL Z<|WO.tn Z Z Z Z Z Z Z Z Z ?_
    refine sV (rI (rW ((x11.length:Int)-(1:Int))))<|bE h fun x30 h30 h=>WO.qk h30 Z Z Z Z Z Z Z Z<|sV (.elt 256 1 ((rW ((x11.length:Int)-(1:Int)))).toNat 0)<|bE h fun x31 h31 h=>WO.qj h31 Z Z Z Z Z Z<|sV (rI (rW (x31.bj+(1:Int))))<|sM Z<|bE h fun x32 h32 h=>cR (rI x32.1) [(0,.var (ac.rc x32.2))] (bG h32)<|sM Z<|sV (.d (.lst ([1,1000].map (PD.int .i64))))<|bE h fun x33 h33 h=>cR (rI x33.1) [(0,.var (ac.rc x33.2))] (du h33)<|sV (rI (rW (x32.1*x33.1))) ?_
    refine sV (rI (rW ((rW (x31.bj+(1:Int)))+(rW (x32.1*x33.1)))))<|bE h fun x35 h35 h=>WO.qk h35 Z Z Z Z Z Z Z Z<|sV (.elt 256 1 ((rW ((x11.length:Int)-(1:Int)))).toNat 1)<|bE h fun x36 h36 h=>WO.vO (g:=ar.pd) (u:=[]) (sz:=1) h36 (fun _=>Z) (fun _=>Nat.le_of_ble_eq_true Z) Z Z Z Z Z Z Z Z Z Z Z ?_
    refine sN<|sO<|WC.region Z Z<|sV (.ptr 80 0)<|sL Z<|sV (.agg (aw.rc x10.aA++[.ref 256 1]))<|sB (.d (.lst [au.pd (au.mk x10.aA x36)])) 256 .dead<|bE h fun x38 h38 h=>aR h38 (fun _=>Z) Z<|sV (.ptr 80 0)<|sS 80 (.var [.ref 1536 1])<|sN<|WC.region Z Z<|sV (rI (rW (s1+(1:Int))))<|sM Z<|sN ?_
    cases oI h
    exact⟨rfl,rfl⟩
   refine sA Z<|sN<|cF<|gU Z<|sF h ?_ ?_<;>intro h
   ·refine sA Z<|sN<|cT<|qX<|⟨fun he=>(by cases he),fun _=>?_⟩
    refine qE<|WC.region Z Z<|sV (rI (rW (s1+(1:Int))))<|sM Z<|sN ?_
    cases oI h
    exact⟨rfl,rfl⟩
   refine sA Z<|sN<|cF<|gU Z<|sF h ?_ ?_<;>intro h
   ·refine sA Z<|sN<|cT<|WC.cI Z Z<|sV (.ptr 112 4)<|sL Z<|mM Z<|bE h fun x41 h41 h=>cR (rI x41.1) [(0,.var (ac.rc x41.2))] (bG h41)<|sV (rI (rW ((50:Int)+x41.1)))<|bE h fun x43 h43 h=>WO.qk h43 Z Z Z Z Z Z Z Z<|sV (.elt 256 1 (x12.1).toNat 2)<|sV (.elt 256 1 (x12.1).toNat 2) ?_
    refine bE h fun x44 h44 h=>WO.vO (g:=ar.pd) (u:=[]) (sz:=1) h44 (fun _=>Z) (fun _=>Nat.le_of_ble_eq_true Z) Z Z Z Z Z Z Z Z Z Z Z ?_
    refine sN<|sO<|WC.region Z Z<|sV (.ptr 112 4)<|sL Z<|sM Z<|bE h fun x47 h47 h=>WO.qk h47 Z Z Z Z Z Z Z Z<|sV (.elt 256 1 (x12.1).toNat 2)<|sV (.elt 256 1 (x12.1).toNat 3)<|bE h fun x48 h48 h=>WO.vO (g:=ar.pd) (u:=[]) (sz:=1) h48 (fun _=>Z) (fun _=>Nat.le_of_ble_eq_true Z) Z Z Z Z Z Z Z Z Z Z Z<|sN<|WC.region Z Z<|sV (.ptr 80 0)<|sL Z ?_
    refine sV (.agg (aw.rc x10.aA++[.ref 256 1]))<|sB (.d (.lst [au.pd (au.mk x10.aA x48)])) 256 .dead<|bE h fun x50 h50 h=>aR h50 (fun _=>Z) Z<|sV (.ptr 80 0)<|sS 80 (.var [.ref 1536 1])<|sN<|WC.region Z Z<|sV (rI (rW (s1+(1:Int))))<|sM Z<|sN ?_
    cases oI h
    exact⟨rfl,rfl⟩
   refine sA Z<|sN<|cF<|qK<|WC.region Z Z<|sV (.ptr 80 0)<|sL Z<|sV (.agg (aw.rc x10.aA++[.ref 256 1]))<|sB (.d (.lst [au.pd (au.mk x10.aA x11)])) 256 .dead<|bE h fun x51 h51 h=>aR h51 (fun _=>Z) Z<|sV (.ptr 80 0)<|sS 80 (.var [.ref 1536 1])<|sN<|WC.region Z Z ?_
   refine sV (rI (rW (s1+(1:Int))))<|sM Z<|sN ?_
   cases oI h
   exact⟨rfl,rfl⟩
  refine sN<|qS<|cF<|qX ?_
  cases oI h
  exact⟨nofun,rfl,rfl⟩
 intro e R' B' he hq
 obtain⟨rfl,hI⟩:=hq
 refine qE<|gS Z hI<|sV (.agg [.ref 1536 0])<|sS 64 (.var [.ref 1536 0])<|sN<|qR ?_
 exact oI h▸qD
theorem source_plain_ev{a0:Int}{r:Bool}(h:lr a0=some r):EvP prog aN ext 307 [.d (.int .u8 a0)] [] (rB r,[]):=by
 refine Ev.body Z Tryz.func307 Z Zk<|gU Z<|sU<|sN<|gU Z<|sM Z<|sF h ?_ ?_<;>intro h
 ·refine mM Z<|sV (rB (decide (a0<=(90:Int))))<|sF h ?_ ?_<;>intro h
  ·refine sM Z<|k3<|k3<|sT<|sA Z<|sN<|qR ?_
   exact oI h▸qD
  refine mM Z<|sF h ?_ ?_<;>intro h
  ·refine mM Z<|sV (rB (decide (a0<=(57:Int))))<|sV (rB (decide (a0<=(57:Int))))<|sV (rB (decide (a0<=(57:Int))))<|sA Z<|sN<|qR ?_
   exact oI h▸qD
  refine sM Z<|sK<|sK<|sU<|sU<|sA Z<|sN<|qR ?_
  exact oI h▸qD
 refine sM Z<|sK<|sK<|sU<|mM Z<|sF h ?_ ?_<;>intro h
 ·refine mM Z<|sV (rB (decide (a0<=(57:Int))))<|sV (rB (decide (a0<=(57:Int))))<|sV (rB (decide (a0<=(57:Int))))<|sA Z<|sN<|qR ?_
  exact oI h▸qD
 refine sM Z<|sK<|sK<|sU<|sU<|sA Z<|sN<|qR ?_
 exact oI h▸qD
theorem ie{a0:(List UInt8)}{a1:Int}{a2:Int}{r:Bool}(h:ic a0 a1 a2=some r):EvP prog aN ext 241 [rS a0,rI a1,rI a2] [] (rB r,[]):=by
 refine Ev.body Z Tryz.func241 Z Zk<|gU Z<|sU<|sN<|qS<|gU Z<|sM Z<|sV (rI (a0.length:Int))<|sV (r0)<|sN<|bE h fun o8 ho8 h=>WC.block (WC.loop (WL.pI ho8 (fun s=>gI 0 241 2 [(0,rS a0),(1,rI a1),(2,rI a2),(9,rI (a0.length:Int)),(10,rI s)] []) (fun o=>match o with| .inl y=>gX 0 0 241 7 [(0,rS a0),(1,rI a1),(2,rI a2)] []| .inr r=>gF 241 Tryz.f241 0 (rB r,[])) Z ?_ ?_))
 ·rintro s1 R' B' q2 hI h
  refine gS Z hI<|sF h ?_ ?_<;>intro h
  ·refine sN<|qS<|cT<|qK<|qS<|qB<|gU Z<|sM Z<|sA Z<|sN<|gU Z<|mM Z<|bE h fun x4 h4 h=>WO.byteG h4 Z Z Z Z Z Z ?_
   refine bE h fun x5 h5 h=>cD (source_plain_ev h5)<|sF h ?_ ?_<;>intro h
   ·refine sN<|cT<|gU Z<|sU<|sN<|qR ?_
    cases oI h
    exact⟨nofun,rfl,rfl⟩
   refine sN<|cF<|qK<|WC.region Z Z<|sV (rI (rW (s1+(1:Int))))<|sM Z<|sN ?_
   cases oI h
   exact⟨rfl,rfl⟩
  refine sN<|qS<|cF<|qX ?_
  cases oI h
  exact⟨nofun,rfl,rfl⟩
 intro e R' B' he hq
 rcases o8 with y9|r10
 ·obtain⟨rfl,hI⟩:=hq
  refine qE<|gS Z hI<|sM Z<|sV (rI (a0.length:Int))<|sM Z<|sF h ?_ ?_<;>intro h
  ·refine mM Z<|sV (rI (a0.length:Int))<|sM Z<|sV (rB (decide ((a0.length:Int)<=a2)))<|sV (rB (decide ((a0.length:Int)<=a2)))<|sA Z<|sN<|qR ?_
   exact oI h▸qD
  refine sM Z<|k3<|sK<|sU<|sA Z<|sN<|qR ?_
  exact oI h▸qD
 obtain⟨rfl,hf⟩:=hq
 cases oI h
 exact hf
theorem kV{a0:aw}{r:Bool}(h:jP a0=some r):EvP prog aN ext 155 [.d (aw.pd a0)] [] (rB r,[]):=by
 refine Ev.body Z Tryz.func155 Z Zk<|gU Z<|sB (.ptr 16 0) 16 (.var (aw.rc a0))<|sU<|sN<|gU Z<|sV (.ptr 16 0)<|sL Z<|bE h fun x1 h1 h=>qe h (fun hb2 h=>?_) (fun hb2 h=>?_)
 ·refine WO.qH (v:=rB true) (u:=[]) Z Z (fun _=>Z) Z Z Z Z Z (ie h1) Z Z (congrArg (fun b=>RV.d (.bool b)) hb2) Z<|sM Z<|sV (.ptr 16 1)<|sL Z<|bE h fun x3 h3 h=>cD (ie h3)<|sF h ?_ ?_<;>intro h
  ·refine sM Z<|sV (.ptr 16 2)<|sL Z<|bE h fun x5 h5 h=>cD (ie h5)<|sF h ?_ ?_<;>intro h
   ·refine sM Z<|sV (.ptr 16 2)<|sL Z<|sV (rI (a0.av.length:Int))<|sV (rB ((a0.av.length:Int) != (1:Int)))<|sF h ?_ ?_<;>intro h
    ·refine sM Z<|sV (.ptr 16 3)<|sL Z<|bE h fun x8 h8 h=>cD (ie h8)<|sV (rB x8)<|sA Z<|sN<|qR ?_
     exact oI h▸qD
    refine sM Z<|k3<|sU<|sA Z<|sN<|qR ?_
    exact oI h▸qD
   refine sM Z<|k3<|sK<|sU<|sM Z<|k3<|sU<|sA Z<|sN<|qR ?_
   exact oI h▸qD
  refine sM Z<|k3<|sU<|sM Z<|k3<|sK<|sU<|sM Z<|sK<|sK<|sK ?_
  refine sU<|sA Z<|sN<|qR ?_
  exact oI h▸qD
 refine WO.qH (v:=rB false) (u:=[]) Z Z (fun _=>Z) Z Z Z Z Z (ie h1) Z Z (congrArg (fun b=>RV.d (.bool b)) hb2) Z<|sM Z<|k3<|sU<|sM Z<|k3<|sU<|sM Z<|sK<|sK<|sK ?_
 refine sK<|sU<|sM Z<|k3<|sU<|sA Z<|sN<|qR ?_
 exact oI h▸qD
theorem pB{a0:Int}{a1:Int}{a2:Int}{r:Bool}(h:kj a0 a1 a2=some r):EvP prog aN ext 244 [rI a0,rI a1,rI a2] [] (rB r,[]):=by
 refine Ev.body Z Tryz.func244 Z Zk<|gU Z<|sU<|sN<|gU Z<|mM Z<|sF h ?_ ?_<;>intro h
 ·refine mM Z<|sM Z<|sV (rB (decide (a0<=a2)))<|sV (rB (decide (a0<=a2)))<|sA Z<|sN<|qR ?_
  exact oI h▸qD
 refine sM Z<|k3<|sU<|sA Z<|sN<|qR ?_
 exact oI h▸qD
theorem la{a0:ae}{r:Bool}(h:fG a0=some r):EvP prog aN ext 157 [.d (ae.pd a0)] [] (rB r,[]):=by
 refine Ev.body Z Tryz.func157 Z Zk<|gU Z<|sB (.ptr 16 0) 16 (.var (ae.rc a0))<|sU<|sN<|gU Z<|sV (.ptr 16 0)<|sV (.d (aw.pd a0.aA))<|bE h fun x1 h1 h=>qe h (fun hb2 h=>?_) (fun hb2 h=>?_)
 ·refine WO.qH (v:=rB true) (u:=[]) Z Z (fun _=>Z) Z Z Z Z Z (kV h1) Z Z (congrArg (fun b=>RV.d (.bool b)) hb2) Z<|sM Z<|sV (.ptr 16 5)<|sL Z<|sV (rB (decide (a0.aM>=(0:Int))))<|sF h ?_ ?_<;>intro h
  ·refine sM Z<|sV (.ptr 16 5)<|sL Z<|sV (.ptr 16 4)<|sL Z<|sV (rB (decide (a0.aM<=a0.a7)))<|sF h ?_ ?_<;>intro h
   ·refine sM Z<|sV (.ptr 16 4)<|sL Z<|sV (.ptr 16 6)<|sL Z<|sV (rB (decide (a0.a7<=a0.bv)))<|sF h ?_ ?_<;>intro h
    ·refine sM Z<|sV (.ptr 16 6)<|sL Z<|sV (rB (decide (a0.bv<=(18014398509481984:Int))))<|sF h ?_ ?_<;>intro h
     ·refine sM Z<|sV (.ptr 16 7)<|sL Z<|bE h fun x7 h7 h=>cD (pB h7)<|sF h ?_ ?_<;>intro h
      ·refine sM Z<|sV (.ptr 16 8)<|sL Z<|bE h fun x9 h9 h=>cD (pB h9)<|sV (rB x9)<|sA Z<|sN<|qR ?_
       cases oI h
       exact qG
      refine sM Z<|k3<|sU<|sA Z<|sN<|qR ?_
      cases oI h
      exact qG
     refine sM Z<|k3<|sU<|sM Z<|k3<|sU<|sA Z<|sN<|qR ?_
     cases oI h
     exact qG
    refine sM Z<|k3<|sU<|sM Z<|k3<|sU<|sM Z<|k3<|sU ?_
    refine sA Z<|sN<|qR ?_
    cases oI h
    exact qG
   refine sM Z<|k3<|sK<|sK<|sU<|sM Z<|k3<|sU<|sM Z<|sK<|sK ?_
   refine sK<|sU<|sM Z<|k3<|sU<|sA Z<|sN<|qR ?_
   cases oI h
   exact qG
  refine sM Z<|k3<|sK<|sK<|sU<|sM Z<|k3<|sK<|sK<|sU<|sM Z ?_
  refine k3<|sU<|sM Z<|k3<|sU<|sM Z<|k3<|sU<|sA Z ?_
  refine sN<|qR ?_
  cases oI h
  exact qG
 refine WO.qH (v:=rB false) (u:=[]) Z Z (fun _=>Z) Z Z Z Z Z (kV h1) Z Z (congrArg (fun b=>RV.d (.bool b)) hb2) Z<|sM Z<|k3<|sU<|sM Z<|k3<|sK<|sK<|sU<|sM Z<|sK ?_
 refine k3<|sK<|sU<|sM Z<|k3<|sU<|sM Z<|k3<|sU ?_
 refine sM Z<|k3<|sU<|sA Z<|sN<|qR ?_
 cases oI h
 exact qG
theorem iJ{a0:ae}{r:Bool}(h:gB a0=some r):EvP prog aN ext 172 [.d (ae.pd a0)] [] (rB r,[]):=by
 refine Ev.body Z Tryz.func172 Z Zk<|gU Z<|sB (.ptr 16 0) 16 (.var (ae.rc a0))<|sU<|sN<|gU Z<|sV (.d (ae.pd a0))<|bE h fun x1 h1 h=>cD (la h1)<|sV (rB (!x1))<|sA Z<|sN<|qR ?_
 cases oI h
 exact qG
theorem kJ{a0:(List ae)}{r:Int}(h:eE a0=some r):EvP prog aN ext 255 [rM ae.pd a0,.d (.raw (.func (.func 172) #[] #[]))] [] (rI r,[]):=by
 refine Ev.body Z Tryz.func255 Z Zk<|gU Z<|sV (r0)<|sN<|qS<|gU Z<|sM Z<|sE (rI (a0.length:Int)) (pf _ _)<|sV (r0)<|sN<|bE h fun o8 ho8 h=>WC.block (WC.loop (WL.pI ho8 (fun s=>gI 0 255 2 [(0,rM ae.pd a0),(1,.d (.raw (.func (.func 172) #[] #[]))),(7,rI (a0.length:Int)),(8,rI s)] []) (fun o=>match o with| .inl y=>gX 0 0 255 7 [] []| .inr r=>gF 255 Tryz.f255 0 (rI r,[])) Z ?_ ?_))
 ·rintro s1 R' B' q2 hI h
  refine gS Z hI<|sF h ?_ ?_<;>intro h
  ·refine sN<|qS<|cT<|qK<|qS<|qB<|gU Z<|sM Z<|sA Z<|sN<|gU Z<|mM Z<|sM Z<|bE h fun x4 h4 h=>?_
   refine eG h4 Z<|sV (.d (ae.pd x4))<|bE h fun x5 h5 h=>qe h (fun hb6 h=>?_) (fun hb6 h=>?_)
   ·refine WO.qH (v:=rB true) (u:=[]) Z Z (fun _=>Z) Z Z Z Z Z (iJ h5) Z Z (congrArg (fun b=>RV.d (.bool b)) hb6) Z<|sN<|cT<|gU Z<|sM Z<|sA Z<|sN<|qR ?_
    cases oI h
    exact⟨nofun,rfl,rfl⟩
   refine WO.qH (v:=rB false) (u:=[]) Z Z (fun _=>Z) Z Z Z Z Z (iJ h5) Z Z (congrArg (fun b=>RV.d (.bool b)) hb6) Z<|sN<|cF<|qK<|WC.region Z Z<|sV (rI (rW (s1+(1:Int))))<|sM Z<|sN ?_
   cases oI h
   exact⟨rfl,rfl⟩
  refine sN<|qS<|cF<|qX ?_
  cases oI h
  exact⟨nofun,rfl,rfl⟩
 intro e R' B' he hq
 rcases o8 with y9|r10
 ·obtain⟨rfl,hI⟩:=hq
  refine qE<|gS Z hI<|sV (rI (-1))<|sN<|qR ?_
  exact oI h▸qD
 obtain⟨rfl,hf⟩:=hq
 cases oI h
 exact hf
theorem jM{a0:(List ae)}{r:Bool}(h:dR a0=some r):EvP prog aN ext 171 [rM ae.pd a0,.d (.raw (.func (.func 172) #[] #[]))] [] (rB r,[]):=by
 refine Ev.body Z Tryz.func171 Z Zk<|gU Z<|sU<|sN<|gU Z<|mM Z<|bE h fun x1 h1 h=>cD (kJ h1)<|sV (rB (decide (x1>=(0:Int))))<|sA Z<|sN<|qR ?_
 exact oI h▸qD
theorem oj{a0:(List ae)}{r:Bool}(h:im a0=some r):EvP prog aN ext 97 [rM ae.pd a0] [] (rB r,[]):=by
 refine Ev.body Z Tryz.func97 Z Zk<|gU Z<|sU<|sN<|gU Z<|sM Z<|bE h fun x1 h1 h=>cD (jM h1)<|sV (rB (!x1))<|sA Z<|sN<|qR ?_
 exact oI h▸qD
theorem kY{a0:(List UInt8)}{r:Bool}(h:fx a0=some r):EvP prog aN ext 306 [rS a0] [] (rB r,[]):=by
 refine Ev.body Z Tryz.func306 Z Zk<|gU Z<|sU<|sN<|gU Z<|mM Z<|sV (rB (!(a0==a0)))<|sA Z<|sN<|qR ?_
 exact oI h▸qD
theorem eI{a0:(List UInt8)}{a1:(List UInt8)}{r:Int}(h:cz a0 a1=some r):EvP prog aN ext 239 [rS a0,rS a1] [] (rI r,[]):=by
 refine Ev.body Z Tryz.func239 Z Zk<|gU Z<|sV (r0)<|sN<|gU Z<|sM Z<|bE h fun x1 h1 h=>cD (kY h1)<|sA Z<|sN<|gU Z<|sM Z<|bE h fun x2 h2 h=>cD (kY h2)<|sA Z ?_
 refine sN<|qS<|gU Z<|sF h ?_ ?_<;>intro h
 ·refine sN<|cT<|qS<|gU Z<|sF h ?_ ?_<;>intro h
  ·refine sN<|cT<|gU Z<|sV (r0)<|sN<|qR ?_
   exact oI h▸qD
  refine sN<|cF<|qK<|gU Z<|sV (rI (-1))<|sN<|qR ?_
  exact oI h▸qD
 refine sN<|cF<|qK<|qS<|gU Z<|sF h ?_ ?_<;>intro h
 ·refine sN<|cT<|gU Z<|sV (rI 1)<|sN<|qR ?_
  exact oI h▸qD
 refine sN<|cF<|qK<|qS<|gU Z<|mM Z<|sF h ?_ ?_<;>intro h
 ·refine sN<|cT<|gU Z<|sV (rI (-1))<|sN<|qR ?_
  exact oI h▸qD
 refine sN<|cF<|qK<|qS<|gU Z<|mM Z<|sF h ?_ ?_<;>intro h
 ·refine sN<|cT<|gU Z<|sV (rI 1)<|sN<|qR ?_
  exact oI h▸qD
 refine sN<|cF<|qK<|gU Z<|sV (r0)<|sN<|qR ?_
 exact oI h▸qD
theorem gx{a0:(List Int)}{r:Int}(h:cA a0=some r):EvP prog aN ext 95 [rL a0] [] (rI r,[]):=by
 refine Ev.body Z Tryz.func95 Z Zk<|gU Z<|sV (r0)<|sN<|gU Z<|sV (r0)<|sN<|qS<|gU Z<|sM Z<|sE (rI (a0.length:Int)) (pf _ _)<|sV (r0)<|sN<|bE h fun o7 ho7 h=>WC.block (WC.loop (WL.pI ho7 (fun s=>gI 0 95 3 [(3,r0),(6,rL a0),(7,rI (a0.length:Int)),(8,rI s)] []) (fun o=>match o with| .inl y=>gX 0 0 95 8 [(3,r0)] []| .inr r=>gF 95 Tryz.f95 0 (rI r,[])) Z ?_ ?_))
 ·rintro s1 R' B' q2 hI h
  refine gS Z hI<|sF h ?_ ?_<;>intro h
  ·refine sN<|qS<|cT<|qK<|qS<|qB<|gU Z<|bE h fun x4 h4 h=>eG h4 Z<|sC Z<|sA Z<|sN<|gU Z<|sM Z<|sM Z ?_
   refine sF h ?_ ?_<;>intro h
   ·refine sN<|cT<|gU Z<|sM Z<|sA Z<|sN<|qR ?_
    cases oI h
    exact⟨nofun,rfl,rfl⟩
   refine sN<|cF<|qK<|WC.region Z Z<|sV (rI (rW (s1+(1:Int))))<|sM Z<|sN ?_
   cases oI h
   exact⟨rfl,rfl⟩
  refine sN<|qS<|cF<|qX ?_
  cases oI h
  exact⟨nofun,rfl,rfl⟩
 intro e R' B' he hq
 rcases o7 with y8|r9
 ·obtain⟨rfl,hI⟩:=hq
  refine qE<|gS Z hI<|sM Z<|sA Z<|sN<|qR ?_
  exact oI h▸qD
 obtain⟨rfl,hf⟩:=hq
 cases oI h
 exact hf
theorem md{a0:aw}{a1:aw}{r:Int}(h:fN a0 a1=some r):EvP prog aN ext 153 [.d (aw.pd a0),.d (aw.pd a1)] [] (rI r,[]):=by
 refine Ev.body Z Tryz.func153 Z Zk<|gU Z<|sB (.ptr 32 0) 32 (.var (aw.rc a0))<|sB (.ptr 48 0) 48 (.var (aw.rc a1))<|sV (r0)<|sN<|WC.cI Z Z<|sV (.ptr 32 0)<|sL Z<|sV (.ptr 48 0)<|sL Z<|bE h fun x1 h1 h=>cD (eI h1)<|sV (.ptr 32 1)<|sL Z ?_
 refine sV (.ptr 48 1)<|sL Z<|bE h fun x2 h2 h=>cD (eI h2)<|sV (.ptr 32 2)<|sL Z<|sV (.ptr 48 2)<|sL Z<|bE h fun x3 h3 h=>cD (eI h3)<|sV (.ptr 32 3)<|sL Z<|sV (.ptr 48 3)<|sL Z<|bE h fun x4 h4 h=>?_
 refine cD (eI h4)<|sV (.d (.lst ([x1,x2,x3,x4].map (PD.int .i64))))<|bE h fun x5 h5 h=>cD (gx h5)<|sA Z ?_
 refine sN<|sO<|qR ?_
 exact oI h▸qD
theorem mB{a0:Int}{r:Bool}(h:iI a0=some r):EvP prog aN ext 170 [rI a0] [] (rB r,[]):=by
 refine Ev.body Z Tryz.func170 Z Zk<|gU Z<|sU<|sN<|gU Z<|mM Z<|sV (rB (a0 != a0))<|sA Z<|sN<|qR ?_
 exact oI h▸qD
theorem bB{a0:Int}{a1:Int}{r:Int}(h:bA a0 a1=some r):EvP prog aN ext 96 [rI a0,rI a1] [] (rI r,[]):=by
 refine Ev.body Z Tryz.func96 Z Zk<|gU Z<|sV (r0)<|sN<|gU Z<|sM Z<|bE h fun x1 h1 h=>cD (mB h1)<|sA Z<|sN<|gU Z<|sM Z<|bE h fun x2 h2 h=>cD (mB h2)<|sA Z ?_
 refine sN<|qS<|gU Z<|sF h ?_ ?_<;>intro h
 ·refine sN<|cT<|qS<|gU Z<|sF h ?_ ?_<;>intro h
  ·refine sN<|cT<|gU Z<|sV (r0)<|sN<|qR ?_
   exact oI h▸qD
  refine sN<|cF<|qK<|gU Z<|sV (rI (-1))<|sN<|qR ?_
  exact oI h▸qD
 refine sN<|cF<|qK<|qS<|gU Z<|sF h ?_ ?_<;>intro h
 ·refine sN<|cT<|gU Z<|sV (rI 1)<|sN<|qR ?_
  exact oI h▸qD
 refine sN<|cF<|qK<|qS<|gU Z<|mM Z<|sF h ?_ ?_<;>intro h
 ·refine sN<|cT<|gU Z<|sV (rI (-1))<|sN<|qR ?_
  exact oI h▸qD
 refine sN<|cF<|qK<|qS<|gU Z<|mM Z<|sF h ?_ ?_<;>intro h
 ·refine sN<|cT<|gU Z<|sV (rI 1)<|sN<|qR ?_
  exact oI h▸qD
 refine sN<|cF<|qK<|gU Z<|sV (r0)<|sN<|qR ?_
 exact oI h▸qD
theorem pA{a0:ae}{a1:ae}{r:Int}(h:b9 a0 a1=some r):EvP prog aN ext 80 [.d (ae.pd a0),.d (ae.pd a1)] [] (rI r,[]):=by
 refine Ev.body Z Tryz.func80 Z Zk<|gU Z<|sB (.ptr 32 0) 32 (.var (ae.rc a0))<|sB (.ptr 48 0) 48 (.var (ae.rc a1))<|sV (r0)<|sN<|WC.cI Z Z<|sV (.ptr 32 0)<|sV (.d (aw.pd a0.aA))<|sV (.ptr 48 0)<|sV (.d (aw.pd a1.aA))<|bE h fun x1 h1 h=>cD (md h1)<|sV (.ptr 32 4)<|sL Z ?_
 refine sV (.ptr 48 4)<|sL Z<|bE h fun x2 h2 h=>cD (bB h2)<|sV (.ptr 32 5)<|sL Z<|sV (.ptr 48 5)<|sL Z<|bE h fun x3 h3 h=>cD (bB h3)<|sV (.ptr 32 6)<|sL Z<|sV (.ptr 48 6)<|sL Z<|bE h fun x4 h4 h=>?_
 refine cD (bB h4)<|sV (.ptr 32 7)<|sL Z<|sV (.ptr 48 7)<|sL Z<|bE h fun x5 h5 h=>cD (bB h5)<|sV (.ptr 32 8)<|sL Z<|sV (.ptr 48 8)<|sL Z<|bE h fun x6 h6 h=>cD (bB h6)<|sV (.d (.lst ([x1,x2,x3,x4,x5,x6].map (PD.int .i64))))<|bE h fun x7 h7 h=>?_
 refine cD (gx h7)<|sA Z ?_
 refine sN<|sO<|qR ?_
 cases oI h
 exact qG
theorem ni{d0:(List ae)}{r:(List ae)}(h:d6 d0=some r):EvP prog aN ext 183 [.ref 0 0] [.arr 0 66 (d0.map ae.pd)] (.ref 0 1,[.arr 1 66 (r.map ae.pd)]):=by
 refine Ev.body Z Tryz.func183 Z Zk<|gU Z<|sV .mA<|sN<|qS<|gU Z<|sM Z<|WO.tn Z Z Z Z Z Z Z Z Z<|sF h ?_ ?_<;>intro h
 ·refine sN<|cT<|WC.p7 (R0:=[(0,.ref 0 1)]) (B0:=[(0,.arr 1 66 (d0.map ae.pd))]) Z Z<|sM Z<|sA Z<|sN<|qR ?_
  exact oI h▸qD
 refine sN<|cF<|qK<|qS<|gU Z<|sV (rI 1)<|sN<|bE h fun o38 ho38 h=>WC.block (WC.loop (WL.pI ho38 (fun s=>gI 1 183 4 [(0,.ref 0 0),(3,rI s)] [(0,.arr 0 66 (d0.map ae.pd))]) (fun o=>match o with| .inl y=>gX 0 1 183 16 [(0,.ref 0 1)] [(0,.arr 1 66 (d0.map ae.pd))]| .inr r=>gF 183 Tryz.f183 1 (.ref 0 1,[.arr 1 66 (r.map ae.pd)])) Z ?_ ?_))
 ·rintro s2 R' B' q3 hI h
  refine qS<|gS Z hI<|mM Z<|WO.tn Z Z Z Z Z Z Z Z Z<|sF h ?_ ?_<;>intro h
  ·refine sN<|cT<|qK<|qS<|qB<|WC.cI Z Z<|mM Z<|bE h fun x6 h6 h=>WO.qk h6 Z Z Z Z Z Z Z Z<|bE h fun x7 h7 h=>WO.qj h7 Z Z Z Z Z Z<|mM Z<|sV (rI (rW (s2-(1:Int)))) ?_
   refine bE h fun x9 h9 h=>WO.qk h9 Z Z Z Z Z Z Z Z<|bE h fun x10 h10 h=>WO.qj h10 Z Z Z Z Z Z<|qe h (fun hb11 h=>?_) (fun hb11 h=>?_)
   ·refine WO.uw (eqE_66 x7 x10) hb11 Z Z Z Z Z ?_
    refine sN<|sO<|cT<|gU Z<|mM Z<|bE h fun x12 h12 h=>WO.subR h12 Z Z Z Z Z Z Z Z Z Z Z Z<|sA Z<|sN<|qS<|gU Z<|sV (rI 1)<|sN<|bE h fun o32 ho32 h=>WC.block (WC.loop (WL.pI ho32 (fun s=>gI 1 183 9 [(0,.ref 0 0),(3,rI s.1),(4,.view 0 0 (0+(s2:Int).toNat) (0+((d0.length:Int):Int).toNat)),(5,rI s.2.1)] [(0,.arr 0 66 (s.2.2.map ae.pd))]) (fun o=>gX 2 1 183 14 [(0,.ref 0 0),(3,rI o.1)] [(0,.arr 0 66 (o.2.map ae.pd))]) Z ?_ ?_))
    ·rintro⟨s13,s14,s15⟩ R' B' q18 hI h
     unfold fI at h
     refine qS<|gS Z hI<|mM Z<|bE h fun x19 h19 h=>WO.lenVw h19 Z Z Z Z Z Z Z Z Z<|sF h ?_ ?_<;>intro h
     ·refine sN<|cT<|qK<|qS<|qB<|WC.cI Z Z<|mM Z<|bE h fun x21 h21 h=>WO.eltV h21 Z Z Z Z Z Z Z Z<|bE h fun x22 h22 h=>WO.qj h22 Z Z Z Z Z Z<|mM Z<|sV (rI (rW (s14-(1:Int)))) ?_
      refine bE h fun x23 h23 h=>WO.eltV h23 Z Z Z Z Z Z Z Z<|bE h fun x24 h24 h=>WO.qj h24 Z Z Z Z Z Z<|qe h (fun hb25 h=>?_) (fun hb25 h=>?_)
      ·refine WO.uw (eqN_66 x22 x24) hb25 Z Z Z Z Z ?_
       refine sN<|sO<|cT<|gU Z<|mM Z<|mM Z<|bE h fun x26 h26 h=>WO.eltV h26 Z Z Z Z Z Z Z Z<|bE h fun x27 h27 h=>WO.qj h27 Z Z Z Z Z Z<|bE h fun x29 h29 h=>WO.qk h29 Z Z Z Z Z Z Z Z<|bE h fun x30 h30 h=>WO.rA (g:=ae.pd) (sz:=9) (p:=ae.pd x27) h30 (by intro _;kernel_rfl) (by intro _;kernel_rfl) Z Z Z Z Z Z Z Z Z ?_
       refine sN<|WC.region Z Z<|sM Z<|sV (rI (rW (s13+(1:Int))))<|sA Z<|sN<|WC.region Z Z<|sM Z<|sV (rI (rW (s14+(1:Int))))<|sA Z<|sN ?_
       cases oI h
       exact⟨rfl,rfl⟩
      refine WO.uw (eqN_66 x22 x24) hb25 Z Z Z Z Z ?_
      refine sN<|sO<|cF<|qK<|WC.region Z Z<|sM Z<|sV (rI (rW (s14+(1:Int))))<|sA Z<|sN ?_
      cases oI h
      exact⟨rfl,rfl⟩
     refine sN<|cF<|qX ?_
     cases oI h
     exact⟨nofun,rfl,rfl⟩
    intro e R' B' he hq
    obtain⟨rfl,hI⟩:=hq
    refine qE<|gS Z hI<|mM Z<|bE h fun x33 h33 h=>WO.subR h33 Z Z Z Z Z Z Z Z Z Z Z Z<|bE h fun x34 h34 h=>WO.clearN (z:=(ae.mk (aw.mk [] [] [] []) 0 0 0 0 0)) (g:=ae.pd) Z Z Z Z Z Z Z (dst_view h34 Z) Z Z Z Z<|sN<|gU Z<|mM Z<|bE h fun x36 h36 h=>WO.resl h36 Z Z Z Z Z Z Z Z Z Z Z Z<|sA Z ?_
    refine sN<|qR ?_
    cases oI h
    exact⟨nofun,rfl,rfl⟩
   refine WO.uw (eqE_66 x7 x10) hb11 Z Z Z Z Z ?_
   refine sN<|sO<|cF<|qK<|WC.region Z Z<|sM Z<|sV (rI (rW (s2+(1:Int))))<|sA Z<|sN ?_
   cases oI h
   exact⟨rfl,rfl⟩
  refine sN<|cF<|qX ?_
  cases oI h
  exact⟨nofun,rfl,rfl⟩
 intro e R' B' he hq
 rcases o38 with y39|r40
 ·obtain⟨rfl,hI⟩:=hq
  refine qE<|gS Z hI<|sM Z<|sA Z<|sN<|qR ?_
  exact oI h▸qD
 obtain⟨rfl,hf⟩:=hq
 cases oI h
 exact hf
theorem lO{a0:(List ae)}{r:(List ae)}(h:cQ a0=some r):EvP prog aN ext 106 [rM ae.pd a0] [] (.ref 0 0,[.arr 0 66 (r.map ae.pd)]):=by
 refine Ev.body Z Tryz.func106 Z Zk<|gU Z<|sV .mA<|sN<|gU Z<|sM Z<|bE h fun x1 h1 h=>cR (.ref 80 0) [(80,.arr 0 66 (x1.map ae.pd))] (clone_182 h1)<|sA Z<|sN<|gU Z<|sM Z<|bE h fun x2 h2 h=>cR (.tup []) [(80,.arr 0 66 (x2.map ae.pd))] (sort_79_80 h2)<|sN ?_
 refine gU Z<|sM Z<|bE h fun x3 h3 h=>cR (.ref 80 1) [(80,.arr 1 66 (x3.map ae.pd))] (ni h3)<|sA Z<|sN<|qR ?_
 exact oI h▸qD
theorem lF{a0:ae}{a1:ae}{r:Int}(h:dV a0 a1=some r):EvP prog aN ext 174 [.d (ae.pd a0),.d (ae.pd a1)] [] (rI r,[]):=by
 refine Ev.body Z Tryz.func174 Z Zk<|gU Z<|sB (.ptr 32 0) 32 (.var (ae.rc a0))<|sB (.ptr 48 0) 48 (.var (ae.rc a1))<|sV (r0)<|sN<|gU Z<|sV (.ptr 32 5)<|sL Z<|sV (.ptr 48 5)<|sL Z<|bE h fun x1 h1 h=>cD (bB h1)<|sA Z<|sN ?_
 refine qR ?_
 cases oI h
 exact qG
theorem dw{a1:Int}{a2:Int}{d0:(List ae)}{r:(List ae)}(h:bo a1 a2 d0=some r):EvP prog aN ext 231 [.ref 0 0,rI a1,rI a2,.d (.raw (.func (.func 174) #[] #[]))] [.arr 0 66 (d0.map ae.pd)] (.tup [],[.arr 0 66 (r.map ae.pd)]):=by
 refine Ev.body Z Tryz.func231 Z Zk<|gU Z<|sM Z<|sV (rI (rW (a1+(1:Int))))<|sA Z<|sN<|bE h fun o35 ho35 h=>?_
 cases oI h
 refine WC.block (WC.loop (WL.tI ho35 (fun s=>gI 1 231 1 [(0,.ref 0 0),(1,rI a1),(2,rI a2),(3,.d (.raw (.func (.func 174) #[] #[]))),(8,rI s.1)] [(0,.arr 0 66 (s.2.map ae.pd))]) Z ?_))
 rintro⟨s1,s2⟩ R' B' q3 hI h
 refine qS<|gS Z hI<|mM Z<|sF h ?_ ?_<;>intro h
 ·refine sN<|cT<|qK<|qS<|qB<|gU Z<|sM Z<|sA Z<|sN<|bE h fun o32 ho32 h=>WC.block (WC.loop (WL.pI ho32 (fun s=>gI 1 231 4 [(0,.ref 0 0),(1,rI a1),(2,rI a2),(3,.d (.raw (.func (.func 174) #[] #[]))),(8,rI s1),(9,rI s.1)] [(0,.arr 0 66 (s.2.map ae.pd))]) (fun o=>gX 2 1 231 2 [(0,.ref 0 0),(1,rI a1),(2,rI a2),(3,.d (.raw (.func (.func 174) #[] #[]))),(8,rI o.1)] [(0,.arr 0 66 (o.2.map ae.pd))]) Z ?_ ?_))
  ·rintro⟨s5,s6⟩ R' B' q9 hI h
   refine qS<|WC.cI hI Z<|mM Z<|sF h ?_ ?_<;>intro h
   ·refine mM Z<|mM Z<|bE h fun x12 h12 h=>WO.qk h12 Z Z Z Z Z Z Z Z<|bE h fun x13 h13 h=>WO.qj h13 Z Z Z Z Z Z<|mM Z<|sV (rI (rW (s5-(1:Int))))<|bE h fun x15 h15 h=>WO.qk h15 Z Z Z Z Z Z Z Z<|bE h fun x16 h16 h=>WO.qj h16 Z Z Z Z Z Z ?_
    refine bE h fun x17 h17 h=>cD (lF h17)<|sV (rB (decide (x17<(0:Int))))<|sF h ?_ ?_<;>intro h
    ·refine sN<|sO<|cT<|qK<|qS<|qB<|WC.pX Z Z<|mM Z<|mM Z<|sV (rI (rW (s5-(1:Int))))<|mM Z<|sV (rI (rW (s5-(1:Int))))<|bE h fun x20 h20 h=>?_
     refine WO.qk h20 Z Z Z Z Z Z Z Z<|bE h fun x21 h21 h=>WO.qj h21 Z Z Z Z Z Z<|mM Z<|bE h fun x23 h23 h=>WO.qk h23 Z Z Z Z Z Z Z Z<|bE h fun x24 h24 h=>WO.qj h24 Z Z Z Z Z Z<|bE h fun x26 h26 h=>WO.qk h26 Z Z Z Z Z Z Z Z<|bE h fun x27 h27 h=>WO.rA (g:=ae.pd) (sz:=9) (p:=ae.pd x21) h27 (by intro _;kernel_rfl) (by intro _;kernel_rfl) Z Z Z Z Z Z Z Z Z<|bE h fun x29 h29 h=>WO.qk h29 Z Z Z Z Z Z Z Z ?_
     refine bE h fun x30 h30 h=>WO.rA (g:=ae.pd) (sz:=9) (p:=ae.pd x24) h30 (by intro _;kernel_rfl) (by intro _;kernel_rfl) Z Z Z Z Z Z Z Z Z ?_
     refine sN<|sO<|WC.region Z Z<|sM Z<|sV (rI (rW (s5-(1:Int))))<|sA Z<|sN ?_
     cases oI h
     exact⟨rfl,rfl⟩
    refine sN<|sO<|cF<|qX ?_
    cases oI h
    exact⟨nofun,rfl,rfl⟩
   refine sM Z<|k3<|k3<|k3<|k3<|sU ?_
   refine sN<|sO<|cF<|qX ?_
   cases oI h
   exact⟨nofun,rfl,rfl⟩
  intro e R' B' he hq
  obtain⟨rfl,hI⟩:=hq
  refine qE<|WC.region hI Z<|sM Z<|sV (rI (rW (o32.1+(1:Int))))<|sA Z<|sN ?_
  cases oI h
  exact⟨rfl,rfl⟩
 refine sN<|cF<|qX<|sk h (fun z33 hkz33 hz=>?_)
 obtain rfl:=Option.some.inj hz
 refine⟨(fun he=>by cases he),fun hz2=>?_⟩
 subst hz2
 have h:=hkz33
 refine qE ?_
 exact oI h▸qD
theorem ju{a1:Int}{d0:(List ae)}{r:(List ae)}(h:dD a1 d0=some r):EvP prog aN ext 256 [.ref 0 0,rI a1,.d (.raw (.func (.func 174) #[] #[]))] [.arr 0 66 (d0.map ae.pd)] (.tup [],[.arr 0 66 (r.map ae.pd)]):=by
 refine Ev.body Z Tryz.func256 Z Zk<|gU Z<|sV (rI 20)<|sN<|gU Z<|sM Z<|sV (r0)<|sA Z<|sN<|qS<|bE h fun o10 ho10 h=>WC.block (WC.loop (WL.pI ho10 (fun s=>gI 1 256 2 [(0,.ref 0 0),(1,rI a1),(2,.d (.raw (.func (.func 174) #[] #[]))),(6,rI 20),(7,rI s.1),(8,rI s.2.1)] [(0,.arr 0 66 (s.2.2.map ae.pd))]) (fun o=>gX 0 1 256 6 [(0,.ref 0 0),(1,rI a1),(2,.d (.raw (.func (.func 174) #[] #[]))),(6,rI 20),(7,rI o.1)] [(0,.arr 0 66 (o.2.map ae.pd))]) Z ?_ ?_))
 ·rintro⟨s1,s2,s3⟩ R' B' q6 hI h
  refine qS<|gS Z hI<|mM Z<|sF h ?_ ?_<;>intro h
  ·refine sN<|cT<|qK<|qB<|gU Z<|mM Z<|mM Z<|bE h fun x8 h8 h=>cR (.tup []) [(0,.arr 0 66 (x8.map ae.pd))] (dw h8)<|sN<|gU Z<|sM Z<|sA Z ?_
   refine sN<|WC.region Z Z<|mM Z<|sV (rI (rW (s2+(20:Int))))<|sA Z<|sN ?_
   cases oI h
   exact⟨rfl,rfl⟩
  refine sN<|cF<|qX ?_
  cases oI h
  exact⟨nofun,rfl,rfl⟩
 intro e R' B' he hq
 obtain⟨rfl,hI⟩:=hq
 refine qE<|gS Z hI<|mM Z<|mM Z<|bE h fun x11 h11 h=>cR (.tup []) [(0,.arr 0 66 (x11.map ae.pd))] (dw h11)<|sN<|bE h fun o23 ho23 h=>?_
 cases oI h
 refine WC.block (WC.loop (WL.tI ho23 (fun s=>gI 1 256 7 [(0,.ref 0 0),(1,rI a1),(2,.d (.raw (.func (.func 174) #[] #[]))),(6,rI s)] [(0,.arr 0 66 (x11.map ae.pd))]) Z ?_))
 rintro s12 R' B' q13 hI h
 refine qS<|gS Z hI<|mM Z<|sF h ?_ ?_<;>intro h
 ·refine sN<|cT<|qK<|qB<|gU Z<|sM Z<|sV (rI (rW ((2:Int)*s12)))<|sV (r0)<|sA Z<|sN<|qS<|bE h fun o19 ho19 h=>WC.block (WC.loop (WL.pI ho19 (fun s=>gI 1 256 9 [(0,.ref 0 0),(1,rI a1),(2,.d (.raw (.func (.func 174) #[] #[]))),(6,rI s12),(7,r0),(8,rI (rW ((2:Int)*s12)))] [(0,.arr 0 66 (x11.map ae.pd))]) (fun o=>gX 4 1 256 13 [(0,.ref 0 0),(1,rI a1),(2,.d (.raw (.func (.func 174) #[] #[]))),(6,rI o),(7,r0)] [(0,.arr 0 66 (x11.map ae.pd))]) Z ?_ ?_))
  ·rintro⟨⟩ R' B' q16 hI h
   refine qS<|gS Z hI<|mM Z<|sF h ?_ ?_<;>intro h
   ·refine sN<|cT<|qK<|qB<|gU Z<|mM Z<|mM Z<|sV (rI (rW ((0:Int)+s12)))<|sM Z<|sM Z ?_
    cases h
   refine sN<|cF<|qX ?_
   cases oI h
   exact⟨nofun,rfl,rfl⟩
  intro e R' B' he hq
  obtain⟨rfl,hI⟩:=hq
  refine qE<|qS<|gS Z hI<|mM Z<|sV (rI (rW ((0:Int)+o19)))<|sA Z<|sN<|gU Z<|mM Z<|sF h ?_ ?_<;>intro h
  ·refine sN<|cT<|WC.region Z Z<|mM Z<|mM Z<|sM Z ?_
   cases h
  refine sN<|cF<|qK<|WC.region Z Z<|sM Z<|sV (rI (rW (o19*(2:Int))))<|sA Z<|sN ?_
  cases oI h
  exact⟨rfl,rfl⟩
 refine sN<|cF<|qX<|sk h (fun z21 hkz21 hz=>?_)
 obtain rfl:=Option.some.inj hz
 refine⟨(fun he=>by cases he),fun hz2=>?_⟩
 subst hz2
 have h:=hkz21
 refine qE ?_
 exact oI h▸qD
theorem ji{d0:(List ae)}{r:(List ae)}(h:cy d0=some r):EvP prog aN ext 173 [.ref 0 0,.d (.raw (.func (.func 174) #[] #[]))] [.arr 0 66 (d0.map ae.pd)] (.tup [],[.arr 0 66 (r.map ae.pd)]):=by
 refine Ev.body Z Tryz.func173 Z Zk<|WC.region Z Z<|mM Z<|WO.tn Z Z Z Z Z Z Z Z Z<|sM Z<|bE h fun x1 h1 h=>cR (.tup []) [(0,.arr 0 66 (x1.map ae.pd))] (ju h1)<|sN ?_
 exact oI h▸qD
theorem ny{a0:Int}{a1:(List ae)}{r:(List (List ae))}(h:fV a0 a1=some r):EvP prog aN ext 98 [rI a0,rM ae.pd a1] [] (.d (.lst (r.map (fun l=>PD.lst (l.map ae.pd)))),[]):=by
 refine Ev.body Z Tryz.func98 Z Zk<|gU Z<|sV .mA<|sN<|gU Z<|sM Z<|bE h fun x1 h1 h=>cR (.ref 192 0) [(192,.arr 0 66 (x1.map ae.pd))] (lO h1)<|sA Z<|sN<|gU Z<|sM Z<|bE h fun x2 h2 h=>cR (.tup []) [(192,.arr 0 66 (x2.map ae.pd))] (ji h2)<|sN ?_
 refine gU Z<|sV .mA<|sN<|qS<|gU Z<|sM Z<|WO.tn Z Z Z Z Z Z Z Z Z<|sV (r0)<|sN<|bE h fun o37 ho37 h=>WC.block (WC.loop (WL.pI ho37 (fun s=>gI 0 98 5 [(0,rI a0),(5,.ref 192 0),(6,.ref 624 0),(15,.ref 192 0),(16,rI (x2.length:Int)),(17,rI s.1)] [(192,.arr 0 66 (x2.map ae.pd)),(624,.nest 0 42 66 (s.2.map (List.map ae.pd)) none)]) (fun o=>gX 0 0 98 11 [(6,.ref 624 0)] [(624,.nest 0 42 66 (o.map (List.map ae.pd)) none)]) Z ?_ ?_))
 ·rintro⟨s3,s4⟩ R' B' q6 hI h
  refine gS Z hI<|sF h ?_ ?_<;>intro h
  ·refine sN<|qS<|cT<|qK<|qS<|qB<|gU Z<|sM Z<|bE h fun x9 h9 h=>WO.qk h9 Z Z Z Z Z Z Z Z<|bE h fun x10 h10 h=>WO.qj h10 Z Z Z Z Z Z<|sB (.ptr 128 0) 128 (.var zZ2)<|sA Z<|sH 128 (.var (ae.rc x10)) ?_
   refine sN<|qS<|WC.cI Z Z<|sM Z<|sF h ?_ ?_<;>intro h
   ·refine sM Z<|k3<|k3<|k3<|sK<|sK<|sT ?_
    refine sN<|sO<|cT<|WC.region (R0:=[(0,rI a0),(5,.ref 192 0),(6,.ref 624 0),(8,.ptr 128 0),(15,.ref 192 0),(16,rI (x2.length:Int)),(17,rI s3)]) (B0:=[(128,.var (ae.rc x10)),(192,.arr 0 66 (x2.map ae.pd)),(624,.nest 0 42 66 (s4.map (List.map ae.pd)) none)]) Z Z<|sM Z<|sV (.d (.lst [nil0]))<|bE h fun x12 h12 h=>WO.appNN h12 Z Z Z Z Z Z Z Z Z Z Z Z Z Z<|sA Z<|sN<|bE h fun x13 h13 h=>WC.pX (uP h13 Z Z Z) Z<|mM Z<|WO.lenN Z Z Z Z Z Z Z Z Z<|sV (rI (rW ((x12.length:Int)-(1:Int)))) ?_
    refine mM Z<|WO.lenN Z Z Z Z Z Z Z Z Z<|sV (rI (rW ((x12.length:Int)-(1:Int))))<|bE h fun x14 h14 h=>WO.eltN h14 Z Z Z Z Z Z Z Z<|bE h fun x15 h15 h=>WO.loadN h15 Z Z Z Z Z Z<|sV (.d (ae.pd x10))<|sG (.d (.lst ([x10].map ae.pd)))<|bE h fun x16 h16 h=>aR h16 (fun _=>Z) Z<|bE h fun x17 h17 h=>WO.eltN h17 Z Z Z Z Z Z Z Z<|bE h fun x18 h18 h=>?_
    refine WO.Bw h18 Z Z Z Z Z Z Z ?_
    refine sN<|sO<|WC.region Z Z<|sV (rI (rW (s3+(1:Int))))<|sM Z<|sN ?_
    cases oI h
    exact⟨rfl,(tU rfl rfl (by decide) rfl)⟩
   refine sM Z<|sV (.ptr 128 5)<|sL Z<|mM Z<|sV (rI (rW (s3-(1:Int))))<|bE h fun x20 h20 h=>WO.qk h20 Z Z Z Z Z Z Z Z<|sV (.elt 192 0 ((rW (s3-(1:Int)))).toNat 5)<|bE h fun x21 h21 h=>WO.qj h21 Z Z Z Z Z Z<|sV (rI (rW (x10.aM-x21.aM)))<|sM Z<|sV (rB (decide ((rW (x10.aM-x21.aM))>a0)))<|sF h ?_ ?_<;>intro h
   ·refine sN<|sO<|cT<|WC.region (R0:=[(0,rI a0),(5,.ref 192 0),(6,.ref 624 0),(8,.ptr 128 0),(15,.ref 192 0),(16,rI (x2.length:Int)),(17,rI s3)]) (B0:=[(128,.var (ae.rc x10)),(192,.arr 0 66 (x2.map ae.pd)),(624,.nest 0 42 66 (s4.map (List.map ae.pd)) none)]) Z Z<|sM Z<|sV (.d (.lst [nil0]))<|bE h fun x23 h23 h=>WO.appNN h23 Z Z Z Z Z Z Z Z Z Z Z Z Z Z<|sA Z<|sN<|bE h fun x24 h24 h=>WC.pX (uP h24 Z Z Z) Z<|mM Z<|WO.lenN Z Z Z Z Z Z Z Z Z<|sV (rI (rW ((x23.length:Int)-(1:Int)))) ?_
    refine mM Z<|WO.lenN Z Z Z Z Z Z Z Z Z<|sV (rI (rW ((x23.length:Int)-(1:Int))))<|bE h fun x25 h25 h=>WO.eltN h25 Z Z Z Z Z Z Z Z<|bE h fun x26 h26 h=>WO.loadN h26 Z Z Z Z Z Z<|sV (.d (ae.pd x10))<|sG (.d (.lst ([x10].map ae.pd)))<|bE h fun x27 h27 h=>aR h27 (fun _=>Z) Z<|bE h fun x28 h28 h=>WO.eltN h28 Z Z Z Z Z Z Z Z<|bE h fun x29 h29 h=>?_
    refine WO.Bw h29 Z Z Z Z Z Z Z ?_
    refine sN<|sO<|WC.region Z Z<|sV (rI (rW (s3+(1:Int))))<|sM Z<|sN ?_
    cases oI h
    exact⟨rfl,(tU rfl rfl (by decide) rfl)⟩
   refine sN<|sO<|cF<|qK<|bE h fun x30 h30 h=>WC.pX (uP h30 Z Z Z) Z<|mM Z<|WO.lenN Z Z Z Z Z Z Z Z Z<|sV (rI (rW ((s4.length:Int)-(1:Int))))<|mM Z<|WO.lenN Z Z Z Z Z Z Z Z Z<|sV (rI (rW ((s4.length:Int)-(1:Int))))<|bE h fun x31 h31 h=>WO.eltN h31 Z Z Z Z Z Z Z Z ?_
   refine bE h fun x32 h32 h=>WO.loadN h32 Z Z Z Z Z Z<|sV (.d (ae.pd x10))<|sG (.d (.lst ([x10].map ae.pd)))<|bE h fun x33 h33 h=>aR h33 (fun _=>Z) Z<|bE h fun x34 h34 h=>WO.eltN h34 Z Z Z Z Z Z Z Z<|bE h fun x35 h35 h=>WO.Bw h35 Z Z Z Z Z Z Z ?_
   refine sN<|sO<|WC.region Z Z<|sV (rI (rW (s3+(1:Int))))<|sM Z<|sN ?_
   cases oI h
   exact⟨rfl,(tU rfl rfl (by decide) rfl)⟩
  refine sN<|qS<|cF<|qX ?_
  cases oI h
  exact⟨nofun,rfl,rfl⟩
 intro e R' B' he hq
 obtain⟨rfl,hI⟩:=hq
 refine qE<|qS<|gS Z hI<|sM Z<|WO.lenN Z Z Z Z Z Z Z Z Z<|sV (r0)<|sN<|bE h fun o48 ho48 h=>WC.block (WC.loop (WL.pI ho48 (fun s=>gI 0 98 12 [(6,.ref 624 0),(55,.ref 624 0),(56,rI (o37.length:Int)),(57,rI s.1)] [(624,.nest 0 42 66 (s.2.map (List.map ae.pd)) none)]) (fun o=>gX 2 0 98 16 [(6,.d (.lst (o.map (fun l=>PD.lst (l.map ae.pd)))))] []) Z ?_ ?_))
 ·rintro⟨s38,s39⟩ R' B' q41 hI h
  refine gS Z hI<|sF h ?_ ?_<;>intro h
  ·refine sN<|qS<|cT<|qK<|qS<|qB<|bE h fun x43 h43 h=>WC.p7 (zU h43 Z Z Z Z) Z<|bE h fun x44 h44 h=>WO.eltN h44 Z Z Z Z Z Z Z Z<|bE h fun x45 h45 h=>WO.loadN h45 Z Z Z Z Z Z<|sA Z<|sN<|WC.region Z Z ?_
   refine sM Z<|bE h fun x46 h46 h=>cR (.tup []) [(960,.arr 0 66 (x46.map ae.pd))] (sort_79_80 h46)<|sN<|WC.region Z Z<|sV (rI (rW (s38+(1:Int))))<|sM Z<|sN ?_
   cases oI h
   exact⟨rfl,(tU rfl rfl (by decide) rfl)⟩
  refine sN<|qS<|cF<|qX ?_
  cases oI h
  exact⟨nofun,rfl,(tl rfl (AG rfl rfl rfl))⟩
 intro e R' B' he hq
 obtain⟨rfl,hI⟩:=hq
 refine qE<|gS Z hI<|sM Z<|sA Z<|sN<|qR ?_
 exact oI h▸qD
theorem nv{a0:Int}{a1:(List ae)}{r:(List (List ae))×Int}(h:fT a0 a1=some r):EvP prog aN ext 45 [rI a0,rM ae.pd a1] [] (.tup [.d (.lst (r.1.map (fun l=>PD.lst (l.map ae.pd)))),rI r.2],[]):=by
 refine Ev.body Z Tryz.func45 Z Zk<|gU Z<|sV .mA<|sV (r0)<|sN<|qS<|qB<|gU Z<|sM Z<|sF h ?_ ?_<;>intro h
 ·refine sM Z<|sK<|sK<|sT<|sA Z<|sN<|cT<|gU Z<|sV .mA<|sV (rI 2)<|sN<|qR ?_
  exact oI h▸qD
 refine mM Z<|sV (rB (decide (a0>(1099511627776:Int))))<|sF h ?_ ?_<;>intro h
 ·refine sA Z<|sN<|cT<|gU Z<|sV .mA<|sV (rI 2)<|sN<|qR ?_
  exact oI h▸qD
 refine sA Z<|sN<|cF<|gU Z<|sM Z<|bE h fun x3 h3 h=>cD (oj h3)<|sF h ?_ ?_<;>intro h
 ·refine sA Z<|sN<|cT<|gU Z<|sV .mA<|sV (rI 1)<|sN<|qR ?_
  exact oI h▸qD
 refine sA Z<|sN<|cF<|qK<|gU Z<|mM Z<|bE h fun x5 h5 h=>cD (ny h5)<|sA Z<|sV (r0)<|sN<|qR ?_
 exact oI h▸qD
theorem oT{a0:Int}{a1:Int}{a2:Int}{r:Bool}(h:rate_in a0 a1 a2=some r):EvP prog aN ext 349 [rI a0,rI a1,rI a2] [] (rB r,[]):=by
 refine Ev.body Z Tryz.func349 Z Zk<|gU Z<|sU<|sN<|gU Z<|mM Z<|sF h ?_ ?_<;>intro h
 ·refine mM Z<|sM Z<|sV (rB (decide (a0<=a2)))<|sV (rB (decide (a0<=a2)))<|sA Z<|sN<|qR ?_
  exact oI h▸qD
 refine sM Z<|k3<|sU<|sA Z<|sN<|qR ?_
 exact oI h▸qD
theorem rate_gcd_ev{a0:Int}{a1:Int}{r:Int}(h:rate_gcd a0 a1=some r):EvP prog aN ext 350 [rI a0,rI a1] [] (rI r,[]):=by
 refine Ev.body Z Tryz.func350 Z Zk<|gU Z<|sV (r0)<|sN<|qS<|bE h fun o8 ho8 h=>WC.block (WC.loop (WL.pI ho8 (fun s=>gI 0 350 1 [(0,rI s.1),(1,rI s.2)] []) (fun o=>gX 0 0 350 3 [(0,rI o)] []) Z ?_ ?_))
 ·rintro⟨s1,s2⟩ R' B' q4 hI h
  refine qS<|gS Z hI<|sM Z<|sF h ?_ ?_<;>intro h
  ·refine sN<|cT<|qK<|qB<|WC.pX Z Z<|mM Z<|sM Z<|bE h fun x6 h6 h=>WO.remG h6 Z Z Z Z Z Z<|sA Z<|sA Z ?_
   refine sN<|sO ?_
   cases oI h
   exact⟨rfl,rfl⟩
  refine sN<|cF<|qX ?_
  cases oI h
  exact⟨nofun,rfl,rfl⟩
 intro e R' B' he hq
 obtain⟨rfl,hI⟩:=hq
 refine qE<|gS Z hI<|sM Z<|sA Z<|sN<|qR ?_
 exact oI h▸qD
theorem rate_Valid_ev{a0:bJ}{r:Bool}(h:m9 a0=some r):EvP prog aN ext 308 [.d (bJ.pd a0)] [] (rB r,[]):=by
 refine Ev.body Z Tryz.func308 Z Zk<|gU Z<|sB (.ptr 16 0) 16 (.var [rI a0.bK,rI a0.bC])<|sU<|sN<|gU Z<|sV (.ptr 16 0)<|sL Z<|bE h fun x1 h1 h=>qe h (fun hb2 h=>?_) (fun hb2 h=>?_)
 ·refine WO.qH (v:=rB true) (u:=[]) Z Z (fun _=>Z) Z Z Z Z Z (oT h1) Z Z (congrArg (fun b=>RV.d (.bool b)) hb2) Z<|sM Z<|sV (.ptr 16 1)<|sL Z<|bE h fun x3 h3 h=>cD (oT h3)<|sF h ?_ ?_<;>intro h
  ·refine sM Z<|sV (.ptr 16 0)<|sL Z<|sV (.ptr 16 1)<|sL Z<|bE h fun x5 h5 h=>cD (rate_gcd_ev h5)<|sV (rB (x5==(1:Int)))<|sV (rB (x5==(1:Int)))<|sA Z<|sN<|qR ?_
   exact oI h▸qD
  refine sM Z<|k3<|k3<|sU<|sA Z<|sN<|qR ?_
  exact oI h▸qD
 refine WO.qH (v:=rB false) (u:=[]) Z Z (fun _=>Z) Z Z Z Z Z (oT h1) Z Z (congrArg (fun b=>RV.d (.bool b)) hb2) Z<|sM Z<|k3<|sU<|sM Z<|k3<|k3<|sU<|sA Z ?_
 refine sN<|qR ?_
 exact oI h▸qD
theorem ca{a0:Int}{a1:Int}{a2:Int}{r:Bool}(h:bZ a0 a1 a2=some r):EvP prog aN ext 335 [rI a0,rI a1,rI a2] [] (rB r,[]):=by
 refine Ev.body Z Tryz.func335 Z Zk<|gU Z<|sU<|sN<|gU Z<|mM Z<|sF h ?_ ?_<;>intro h
 ·refine mM Z<|sM Z<|sV (rB (decide (a0<=a2)))<|sV (rB (decide (a0<=a2)))<|sA Z<|sN<|qR ?_
  exact oI h▸qD
 refine sM Z<|k3<|sU<|sA Z<|sN<|qR ?_
 exact oI h▸qD
theorem jL{a0:Int}{r:Bool}(h:iE a0=some r):EvP prog aN ext 413 [rI a0] [] (rB r,[]):=by
 refine Ev.body Z Tryz.func413 Z Zk<|gU Z<|sU<|sN<|gU Z<|sM Z<|bE h fun x1 h1 h=>cD (ca h1)<|sV (rB (!x1))<|sA Z<|sN<|qR ?_
 exact oI h▸qD
theorem kU{a0:(List Int)}{r:Int}(h:eO a0=some r):EvP prog aN ext 421 [rL a0,.d (.raw (.func (.func 413) #[] #[]))] [] (rI r,[]):=by
 refine Ev.body Z Tryz.func421 Z Zk<|gU Z<|sV (r0)<|sN<|qS<|gU Z<|sM Z<|sE (rI (a0.length:Int)) (pf _ _)<|sV (r0)<|sN<|bE h fun o8 ho8 h=>WC.block (WC.loop (WL.pI ho8 (fun s=>gI 0 421 2 [(0,rL a0),(1,.d (.raw (.func (.func 413) #[] #[]))),(7,rI (a0.length:Int)),(8,rI s)] []) (fun o=>match o with| .inl y=>gX 0 0 421 7 [] []| .inr r=>gF 421 Tryz.f421 0 (rI r,[])) Z ?_ ?_))
 ·rintro s1 R' B' q2 hI h
  refine gS Z hI<|sF h ?_ ?_<;>intro h
  ·refine sN<|qS<|cT<|qK<|qS<|qB<|gU Z<|sM Z<|sA Z<|sN<|gU Z<|mM Z<|sM Z<|bE h fun x4 h4 h=>?_
   refine eG h4 Z<|sC Z<|bE h fun x5 h5 h=>qe h (fun hb6 h=>?_) (fun hb6 h=>?_)
   ·refine WO.qH (v:=rB true) (u:=[]) Z Z (fun _=>Z) Z Z Z Z Z (jL h5) Z Z (congrArg (fun b=>RV.d (.bool b)) hb6) Z<|sN<|cT<|gU Z<|sM Z<|sA Z<|sN<|qR ?_
    cases oI h
    exact⟨nofun,rfl,rfl⟩
   refine WO.qH (v:=rB false) (u:=[]) Z Z (fun _=>Z) Z Z Z Z Z (jL h5) Z Z (congrArg (fun b=>RV.d (.bool b)) hb6) Z<|sN<|cF<|qK<|WC.region Z Z<|sV (rI (rW (s1+(1:Int))))<|sM Z<|sN ?_
   cases oI h
   exact⟨rfl,rfl⟩
  refine sN<|qS<|cF<|qX ?_
  cases oI h
  exact⟨nofun,rfl,rfl⟩
 intro e R' B' he hq
 rcases o8 with y9|r10
 ·obtain⟨rfl,hI⟩:=hq
  refine qE<|gS Z hI<|sV (rI (-1))<|sN<|qR ?_
  exact oI h▸qD
 obtain⟨rfl,hf⟩:=hq
 cases oI h
 exact hf
theorem jS{a0:(List Int)}{r:Bool}(h:dZ a0=some r):EvP prog aN ext 412 [rL a0,.d (.raw (.func (.func 413) #[] #[]))] [] (rB r,[]):=by
 refine Ev.body Z Tryz.func412 Z Zk<|gU Z<|sU<|sN<|gU Z<|mM Z<|bE h fun x1 h1 h=>cD (kU h1)<|sV (rB (decide (x1>=(0:Int))))<|sA Z<|sN<|qR ?_
 exact oI h▸qD
theorem fc{a0:(List Int)}{r:Bool}(h:cG a0=some r):EvP prog aN ext 394 [rL a0] [] (rB r,[]):=by
 refine Ev.body Z Tryz.func394 Z Zk<|gU Z<|sU<|sN<|gU Z<|sM Z<|bE h fun x1 h1 h=>cD (jS h1)<|sV (rB (!x1))<|sA Z<|sN<|qR ?_
 exact oI h▸qD
theorem iX{a0:(List Int)}{r:Int}(h:ef a0=some r):EvP prog aN ext 383 [rL a0] [] (rI r,[]):=by
 refine Ev.body Z Tryz.func383 Z Zk<|gU Z<|sV (r0)<|sN<|gU Z<|sV (r0)<|sN<|qS<|gU Z<|sM Z<|sE (rI (a0.length:Int)) (pf _ _)<|sV (r0)<|sN<|bE h fun o8 ho8 h=>WC.block (WC.loop (WL.pI ho8 (fun s=>gI 0 383 3 [(3,rI s.1),(6,rL a0),(7,rI (a0.length:Int)),(8,rI s.2)] []) (fun o=>gX 0 0 383 7 [(3,rI o)] []) Z ?_ ?_))
 ·rintro⟨s1,s2⟩ R' B' q4 hI h
  refine gS Z hI<|sF h ?_ ?_<;>intro h
  ·refine sN<|qS<|cT<|qK<|qS<|qB<|gU Z<|bE h fun x6 h6 h=>eG h6 Z<|sC Z<|sA Z<|sN<|WC.region Z Z<|sM Z<|sM Z ?_
   refine sV (rI (rW (s1+x6)))<|sA Z<|sN<|WC.region Z Z<|sV (rI (rW (s2+(1:Int))))<|sM Z<|sN ?_
   cases oI h
   exact⟨rfl,rfl⟩
  refine sN<|qS<|cF<|qX ?_
  cases oI h
  exact⟨nofun,rfl,rfl⟩
 intro e R' B' he hq
 obtain⟨rfl,hI⟩:=hq
 refine qE<|gS Z hI<|sM Z<|sA Z<|sN<|qR ?_
 exact oI h▸qD
theorem ng{a0:aB}{r:Bool}(h:dt a0=some r):EvP prog aN ext 353 [.d (aB.pd a0)] [] (rB r,[]):=by
 refine Ev.body Z Tryz.func353 Z Zk<|gU Z<|sB (.ptr 16 0) 16 (.var (aB.rc a0))<|sU<|sN<|gU Z<|sV (.ptr 16 7)<|sL Z<|sE (rI (a0.eC.length:Int)) (pf _ _)<|sF h ?_ ?_<;>intro h
 ·refine sM Z<|sV (.ptr 16 8)<|sL Z<|sV (rB (a0.dl==(0:Int)))<|sF h ?_ ?_<;>intro h
  ·refine sM Z<|sV (.ptr 16 9)<|sL Z<|sV (rB (a0.dm==(0:Int)))<|sV (rB (a0.dm==(0:Int)))<|sA Z<|sN<|qS<|gU Z<|sV (.ptr 16 0)<|sL Z<|sN<|qB<|gU Z<|sF h ?_ ?_<;>intro h
   ·refine sA Z<|sN<|cT<|gU Z<|sF h ?_ ?_<;>intro h
    ·refine sM Z<|sV (.ptr 16 1)<|sV (.d (aT.pd a0.bK))<|sV (.ptr 16 1)<|sV (.ptr 16 1)<|sL Z<|sV (.d (aT.pd (aT.mk a0.bK.a0 0 0)))<|WO.bin (io a0.bK (aT.mk a0.bK.a0 0 0)) Z Z Z Z Z<|sF h ?_ ?_<;>intro h
     ·refine sM Z<|sV (.ptr 16 4)<|sV (.d (aT.pd a0.bC))<|sV (.ptr 16 4)<|sV (.ptr 16 4)<|sL Z<|sV (.d (aT.pd (aT.mk a0.bC.a0 0 0)))<|WO.bin (io a0.bC (aT.mk a0.bC.a0 0 0)) Z Z Z Z Z<|sF h ?_ ?_<;>intro h
      ·refine sM Z<|sV (.ptr 16 1)<|sV (.ptr 16 1)<|sL Z<|bE h fun x7 h7 h=>cD (ca h7)<|sF h ?_ ?_<;>intro h
       ·refine sM Z<|sV (.ptr 16 4)<|sV (.ptr 16 4)<|sL Z<|bE h fun x9 h9 h=>cD (ca h9)<|sV (rB x9)<|sA Z<|sN<|qR ?_
        cases oI h
        exact qG
       refine sM Z<|k3<|sK<|sU<|sA Z<|sN<|qR ?_
       cases oI h
       exact qG
      refine sM Z<|k3<|sK<|sU<|sM Z<|k3<|sK<|sU<|sA Z<|sN<|qR ?_
      cases oI h
      exact qG
     refine sM Z<|k3<|k3<|sK<|sU<|sM Z<|k3<|sK<|sU ?_
     refine sM Z<|k3<|sK<|sU<|sA Z<|sN<|qR ?_
     cases oI h
     exact qG
    refine sM Z<|k3<|k3<|sK<|sU<|sM Z<|k3<|sK<|sK ?_
    refine sK<|sK<|sU<|sM Z<|k3<|sK<|sU<|sM Z<|k3<|sK<|sU ?_
    refine sA Z<|sN<|qR ?_
    cases oI h
    exact qG
   refine sA Z<|sN<|cF<|gU Z<|sF h ?_ ?_<;>intro h
   ·refine sA Z<|sN<|cT<|WC.p7 (R0:=[(1,.cptr [.int .i64 a0.iL,.int .i64 a0.bK.a0,.int .i64 a0.bK.a1,.int .i64 a0.bK.a2,.int .i64 a0.bC.a0,.int .i64 a0.bC.a1,.int .i64 a0.bC.a2,.lst (a0.eC.map (PD.int .i64)),.int .i64 a0.dl,.int .i64 a0.dm]),(3,rB (a0.dm==(0:Int)))]) (B0:=[]) Z Z<|sF h ?_ ?_<;>intro h
    ·refine sM Z<|sV (.cptr [.int .i64 a0.bK.a0,.int .i64 a0.bK.a1,.int .i64 a0.bK.a2,.int .i64 a0.bC.a0,.int .i64 a0.bC.a1,.int .i64 a0.bC.a2,.lst (a0.eC.map (PD.int .i64)),.int .i64 a0.dl,.int .i64 a0.dm])<|sV (.d (.lst ([a0.bK.a0,a0.bK.a1,a0.bK.a2].map (PD.int .i64))))<|bE h fun x12 h12 h=>cD (fc h12)<|sF h ?_ ?_<;>intro h
     ·refine sM Z<|sV (.cptr [.int .i64 a0.bC.a0,.int .i64 a0.bC.a1,.int .i64 a0.bC.a2,.lst (a0.eC.map (PD.int .i64)),.int .i64 a0.dl,.int .i64 a0.dm])<|sV (.d (.lst ([a0.bC.a0,a0.bC.a1,a0.bC.a2].map (PD.int .i64))))<|bE h fun x14 h14 h=>cD (fc h14)<|sF h ?_ ?_<;>intro h
      ·refine sM Z<|sV (.cptr [.int .i64 a0.bC.a0,.int .i64 a0.bC.a1,.int .i64 a0.bC.a2,.lst (a0.eC.map (PD.int .i64)),.int .i64 a0.dl,.int .i64 a0.dm])<|sV (.cptr [.int .i64 a0.bC.a0,.int .i64 a0.bC.a1,.int .i64 a0.bC.a2,.lst (a0.eC.map (PD.int .i64)),.int .i64 a0.dl,.int .i64 a0.dm])<|sC Z<|sV (rB (a0.bC.a0 != (0:Int)))<|sV (rB (a0.bC.a0 != (0:Int)))<|sA Z<|sN<|qR ?_
       exact oI h▸qD
      refine sM Z<|k3<|sK<|sU<|sA Z<|sN<|qR ?_
      exact oI h▸qD
     refine sM Z<|k3<|sU<|sM Z<|k3<|sK<|sU<|sA Z<|sN<|qR ?_
     exact oI h▸qD
    refine sM Z<|k3<|sU<|sM Z<|k3<|sU<|sM Z<|k3<|sK ?_
    refine sU<|sA Z<|sN<|qR ?_
    exact oI h▸qD
   refine sA Z<|sN<|cF<|gU Z<|sF h ?_ ?_<;>intro h
   ·refine sA Z<|sN<|cT<|gU Z<|sV (.ptr 16 1)<|sV (.d (aT.pd a0.bK))<|sV (.d (aT.pd (aT.mk 0 0 0)))<|qe h (fun hb17 h=>?_) (fun hb17 h=>?_)
    ·refine WO.uw (io a0.bK (aT.mk 0 0 0)) hb17 Z Z Z Z Z<|sM Z<|sV (.ptr 16 4)<|sV (.d (aT.pd a0.bC))<|sV (.d (aT.pd (aT.mk 0 0 0)))<|WO.bin (io a0.bC (aT.mk 0 0 0)) Z Z Z Z Z<|sF h ?_ ?_<;>intro h
     ·refine sM Z<|sV (.ptr 16 7)<|sL Z<|sE (rI (a0.eC.length:Int)) (pf _ _)<|bE h fun x19 h19 h=>cD (ca h19)<|sF h ?_ ?_<;>intro h
      ·refine sM Z<|sV (.ptr 16 7)<|sL Z<|bE h fun x21 h21 h=>cD (fc h21)<|sF h ?_ ?_<;>intro h
       ·refine sM Z<|sV (.ptr 16 7)<|sL Z<|bE h fun x23 h23 h=>cD (iX h23)<|sV (rB (x23 != (0:Int)))<|sF h ?_ ?_<;>intro h
        ·refine sM Z<|sV (.ptr 16 8)<|sL Z<|bE h fun x25 h25 h=>cD (ca h25)<|sF h ?_ ?_<;>intro h
         ·refine sM Z<|sV (.ptr 16 9)<|sL Z<|bE h fun x27 h27 h=>cD (ca h27)<|sV (rB x27)<|sA Z<|sN<|qR ?_
          cases oI h
          exact qG
         refine sM Z<|k3<|sU<|sA Z<|sN<|qR ?_
         cases oI h
         exact qG
        refine sM Z<|k3<|sU<|sM Z<|k3<|sU<|sA Z<|sN<|qR ?_
        cases oI h
        exact qG
       refine sM Z<|k3<|sK<|sU<|sM Z<|k3<|sU<|sM Z<|sK<|sK<|sK ?_
       refine sU<|sA Z<|sN<|qR ?_
       cases oI h
       exact qG
      refine sM Z<|k3<|sU<|sM Z<|k3<|sK<|sU<|sM Z<|sK<|sK<|sK ?_
      refine sU<|sM Z<|k3<|sU<|sA Z<|sN<|qR ?_
      cases oI h
      exact qG
     refine sM Z<|k3<|sK<|sU<|sM Z<|k3<|sU<|sM Z<|sK<|sK<|sK ?_
     refine sK<|sU<|sM Z<|k3<|sU<|sM Z<|k3<|sU<|sA Z<|sN<|qR ?_
     cases oI h
     exact qG
    refine WO.uw (io a0.bK (aT.mk 0 0 0)) hb17 Z Z Z Z Z<|sM Z<|k3<|sK<|sU<|sM Z<|k3<|sK<|sU<|sM Z<|sK ?_
    refine sK<|sK<|sU<|sM Z<|k3<|sK<|sU<|sM Z<|k3<|sU<|sM Z ?_
    refine k3<|sU<|sA Z<|sN<|qR ?_
    cases oI h
    exact qG
   refine sA Z<|sN<|cF<|qK<|gU Z<|sU<|sN<|qR ?_
   cases oI h
   exact qG
  refine sM Z<|k3<|sU<|sA Z<|sN<|qS<|gU Z<|sV (.ptr 16 0)<|sL Z<|sN<|qB<|gU Z<|sF h ?_ ?_<;>intro h
  ·refine sA Z<|sN<|cT<|gU Z<|mM Z<|k3<|k3<|sK<|sU<|sM Z ?_
   refine k3<|k3<|sK<|sU<|sM Z<|k3<|sK<|sU<|sM Z ?_
   refine k3<|sK<|sU<|sA Z<|sN<|qR ?_
   cases oI h
   exact qG
  refine sA Z<|sN<|cF<|gU Z<|sF h ?_ ?_<;>intro h
  ·refine sA Z<|sN<|cT<|WC.p7 (R0:=[(1,.cptr [.int .i64 a0.iL,.int .i64 a0.bK.a0,.int .i64 a0.bK.a1,.int .i64 a0.bK.a2,.int .i64 a0.bC.a0,.int .i64 a0.bC.a1,.int .i64 a0.bC.a2,.lst (a0.eC.map (PD.int .i64)),.int .i64 a0.dl,.int .i64 a0.dm]),(3,rB false)]) (B0:=[]) Z Z<|mM Z<|k3<|sU<|sM Z<|k3<|sU ?_
   refine sM Z<|k3<|sK<|sU<|sA Z<|sN<|qR ?_
   exact oI h▸qD
  refine sA Z<|sN<|cF<|gU Z<|sF h ?_ ?_<;>intro h
  ·refine sA Z<|sN<|cT<|gU Z<|sV (.ptr 16 1)<|sV (.d (aT.pd a0.bK))<|sV (.d (aT.pd (aT.mk 0 0 0)))<|qe h (fun hb31 h=>?_) (fun hb31 h=>?_)
   ·refine WO.uw (io a0.bK (aT.mk 0 0 0)) hb31 Z Z Z Z Z<|sM Z<|sV (.ptr 16 4)<|sV (.d (aT.pd a0.bC))<|sV (.d (aT.pd (aT.mk 0 0 0)))<|WO.bin (io a0.bC (aT.mk 0 0 0)) Z Z Z Z Z<|sF h ?_ ?_<;>intro h
    ·refine sM Z<|sV (.ptr 16 7)<|sL Z<|sE (rI (a0.eC.length:Int)) (pf _ _)<|bE h fun x33 h33 h=>cD (ca h33)<|sF h ?_ ?_<;>intro h
     ·refine sM Z<|sV (.ptr 16 7)<|sL Z<|bE h fun x35 h35 h=>cD (fc h35)<|sF h ?_ ?_<;>intro h
      ·refine sM Z<|sV (.ptr 16 7)<|sL Z<|bE h fun x37 h37 h=>cD (iX h37)<|sV (rB (x37 != (0:Int)))<|sF h ?_ ?_<;>intro h
       ·refine sM Z<|sV (.ptr 16 8)<|sL Z<|bE h fun x39 h39 h=>cD (ca h39)<|sF h ?_ ?_<;>intro h
        ·refine sM Z<|sV (.ptr 16 9)<|sL Z<|bE h fun x41 h41 h=>cD (ca h41)<|sV (rB x41)<|sA Z<|sN<|qR ?_
         cases oI h
         exact qG
        refine sM Z<|k3<|sU<|sA Z<|sN<|qR ?_
        cases oI h
        exact qG
       refine sM Z<|k3<|sU<|sM Z<|k3<|sU<|sA Z<|sN<|qR ?_
       cases oI h
       exact qG
      refine sM Z<|k3<|sK<|sU<|sM Z<|k3<|sU<|sM Z<|sK<|sK<|sK ?_
      refine sU<|sA Z<|sN<|qR ?_
      cases oI h
      exact qG
     refine sM Z<|k3<|sU<|sM Z<|k3<|sK<|sU<|sM Z<|sK<|sK<|sK ?_
     refine sU<|sM Z<|k3<|sU<|sA Z<|sN<|qR ?_
     cases oI h
     exact qG
    refine sM Z<|k3<|sK<|sU<|sM Z<|k3<|sU<|sM Z<|sK<|sK<|sK ?_
    refine sK<|sU<|sM Z<|k3<|sU<|sM Z<|k3<|sU<|sA Z<|sN<|qR ?_
    cases oI h
    exact qG
   refine WO.uw (io a0.bK (aT.mk 0 0 0)) hb31 Z Z Z Z Z<|sM Z<|k3<|sK<|sU<|sM Z<|k3<|sK<|sU<|sM Z<|sK ?_
   refine sK<|sK<|sU<|sM Z<|k3<|sK<|sU<|sM Z<|k3<|sU<|sM Z ?_
   refine k3<|sU<|sA Z<|sN<|qR ?_
   cases oI h
   exact qG
  refine sA Z<|sN<|cF<|qK<|gU Z<|sU<|sN<|qR ?_
  cases oI h
  exact qG
 refine sM Z<|k3<|sU<|sM Z<|k3<|sU<|sA Z<|sN<|qS<|gU Z<|sV (.ptr 16 0) ?_
 refine sL Z<|sN<|qB<|gU Z<|sF h ?_ ?_<;>intro h
 ·refine sA Z<|sN<|cT<|gU Z<|mM Z<|k3<|k3<|sK<|sU<|sM Z ?_
  refine k3<|k3<|sK<|sU<|sM Z<|k3<|sK<|sU<|sM Z ?_
  refine k3<|sK<|sU<|sA Z<|sN<|qR ?_
  cases oI h
  exact qG
 refine sA Z<|sN<|cF<|gU Z<|sF h ?_ ?_<;>intro h
 ·refine sA Z<|sN<|cT<|WC.p7 (R0:=[(1,.cptr [.int .i64 a0.iL,.int .i64 a0.bK.a0,.int .i64 a0.bK.a1,.int .i64 a0.bK.a2,.int .i64 a0.bC.a0,.int .i64 a0.bC.a1,.int .i64 a0.bC.a2,.lst (a0.eC.map (PD.int .i64)),.int .i64 a0.dl,.int .i64 a0.dm]),(3,rB false)]) (B0:=[]) Z Z<|mM Z<|k3<|sU<|sM Z<|k3<|sU ?_
  refine sM Z<|k3<|sK<|sU<|sA Z<|sN<|qR ?_
  exact oI h▸qD
 refine sA Z<|sN<|cF<|gU Z<|sF h ?_ ?_<;>intro h
 ·refine sA Z<|sN<|cT<|gU Z<|sV (.ptr 16 1)<|sV (.d (aT.pd a0.bK))<|sV (.d (aT.pd (aT.mk 0 0 0)))<|qe h (fun hb45 h=>?_) (fun hb45 h=>?_)
  ·refine WO.uw (io a0.bK (aT.mk 0 0 0)) hb45 Z Z Z Z Z<|sM Z<|sV (.ptr 16 4)<|sV (.d (aT.pd a0.bC))<|sV (.d (aT.pd (aT.mk 0 0 0)))<|WO.bin (io a0.bC (aT.mk 0 0 0)) Z Z Z Z Z<|sF h ?_ ?_<;>intro h
   ·refine sM Z<|sV (.ptr 16 7)<|sL Z<|sE (rI (a0.eC.length:Int)) (pf _ _)<|bE h fun x47 h47 h=>cD (ca h47)<|sF h ?_ ?_<;>intro h
    ·refine sM Z<|sV (.ptr 16 7)<|sL Z<|bE h fun x49 h49 h=>cD (fc h49)<|sF h ?_ ?_<;>intro h
     ·refine sM Z<|sV (.ptr 16 7)<|sL Z<|bE h fun x51 h51 h=>cD (iX h51)<|sV (rB (x51 != (0:Int)))<|sF h ?_ ?_<;>intro h
      ·refine sM Z<|sV (.ptr 16 8)<|sL Z<|bE h fun x53 h53 h=>cD (ca h53)<|sF h ?_ ?_<;>intro h
       ·refine sM Z<|sV (.ptr 16 9)<|sL Z<|bE h fun x55 h55 h=>cD (ca h55)<|sV (rB x55)<|sA Z<|sN<|qR ?_
        cases oI h
        exact qG
       refine sM Z<|k3<|sU<|sA Z<|sN<|qR ?_
       cases oI h
       exact qG
      refine sM Z<|k3<|sU<|sM Z<|k3<|sU<|sA Z<|sN<|qR ?_
      cases oI h
      exact qG
     refine sM Z<|k3<|sK<|sU<|sM Z<|k3<|sU<|sM Z<|sK<|sK<|sK ?_
     refine sU<|sA Z<|sN<|qR ?_
     cases oI h
     exact qG
    refine sM Z<|k3<|sU<|sM Z<|k3<|sK<|sU<|sM Z<|sK<|sK<|sK ?_
    refine sU<|sM Z<|k3<|sU<|sA Z<|sN<|qR ?_
    cases oI h
    exact qG
   refine sM Z<|k3<|sK<|sU<|sM Z<|k3<|sU<|sM Z<|sK<|sK<|sK ?_
   refine sK<|sU<|sM Z<|k3<|sU<|sM Z<|k3<|sU<|sA Z<|sN<|qR ?_
   cases oI h
   exact qG
  refine WO.uw (io a0.bK (aT.mk 0 0 0)) hb45 Z Z Z Z Z<|sM Z<|k3<|sK<|sU<|sM Z<|k3<|sK<|sU<|sM Z<|sK ?_
  refine sK<|sK<|sU<|sM Z<|k3<|sK<|sU<|sM Z<|k3<|sU<|sM Z ?_
  refine k3<|sU<|sA Z<|sN<|qR ?_
  cases oI h
  exact qG
 refine sA Z<|sN<|cF<|qK<|gU Z<|sU<|sN<|qR ?_
 cases oI h
 exact qG
theorem jK{a0:aB}{r:Bool}(h:iD a0=some r):EvP prog aN ext 352 [.d (aB.pd a0)] [] (rB r,[]):=by
 refine Ev.body Z Tryz.func352 Z Zk<|gU Z<|sB (.ptr 16 0) 16 (.var (aB.rc a0))<|sU<|sN<|gU Z<|sV (.d (aB.pd a0))<|bE h fun x1 h1 h=>cD (ng h1)<|sV (rB (!x1))<|sA Z<|sN<|qR ?_
 cases oI h
 exact qG
theorem ko{a0:(List aB)}{r:Int}(h:ei a0=some r):EvP prog aN ext 393 [rM aB.pd a0,.d (.raw (.func (.func 352) #[] #[]))] [] (rI r,[]):=by
 refine Ev.body Z Tryz.func393 Z Zk<|gU Z<|sV (r0)<|sN<|qS<|gU Z<|sM Z<|sE (rI (a0.length:Int)) (pf _ _)<|sV (r0)<|sN<|bE h fun o8 ho8 h=>WC.block (WC.loop (WL.pI ho8 (fun s=>gI 0 393 2 [(0,rM aB.pd a0),(1,.d (.raw (.func (.func 352) #[] #[]))),(7,rI (a0.length:Int)),(8,rI s)] []) (fun o=>match o with| .inl y=>gX 0 0 393 7 [] []| .inr r=>gF 393 Tryz.f393 0 (rI r,[])) Z ?_ ?_))
 ·rintro s1 R' B' q2 hI h
  refine gS Z hI<|sF h ?_ ?_<;>intro h
  ·refine sN<|qS<|cT<|qK<|qS<|qB<|gU Z<|sM Z<|sA Z<|sN<|gU Z<|mM Z<|sM Z<|bE h fun x4 h4 h=>?_
   refine eG h4 Z<|sV (.d (aB.pd x4))<|bE h fun x5 h5 h=>qe h (fun hb6 h=>?_) (fun hb6 h=>?_)
   ·refine WO.qH (v:=rB true) (u:=[]) Z Z (fun _=>Z) Z Z Z Z Z (jK h5) Z Z (congrArg (fun b=>RV.d (.bool b)) hb6) Z<|sN<|cT<|gU Z<|sM Z<|sA Z<|sN<|qR ?_
    cases oI h
    exact⟨nofun,rfl,rfl⟩
   refine WO.qH (v:=rB false) (u:=[]) Z Z (fun _=>Z) Z Z Z Z Z (jK h5) Z Z (congrArg (fun b=>RV.d (.bool b)) hb6) Z<|sN<|cF<|qK<|WC.region Z Z<|sV (rI (rW (s1+(1:Int))))<|sM Z<|sN ?_
   cases oI h
   exact⟨rfl,rfl⟩
  refine sN<|qS<|cF<|qX ?_
  cases oI h
  exact⟨nofun,rfl,rfl⟩
 intro e R' B' he hq
 rcases o8 with y9|r10
 ·obtain⟨rfl,hI⟩:=hq
  refine qE<|gS Z hI<|sV (rI (-1))<|sN<|qR ?_
  exact oI h▸qD
 obtain⟨rfl,hf⟩:=hq
 cases oI h
 exact hf
theorem jr{a0:(List aB)}{r:Bool}(h:cL a0=some r):EvP prog aN ext 351 [rM aB.pd a0,.d (.raw (.func (.func 352) #[] #[]))] [] (rB r,[]):=by
 refine Ev.body Z Tryz.func351 Z Zk<|gU Z<|sU<|sN<|gU Z<|mM Z<|bE h fun x1 h1 h=>cD (ko h1)<|sV (rB (decide (x1>=(0:Int))))<|sA Z<|sN<|qR ?_
 exact oI h▸qD
theorem oU{a0:(List aB)}{r:Int}(h:iW a0=some r):EvP prog aN ext 354 [rM aB.pd a0] [] (rI r,[]):=by
 refine Ev.body Z Tryz.func354 Z Zk<|gU Z<|sV (r0)<|sN<|gU Z<|sV (rI 1)<|sN<|qS<|gU Z<|sM Z<|sE (rI (a0.length:Int)) (pf _ _)<|sV (r0)<|sN<|bE h fun o10 ho10 h=>WC.block (WC.loop (WL.pI ho10 (fun s=>gI 0 354 3 [(3,rI s.1),(6,rM aB.pd a0),(7,rI (a0.length:Int)),(8,rI s.2)] []) (fun o=>match o with| .inl y=>gX 0 0 354 10 [(3,rI y)] []| .inr r=>gF 354 Tryz.f354 0 (rI r,[])) Z ?_ ?_))
 ·rintro⟨s1,s2⟩ R' B' q4 hI h
  refine gS Z hI<|sF h ?_ ?_<;>intro h
  ·refine sN<|qS<|cT<|qK<|qS<|qB<|gU Z<|bE h fun x6 h6 h=>eG h6 Z<|sV (.d (aB.pd x6))<|sB (.ptr 80 0) 80 (.var [r0,r0,r0,r0,r0,r0,r0,.mA,r0,r0])<|sH 80 (.var (aB.rc x6))<|sN<|qS<|gU Z ?_
   refine sV (.ptr 80 0)<|sL Z<|sF h ?_ ?_<;>intro h
   ·refine sN<|cT<|qX<|qE<|WC.region Z Z<|sV (rI (rW (s2+(1:Int))))<|sM Z<|sN ?_
    cases oI h
    exact⟨rfl,rfl⟩
   refine sN<|cF<|qK<|gU Z<|sM Z<|sV (.ptr 80 8)<|sL Z<|sV (rI (rW (s1*x6.dl)))<|sA Z<|sN<|gU Z<|sM Z<|sF h ?_ ?_<;>intro h
   ·refine sN<|cT<|gU Z<|sV (r0)<|sN<|qR ?_
    cases oI h
    exact⟨nofun,rfl,rfl⟩
   refine sN<|cF<|qK<|WC.region Z Z<|sV (rI (rW (s2+(1:Int))))<|sM Z<|sN ?_
   cases oI h
   exact⟨rfl,rfl⟩
  refine sN<|qS<|cF<|qX ?_
  cases oI h
  exact⟨nofun,rfl,rfl⟩
 intro e R' B' he hq
 rcases o10 with y11|r12
 ·obtain⟨rfl,hI⟩:=hq
  refine qE<|gS Z hI<|sM Z<|sA Z<|sN<|qR ?_
  exact oI h▸qD
 obtain⟨rfl,hf⟩:=hq
 cases oI h
 exact hf
theorem mc{a0:aP}{r:Bool}(h:hJ a0=some r):EvP prog aN ext 309 [.d (aP.pd a0)] [] (rB r,[]):=by
 refine Ev.body Z Tryz.func309 Z Zk<|gU Z<|sB (.ptr 16 0) 16 (.var [rM aB.pd a0.bw])<|sU<|sN<|qS<|gU Z<|sV (.ptr 16 0)<|sL Z<|sE (rI (a0.bw.length:Int)) (pf _ _)<|sF h ?_ ?_<;>intro h
 ·refine sM Z<|k3<|sT<|sN<|cT<|gU Z<|sU<|sN<|qR ?_
  exact oI h▸qD
 refine sM Z<|sV (.ptr 16 0)<|sL Z<|bE h fun x2 h2 h=>cD (jr h2)<|sF h ?_ ?_<;>intro h
 ·refine sN<|cT<|gU Z<|sU<|sN<|qR ?_
  exact oI h▸qD
 refine sN<|cF<|qK<|gU Z<|sV (.ptr 16 0)<|sL Z<|bE h fun x4 h4 h=>cD (oU h4)<|sV (rB (decide (x4>(0:Int))))<|sA Z<|sN<|qR ?_
 exact oI h▸qD
theorem iV{a0:Int}{a1:Int}{a2:Int}{r:Bool}(h:eY a0 a1 a2=some r):EvP prog aN ext 243 [rI a0,rI a1,rI a2] [] (rB r,[]):=by
 refine Ev.body Z Tryz.func243 Z Zk<|gU Z<|sU<|sN<|gU Z<|mM Z<|sF h ?_ ?_<;>intro h
 ·refine mM Z<|sM Z<|sV (rB (decide (a0<=a2)))<|sV (rB (decide (a0<=a2)))<|sA Z<|sN<|qR ?_
  exact oI h▸qD
 refine sM Z<|k3<|sU<|sA Z<|sN<|qR ?_
 exact oI h▸qD
theorem mG{a0:ar}{r:Bool}(h:eX a0=some r):EvP prog aN ext 242 [.d (ar.pd a0)] [] (rB r,[]):=by
 refine Ev.body Z Tryz.func242 Z Zk<|gU Z<|sB (.ptr 16 0) 16 (.var (ar.rc a0))<|sU<|sN<|gU Z<|sV (.ptr 16 4)<|sV (.d (aa.pd a0.aW))<|sB (.ptr 48 0) 48 (.var [r0,r0,r0])<|sS 48 (.var (aa.rc a0.aW))<|sN<|gU Z<|sV (.ptr 16 0)<|sL Z<|sF h ?_ ?_<;>intro h
 ·refine sM Z<|sV (.ptr 16 0)<|sL Z<|sV (.ptr 16 1)<|sL Z<|sV (rB (decide (a0.bj<a0.fTo)))<|sF h ?_ ?_<;>intro h
  ·refine sM Z<|sV (.ptr 16 1)<|sL Z<|sV (rB (decide (a0.fTo<=(9007199254740992:Int))))<|sF h ?_ ?_<;>intro h
   ·refine sM Z<|sV (.ptr 16 2)<|sV (.d (bJ.pd a0.fy))<|bE h fun x4 h4 h=>cD (rate_Valid_ev h4)<|sF h ?_ ?_<;>intro h
    ·refine sM Z<|sV (.ptr 16 7)<|sV (.d (aP.pd a0.bg))<|bE h fun x6 h6 h=>cD (mc h6)<|sF h ?_ ?_<;>intro h
     ·refine sM Z<|sV (.ptr 48 0)<|sL Z<|bE h fun x8 h8 h=>cD (iV h8)<|sF h ?_ ?_<;>intro h
      ·refine sM Z<|sV (.ptr 48 1)<|sL Z<|bE h fun x10 h10 h=>cD (iV h10)<|sF h ?_ ?_<;>intro h
       ·refine sM Z<|sV (.ptr 48 2)<|sL Z<|bE h fun x12 h12 h=>cD (iV h12)<|sV (rB x12)<|sA Z<|sN<|qR ?_
        exact oI h▸qD
       refine sM Z<|k3<|sU<|sA Z<|sN<|qR ?_
       exact oI h▸qD
      refine sM Z<|k3<|sU<|sM Z<|k3<|sU<|sA Z<|sN<|qR ?_
      exact oI h▸qD
     refine sM Z<|k3<|sU<|sM Z<|k3<|sU<|sM Z<|k3<|sU ?_
     refine sA Z<|sN<|qR ?_
     exact oI h▸qD
    refine sM Z<|k3<|sU<|sM Z<|k3<|sU<|sM Z<|k3<|sU ?_
    refine sM Z<|k3<|sU<|sA Z<|sN<|qR ?_
    exact oI h▸qD
   refine sM Z<|k3<|sU<|sM Z<|k3<|sU<|sM Z<|k3<|sU ?_
   refine sM Z<|k3<|sU<|sM Z<|k3<|sU<|sA Z<|sN<|qR ?_
   exact oI h▸qD
  refine sM Z<|k3<|sU<|sM Z<|k3<|sU<|sM Z<|k3<|sU ?_
  refine sM Z<|k3<|sU<|sM Z<|k3<|sU<|sM Z<|k3<|sU ?_
  refine sA Z<|sN<|qR ?_
  exact oI h▸qD
 refine sM Z<|k3<|sK<|sK<|sU<|sM Z<|k3<|sU<|sM Z<|sK<|sK ?_
 refine sK<|sU<|sM Z<|k3<|sU<|sM Z<|k3<|sU<|sM Z<|sK<|sK ?_
 refine sK<|sU<|sM Z<|k3<|sU<|sA Z<|sN<|qR ?_
 exact oI h▸qD
theorem om{a0:(List ar)}{r:Bool}(h:ir a0=some r):EvP prog aN ext 156 [rM ar.pd a0] [] (rB r,[]):=by
 refine Ev.body Z Tryz.func156 Z Zk<|gU Z<|sU<|sN<|qS<|gU Z<|sM Z<|sE (rI (a0.length:Int)) (pf _ _)<|sV (r0)<|sN<|bE h fun o11 ho11 h=>WC.block (WC.loop (WL.pI ho11 (fun s=>gI 0 156 2 [(0,rM ar.pd a0),(5,rM ar.pd a0),(6,rI (a0.length:Int)),(7,rI s)] []) (fun o=>match o with| .inl y=>gX 0 0 156 7 [(0,rM ar.pd a0)] []| .inr r=>gF 156 Tryz.f156 0 (rB r,[])) Z ?_ ?_))
 ·rintro s1 R' B' q2 hI h
  refine gS Z hI<|sF h ?_ ?_<;>intro h
  ·refine sN<|qS<|cT<|qK<|qS<|qB<|gU Z<|sM Z<|bE h fun x4 h4 h=>eG h4 Z<|sV (.d (ar.pd x4))<|sB (.ptr 64 0) 64 (.var zZ3)<|sA Z<|sH 64 (.var (ar.rc x4))<|sN ?_
   refine WC.cI Z Z<|sV (.d (ar.pd x4))<|bE h fun x5 h5 h=>cD (mG h5)<|sF h ?_ ?_<;>intro h
   ·refine sM Z<|k3<|k3<|k3<|k3<|sK<|sT ?_
    refine sN<|sO<|cT<|gU Z<|sU<|sN<|qR ?_
    cases oI h
    exact⟨nofun,rfl,rfl⟩
   refine mM Z<|sF h ?_ ?_<;>intro h
   ·refine sM Z<|sV (.ptr 64 0)<|sL Z<|mM Z<|sV (rI (rW (s1-(1:Int))))<|bE h fun x8 h8 h=>eG h8 Z<|sV (.cptr [.int .i64 x8.fTo,.int .i64 x8.fy.bK,.int .i64 x8.fy.bC,.int .i64 x8.aW.fX,.int .i64 x8.aW.fY,.int .i64 x8.aW.fZ,.lst (x8.bg.bw.map aB.pd)])<|sC Z<|sV (rB (decide (x4.bj<x8.fTo)))<|sV (rB (decide (x4.bj<x8.fTo)))<|sF h ?_ ?_<;>intro h
    ·refine sN<|sO<|cT<|gU Z<|sU<|sN<|qR ?_
     cases oI h
     exact⟨nofun,rfl,rfl⟩
    refine sN<|sO<|cF<|qK<|WC.region Z Z<|sV (rI (rW (s1+(1:Int))))<|sM Z<|sN ?_
    cases oI h
    exact⟨rfl,rfl⟩
   refine sM Z<|k3<|k3<|k3<|sU<|sU ?_
   refine sN<|sO<|cF<|qK<|WC.region Z Z<|sV (rI (rW (s1+(1:Int))))<|sM Z<|sN ?_
   cases oI h
   exact⟨rfl,rfl⟩
  refine sN<|qS<|cF<|qX ?_
  cases oI h
  exact⟨nofun,rfl,rfl⟩
 intro e R' B' he hq
 rcases o11 with y12|r13
 ·obtain⟨rfl,hI⟩:=hq
  refine qE<|gS Z hI<|sM Z<|sE (rI (a0.length:Int)) (pf _ _)<|bE h fun x14 h14 h=>cD (iV h14)<|sA Z<|sN<|qR ?_
  exact oI h▸qD
 obtain⟨rfl,hf⟩:=hq
 cases oI h
 exact hf
theorem gd{a0:ap}{r:Bool}(h:cJ a0=some r):EvP prog aN ext 83 [.d (ap.pd a0)] [] (rB r,[]):=by
 refine Ev.body Z Tryz.func83 Z Zk<|gU Z<|sB (.ptr 16 0) 16 (.var [rM au.pd a0.aO])<|sU<|sN<|qS<|gU Z<|sV (.ptr 16 0)<|sL Z<|sE (rI (a0.aO.length:Int)) (pf _ _)<|sV (r0)<|sN<|bE h fun o14 ho14 h=>WC.block (WC.loop (WL.pI ho14 (fun s=>gI 0 83 2 [(1,.ptr 16 0),(6,rM au.pd a0.aO),(7,rI (a0.aO.length:Int)),(8,rI s)] [(16,.var [rM au.pd a0.aO])]) (fun o=>match o with| .inl y=>gX 0 0 83 7 [(1,.ptr 16 0)] [(16,.var [rM au.pd a0.aO])]| .inr r=>gF 83 Tryz.f83 0 (rB r,[])) Z ?_ ?_))
 ·rintro s1 R' B' q2 hI h
  refine gS Z hI<|sF h ?_ ?_<;>intro h
  ·refine sN<|qS<|cT<|qK<|qS<|qB<|gU Z<|sM Z<|bE h fun x4 h4 h=>eG h4 Z<|sV (.d (au.pd x4))<|sB (.ptr 64 0) 64 (.var [rS [],rS [],rS [],rS [],.mA])<|sA Z<|sS 64 (.var (au.rc x4))<|sN ?_
   refine WC.cI Z Z<|sV (.ptr 64 0)<|sV (.d (aw.pd x4.aA))<|bE h fun x5 h5 h=>cD (kV h5)<|sF h ?_ ?_<;>intro h
   ·refine sM Z<|k3<|sK<|sT<|sM Z<|k3<|k3<|sK<|sK ?_
    refine k3<|k3<|sK<|sT ?_
    refine sN<|sO<|cT<|gU Z<|sU<|sN<|qR ?_
    cases oI h
    exact⟨nofun,rfl,rfl⟩
   refine sM Z<|sV (.ptr 64 4)<|sL Z<|bE h fun x7 h7 h=>cD (om h7)<|sV (rB (!x7))<|sF h ?_ ?_<;>intro h
   ·refine sM Z<|k3<|k3<|k3<|k3<|sK<|sK ?_
    refine sK<|sT ?_
    refine sN<|sO<|cT<|gU Z<|sU<|sN<|qR ?_
    cases oI h
    exact⟨nofun,rfl,rfl⟩
   refine mM Z<|sF h ?_ ?_<;>intro h
   ·refine sM Z<|sV (.ptr 16 0)<|sL Z<|sM Z<|sV (rI (rW (s1-(1:Int))))<|bE h fun x10 h10 h=>eG h10 Z<|sV (.cptr [.str x10.aA.bd,.str x10.aA.aQ,.str x10.aA.av,.str x10.aA.bh,.lst (x10.bL.map ar.pd)])<|sV (.d (aw.pd x10.aA))<|sV (.ptr 64 0)<|sV (.d (aw.pd x4.aA))<|bE h fun x11 h11 h=>cD (md h11)<|sV (rB (decide (x11>=(0:Int))))<|sV (rB (decide (x11>=(0:Int)))) ?_
    refine sF h ?_ ?_<;>intro h
    ·refine sN<|sO<|cT<|gU Z<|sU<|sN<|qR ?_
     cases oI h
     exact⟨nofun,rfl,rfl⟩
    refine sN<|sO<|cF<|qK<|WC.region Z Z<|sV (rI (rW (s1+(1:Int))))<|sM Z<|sN ?_
    cases oI h
    exact⟨rfl,rfl⟩
   refine sM Z<|k3<|k3<|k3<|sK<|sK<|sU<|sU ?_
   refine sN<|sO<|cF<|qK<|WC.region Z Z<|sV (rI (rW (s1+(1:Int))))<|sM Z<|sN ?_
   cases oI h
   exact⟨rfl,rfl⟩
  refine sN<|qS<|cF<|qX ?_
  cases oI h
  exact⟨nofun,rfl,rfl⟩
 intro e R' B' he hq
 rcases o14 with y15|r16
 ·obtain⟨rfl,hI⟩:=hq
  refine qE<|gS Z hI<|sV (.ptr 16 0)<|sL Z<|sE (rI (a0.aO.length:Int)) (pf _ _)<|sV (rB (decide ((a0.aO.length:Int)<=(128:Int))))<|sA Z<|sN<|qR ?_
  exact oI h▸qD
 obtain⟨rfl,hf⟩:=hq
 cases oI h
 exact hf
theorem mY{a0:ar}{r:ar}(h:fq a0=some r):EvP prog aN ext 326 [.d (ar.pd a0)] [] (.d (ar.pd r),[]):=by
 refine Ev.body Z Tryz.func326 Z Zk<|gU Z<|sB (.ptr 16 0) 16 (.var (ar.rc a0))<|sB (.ptr 32 0) 32 (.var zZ3)<|sN<|gU Z<|sV (.ptr 16 7)<|sV (.ptr 16 7)<|sL Z<|bE h fun x1 h1 h=>cR (.ref 112 0) [(112,.arr 0 184 (x1.map aB.pd))] (clone_364 h1)<|sV (.ptr 16 7)<|sV (.ptr 16 7)<|sS 16 (.var (rI a0.bj::rI a0.fTo::rI a0.fy.bK::rI a0.fy.bC::aa.rc a0.aW++[.ref 112 0]))<|sN ?_
 refine qS<|gU Z<|sV (.ptr 16 7)<|sV (.ptr 16 7)<|sL Z<|WO.tn Z Z Z Z Z Z Z Z Z<|sV (r0)<|sN<|bE h fun o16 ho16 h=>WC.block (WC.loop (WL.pI ho16 (fun s=>gI 0 326 3 [(1,.ptr 16 0),(2,.ptr 32 0),(13,rI (x1.length:Int)),(14,rI s.1)] [(16,.var (rI a0.bj::rI a0.fTo::rI a0.fy.bK::rI a0.fy.bC::aa.rc a0.aW++[.ref 112 0])),(32,.var zZ3),(112,.arr 0 184 (s.2.map aB.pd))]) (fun o=>gX 0 0 326 7 [(1,.ptr 16 0),(2,.ptr 32 0)] [(16,.var (rI a0.bj::rI a0.fTo::rI a0.fy.bK::rI a0.fy.bC::aa.rc a0.aW++[.ref 112 0])),(32,.var zZ3),(112,.arr 0 184 (o.map aB.pd))]) Z ?_ ?_))
 ·rintro⟨s2,s3⟩ R' B' q5 hI h
  refine gS Z hI<|sF h ?_ ?_<;>intro h
  ·refine sN<|qS<|cT<|qK<|qS<|qB<|gU Z<|sM Z<|sA Z<|sN<|WC.pX Z Z<|sV (.ptr 16 7)<|sV (.ptr 16 7)<|sL Z<|sM Z ?_
   refine sV (.ptr 16 7)<|sV (.ptr 16 7)<|sL Z<|sM Z<|bE h fun x8 h8 h=>WO.qk h8 Z Z Z Z Z Z Z Z<|sV (.elt 112 0 (s2).toNat 7)<|bE h fun x9 h9 h=>WO.qj h9 Z Z Z Z Z Z<|bE h fun x10 h10 h=>cR (.ref 448 0) [(448,.arr 0 3 (x10.map (PD.int .i64)))] (clone_107 h10)<|bE h fun x12 h12 h=>WO.qk h12 Z Z Z Z Z Z Z Z<|sV (.elt 112 0 (s2).toNat 7)<|bE h fun x13 h13 h=>?_
   refine WO.vO (g:=aB.pd) (u:=[(448,.dead)]) (sz:=1) h13 (fun _=>Z) (fun _=>Nat.le_of_ble_eq_true Z) Z Z Z Z Z Z Z Z Z Z Z ?_
   refine sN<|sO<|WC.region Z Z<|sV (rI (rW (s2+(1:Int))))<|sM Z<|sN ?_
   cases oI h
   exact⟨rfl,rfl⟩
  refine sN<|qS<|cF<|qX ?_
  cases oI h
  exact⟨nofun,rfl,rfl⟩
 intro e R' B' he hq
 obtain⟨rfl,hI⟩:=hq
 refine qE<|gS Z hI<|sV (.agg (rI a0.bj::rI a0.fTo::rI a0.fy.bK::rI a0.fy.bC::aa.rc a0.aW++[.ref 112 0]))<|sH 32 (.var (rI a0.bj::rI a0.fTo::rI a0.fy.bK::rI a0.fy.bC::aa.rc a0.aW++[.ref 112 0]))<|sN<|qR ?_
 cases oI h
 exact qG
theorem ol{a0:au}{r:au}(h:iq a0=some r):EvP prog aN ext 257 [.d (au.pd a0)] [] (.agg (aw.rc r.aA++[.ref 0 0]),[.arr 0 113 (r.bL.map ar.pd)]):=by
 refine Ev.body Z Tryz.func257 Z Zk<|gU Z<|sB (.ptr 16 0) 16 (.var (au.rc a0))<|sB (.ptr 32 0) 32 (.var [rS [],rS [],rS [],rS [],.mA])<|sN<|gU Z<|sV (.ptr 16 4)<|sL Z<|bE h fun x1 h1 h=>cR (.ref 112 0) [(112,.arr 0 113 (x1.map ar.pd))] (clone_325 h1)<|sV (.ptr 16 4)<|sS 16 (.var (aw.rc a0.aA++[.ref 112 0]))<|sN<|qS<|gU Z ?_
 refine sV (.ptr 16 4)<|sL Z<|WO.tn Z Z Z Z Z Z Z Z Z<|sV (r0)<|sN<|bE h fun o15 ho15 h=>WC.block (WC.loop (WL.pI ho15 (fun s=>gI 0 257 3 [(1,.ptr 16 0),(2,.ptr 32 0),(10,.ref 112 0),(11,rI (x1.length:Int)),(12,rI s.1)] [(16,.var (aw.rc a0.aA++[.ref 112 0])),(32,.var [rS [],rS [],rS [],rS [],.mA]),(112,.arr 0 113 (s.2.map ar.pd))]) (fun o=>gX 0 0 257 7 [(1,.ptr 16 0),(2,.ptr 32 0)] [(16,.var (aw.rc a0.aA++[.ref 112 0])),(32,.var [rS [],rS [],rS [],rS [],.mA]),(112,.arr 0 113 (o.map ar.pd))]) Z ?_ ?_))
 ·rintro⟨s2,s3⟩ R' B' q5 hI h
  refine gS Z hI<|sF h ?_ ?_<;>intro h
  ·refine sN<|qS<|cT<|qK<|qS<|qB<|gU Z<|sM Z<|bE h fun x8 h8 h=>WO.qk h8 Z Z Z Z Z Z Z Z<|bE h fun x9 h9 h=>WO.qj h9 Z Z Z Z Z Z<|sB (.ptr 64 0) 64 (.var zZ3)<|sA Z<|sH 64 (.var (ar.rc x9)) ?_
   refine sN<|WC.pX Z Z<|sV (.ptr 16 4)<|sL Z<|sM Z<|sV (.d (ar.pd x9))<|bE h fun x10 h10 h=>cD (mY h10)<|bE h fun x12 h12 h=>WO.qk h12 Z Z Z Z Z Z Z Z<|bE h fun x13 h13 h=>WO.rA (g:=ar.pd) (sz:=8) (p:=ar.pd x10) h13 (by intro _;kernel_rfl) (by intro _;kernel_rfl) Z Z Z Z Z Z Z Z Z ?_
   refine sN<|sO<|WC.region Z Z<|sV (rI (rW (s2+(1:Int))))<|sM Z<|sN ?_
   cases oI h
   exact⟨rfl,rfl⟩
  refine sN<|qS<|cF<|qX ?_
  cases oI h
  exact⟨nofun,rfl,rfl⟩
 intro e R' B' he hq
 obtain⟨rfl,hI⟩:=hq
 refine qE<|gS Z hI<|sV (.agg (aw.rc a0.aA++[.ref 112 0]))<|sS 32 (.var (aw.rc a0.aA++[.ref 112 0]))<|sN<|qR ?_
 exact oI h▸qD
theorem pn{a0:ap}{a1:aw}{r:au×Bool}(h:jE a0 a1=some r):EvP prog aN ext 175 [.d (ap.pd a0),.d (aw.pd a1)] [] (.tup [.d (au.pd r.1),rB r.2],[]):=by
 refine Ev.body Z Tryz.func175 Z Zk<|gU Z<|sB (.ptr 32 0) 32 (.var [rM au.pd a0.aO])<|sB (.ptr 48 0) 48 (.var (aw.rc a1))<|sB (.ptr 64 0) 64 (.var [rS [],rS [],rS [],rS [],.mA])<|sU<|sN<|qS<|gU Z<|sV (.ptr 32 0)<|sL Z<|sE (rI (a0.aO.length:Int)) (pf _ _)<|sV (r0)<|sN<|bE h fun o8 ho8 h=>?_
 refine WC.block (WC.loop (WL.pI ho8 (fun s=>gI 0 175 2 [(3,.ptr 48 0),(4,.ptr 64 0),(9,rM au.pd a0.aO),(10,rI (a0.aO.length:Int)),(11,rI s)] [(48,.var (aw.rc a1)),(64,.var [rS [],rS [],rS [],rS [],.mA])]) (fun o=>match o with| .inl y=>gX 0 0 175 7 [(4,.ptr 64 0)] [(64,.var [rS [],rS [],rS [],rS [],.mA])]| .inr r=>gF 175 Tryz.f175 0 (.tup [.d (au.pd r.1),rB r.2],[])) Z ?_ ?_))
 ·rintro s1 R' B' q2 hI h
  refine gS Z hI<|sF h ?_ ?_<;>intro h
  ·refine sN<|qS<|cT<|qK<|qS<|qB<|gU Z<|bE h fun x4 h4 h=>eG h4 Z<|sV (.d (au.pd x4))<|sB (.ptr 112 0) 112 (.var [rS [],rS [],rS [],rS [],.mA])<|sS 112 (.var (au.rc x4))<|sN<|gU Z<|sV (.ptr 112 0) ?_
   refine sV (.d (aw.pd x4.aA))<|sV (.d (aw.pd a1))<|qe h (fun hb5 h=>?_) (fun hb5 h=>?_)
   ·refine WO.uw (eqE_64 x4.aA a1) hb5 Z Z Z Z Z<|sN<|cT<|gU Z<|sV (.d (au.pd x4))<|bE h fun x6 h6 h=>cR (.agg (aw.rc x6.aA++[.ref 320 0])) [(320,.arr 0 113 (x6.bL.map ar.pd))] (ol h6)<|sS 64 (.var (aw.rc x6.aA++[.ref 320 0]))<|sT<|sN<|qR ?_
    cases oI h
    exact⟨nofun,rfl,rfl⟩
   refine WO.uw (eqE_64 x4.aA a1) hb5 Z Z Z Z Z<|sN<|cF<|qK<|WC.region Z Z<|sV (rI (rW (s1+(1:Int))))<|sM Z<|sN ?_
   cases oI h
   exact⟨rfl,rfl⟩
  refine sN<|qS<|cF<|qX ?_
  cases oI h
  exact⟨nofun,rfl,rfl⟩
 intro e R' B' he hq
 rcases o8 with y9|r10
 ·obtain⟨rfl,hI⟩:=hq
  refine qE<|gS Z hI<|sV (.agg [rS [],rS [],rS [],rS [],.mA])<|sS 64 (.var [rS [],rS [],rS [],rS [],.mA])<|sU<|sN<|qR ?_
  exact oI h▸qD
 obtain⟨rfl,hf⟩:=hq
 cases oI h
 exact hf
theorem inventory_at_ev{a0:au}{a1:Int}{r:ar×Bool}(h:lp a0 a1=some r):EvP prog aN ext 176 [.d (au.pd a0),rI a1] [] (.tup [.d (ar.pd r.1),rB r.2],[]):=by
 refine Ev.body Z Tryz.func176 Z Zk<|gU Z<|sB (.ptr 32 0) 32 (.var (au.rc a0))<|sB (.ptr 64 0) 64 (.var zZ3)<|sU<|sN<|qS<|gU Z<|sV (.ptr 32 4)<|sL Z<|sE (rI (a0.bL.length:Int)) (pf _ _)<|sV (r0)<|sN<|bE h fun o8 ho8 h=>WC.block (WC.loop (WL.pI ho8 (fun s=>gI 0 176 2 [(1,rI a1),(4,.ptr 64 0),(9,rM ar.pd a0.bL),(10,rI (a0.bL.length:Int)),(11,rI s)] [(64,.var zZ3)]) (fun o=>match o with| .inl y=>gX 0 0 176 7 [(4,.ptr 64 0)] [(64,.var zZ3)]| .inr r=>gF 176 Tryz.f176 0 (.tup [.d (ar.pd r.1),rB r.2],[])) Z ?_ ?_))
 ·rintro s1 R' B' q2 hI h
  refine gS Z hI<|sF h ?_ ?_<;>intro h
  ·refine sN<|qS<|cT<|qK<|qS<|qB<|gU Z<|bE h fun x4 h4 h=>eG h4 Z<|sV (.d (ar.pd x4))<|sB (.ptr 112 0) 112 (.var zZ3)<|sH 112 (.var (ar.rc x4))<|sN<|gU Z<|sV (.ptr 112 0) ?_
   refine sL Z<|sM Z<|sF h ?_ ?_<;>intro h
   ·refine mM Z<|sV (.ptr 112 1)<|sL Z<|sV (rB (decide (a1<x4.fTo)))<|sF h ?_ ?_<;>intro h
    ·refine sN<|cT<|gU Z<|sV (.d (ar.pd x4))<|sH 64 (.var (ar.rc x4))<|sT<|sN<|qR ?_
     cases oI h
     exact⟨nofun,rfl,rfl⟩
    refine sN<|cF<|qK<|WC.region Z Z<|sV (rI (rW (s1+(1:Int))))<|sM Z<|sN ?_
    cases oI h
    exact⟨rfl,rfl⟩
   refine sM Z<|k3<|sK<|sU<|sN<|cF<|qK<|WC.region Z Z<|sV (rI (rW (s1+(1:Int))))<|sM Z<|sN ?_
   cases oI h
   exact⟨rfl,rfl⟩
  refine sN<|qS<|cF<|qX ?_
  cases oI h
  exact⟨nofun,rfl,rfl⟩
 intro e R' B' he hq
 rcases o8 with y9|r10
 ·obtain⟨rfl,hI⟩:=hq
  refine qE<|gS Z hI<|sG (.agg zZ3)<|sH 64 (.var zZ3)<|sU<|sN<|qR ?_
  cases oI h
  exact qG
 obtain⟨rfl,hf⟩:=hq
 cases oI h
 exact hf
theorem kN{a0:ap}{a1:aw}{a2:Int}{r:ar×Int}(h:ip a0 a1 a2=some r):EvP prog aN ext 99 [.d (ap.pd a0),.d (aw.pd a1),rI a2] [] (.tup [.d (ar.pd r.1),rI r.2],[]):=by
 refine Ev.body Z Tryz.func99 Z Zk<|gU Z<|sB (.ptr 48 0) 48 (.var [rM au.pd a0.aO])<|sB (.ptr 64 0) 64 (.var (aw.rc a1))<|sB (.ptr 96 0) 96 (.var zZ3)<|sV (r0)<|sN<|qS<|gU Z<|sV (.d (ap.pd a0))<|bE h fun x1 h1 h=>cD (gd h1)<|sF h ?_ ?_<;>intro h
 ·refine sN<|cT<|gU Z<|sG (.agg zZ3)<|sH 96 (.var zZ3)<|sV (rI 1)<|sN<|qR ?_
  cases oI h
  exact qG
 refine sN<|cF<|qK<|gU Z<|sV (.d (ap.pd a0))<|sV (.d (aw.pd a1))<|bE h fun x3 h3 h=>cR (.tup [.d (au.pd x3.1),rB x3.2]) [] (pn h3)<|sM Z<|sV (.d (au.pd x3.1))<|sV (rB x3.2)<|sB (.ptr 128 0) 128 (.var [rS [],rS [],rS [],rS [],.mA])<|sS 128 (.var (au.rc x3.1))<|sA Z<|sN ?_
 refine gU Z<|sV (.d (au.pd x3.1))<|sM Z<|bE h fun x4 h4 h=>cR (.tup [.d (ar.pd x4.1),rB x4.2]) [] (inventory_at_ev h4)<|sM Z<|sV (.d (ar.pd x4.1))<|sV (rB x4.2)<|sB (.ptr 160 0) 160 (.var zZ3)<|sH 160 (.var (ar.rc x4.1))<|sA Z<|sN<|qS<|gU Z<|sM Z ?_
 refine sF h ?_ ?_<;>intro h
 ·refine sN<|cT<|gU Z<|sG (.agg zZ3)<|sH 96 (.var zZ3)<|sV (rI 6)<|sN<|qR ?_
  cases oI h
  exact qG
 refine sN<|cF<|qK<|gU Z<|sV (.d (ar.pd x4.1))<|sH 96 (.var (ar.rc x4.1))<|sV (r0)<|sN<|qR ?_
 cases oI h
 exact qG
theorem ov{a0:(List Int)}{a1:(List Int)}{r:Bool}(h:iz a0 a1=some r):EvP prog aN ext 179 [rL a0,rL a1] [] (rB r,[]):=by
 refine Ev.body Z Tryz.func179 Z Zk<|gU Z<|sU<|sN<|qS<|gU Z<|sM Z<|sE (rI (a0.length:Int)) (pf _ _)<|sM Z<|sE (rI (a1.length:Int)) (pf _ _)<|sF h ?_ ?_<;>intro h
 ·refine sN<|cT<|gU Z<|sU<|sN<|qR ?_
  exact oI h▸qD
 refine sN<|cF<|qK<|qS<|gU Z<|sM Z<|sE (rI (a0.length:Int)) (pf _ _)<|sV (r0)<|sN<|bE h fun o9 ho9 h=>WC.block (WC.loop (WL.pI ho9 (fun s=>gI 0 179 4 [(0,rL a0),(1,rL a1),(12,rI (a0.length:Int)),(13,rI s)] []) (fun o=>match o with| .inl y=>gX 0 0 179 9 [] []| .inr r=>gF 179 Tryz.f179 0 (rB r,[])) Z ?_ ?_))
 ·rintro s2 R' B' q3 hI h
  refine gS Z hI<|sF h ?_ ?_<;>intro h
  ·refine sN<|qS<|cT<|qK<|qS<|qB<|gU Z<|sM Z<|sA Z<|sN<|WC.cI Z Z<|mM Z<|bE h fun x5 h5 h=>eG h5 Z ?_
   refine sC Z<|mM Z<|bE h fun x6 h6 h=>eG h6 Z<|sC Z<|sF h ?_ ?_<;>intro h
   ·refine sN<|sO<|cT<|gU Z<|sU<|sN<|qR ?_
    cases oI h
    exact⟨nofun,rfl,rfl⟩
   refine sN<|sO<|cF<|qK<|WC.region Z Z<|sV (rI (rW (s2+(1:Int))))<|sM Z<|sN ?_
   cases oI h
   exact⟨rfl,rfl⟩
  refine sN<|qS<|cF<|qX ?_
  cases oI h
  exact⟨nofun,rfl,rfl⟩
 intro e R' B' he hq
 rcases o9 with y10|r11
 ·obtain⟨rfl,hI⟩:=hq
  refine qE<|gS Z hI<|sT<|sN<|qR ?_
  exact oI h▸qD
 obtain⟨rfl,hf⟩:=hq
 cases oI h
 exact hf
theorem nB{a0:aB}{a1:aB}{r:Bool}(h:gi a0 a1=some r):EvP prog aN ext 178 [.d (aB.pd a0),.d (aB.pd a1)] [] (rB r,[]):=by
 refine Ev.body Z Tryz.func178 Z Zk<|gU Z<|sB (.ptr 32 0) 32 (.var (aB.rc a0))<|sB (.ptr 48 0) 48 (.var (aB.rc a1))<|sU<|sN<|gU Z<|sV (.ptr 32 0)<|sL Z<|sV (.ptr 48 0)<|sL Z<|sF h ?_ ?_<;>intro h
 ·refine sM Z<|sV (.ptr 32 1)<|sV (.d (aT.pd a0.bK))<|sV (.ptr 48 1)<|sV (.d (aT.pd a1.bK))<|WO.bin (io a0.bK a1.bK) Z Z Z Z Z<|sF h ?_ ?_<;>intro h
  ·refine sM Z<|sV (.ptr 32 4)<|sV (.d (aT.pd a0.bC))<|sV (.ptr 48 4)<|sV (.d (aT.pd a1.bC))<|WO.bin (io a0.bC a1.bC) Z Z Z Z Z<|sF h ?_ ?_<;>intro h
   ·refine sM Z<|sV (.ptr 32 7)<|sL Z<|sV (.ptr 48 7)<|sL Z<|bE h fun x4 h4 h=>cD (ov h4)<|sF h ?_ ?_<;>intro h
    ·refine sM Z<|sV (.ptr 32 8)<|sL Z<|sV (.ptr 48 8)<|sL Z<|sV (rB (a0.dl==a1.dl))<|sF h ?_ ?_<;>intro h
     ·refine sM Z<|sV (.ptr 32 9)<|sL Z<|sV (.ptr 48 9)<|sL Z<|sV (rB (a0.dm==a1.dm))<|sV (rB (a0.dm==a1.dm))<|sA Z<|sN<|qR ?_
      cases oI h
      exact qG
     refine sM Z<|k3<|sK<|sK<|sU<|sA Z<|sN<|qR ?_
     cases oI h
     exact qG
    refine sM Z<|k3<|sK<|sK<|sU<|sM Z<|k3<|sK<|sK<|sU<|sA Z ?_
    refine sN<|qR ?_
    cases oI h
    exact qG
   refine sM Z<|k3<|sK<|sK<|sU<|sM Z<|k3<|sK<|sK<|sU<|sM Z ?_
   refine k3<|sK<|sK<|sU<|sA Z<|sN<|qR ?_
   cases oI h
   exact qG
  refine sM Z<|k3<|sK<|sK<|sU<|sM Z<|k3<|sK<|sK<|sU<|sM Z ?_
  refine k3<|sK<|sK<|sU<|sM Z<|k3<|sK<|sK<|sU<|sA Z<|sN ?_
  refine qR ?_
  cases oI h
  exact qG
 refine sM Z<|k3<|sK<|sK<|sU<|sM Z<|k3<|sK<|sK<|sU<|sM Z ?_
 refine k3<|sK<|sK<|sU<|sM Z<|k3<|sK<|sK<|sU<|sM Z<|sK ?_
 refine k3<|sK<|sU<|sA Z<|sN<|qR ?_
 cases oI h
 exact qG
theorem kl{a0:(List aB)}{a1:(List aB)}{r:Bool}(h:eh a0 a1=some r):EvP prog aN ext 177 [rM aB.pd a0,rM aB.pd a1,.d (.raw (.func (.func 178) #[] #[]))] [] (rB r,[]):=by
 refine Ev.body Z Tryz.func177 Z Zk<|gU Z<|sU<|sN<|qS<|gU Z<|sM Z<|sE (rI (a0.length:Int)) (pf _ _)<|sM Z<|sE (rI (a1.length:Int)) (pf _ _)<|sF h ?_ ?_<;>intro h
 ·refine sN<|cT<|gU Z<|sU<|sN<|qR ?_
  exact oI h▸qD
 refine sN<|cF<|qK<|qS<|gU Z<|sM Z<|sE (rI (a0.length:Int)) (pf _ _)<|sV (r0)<|sN<|bE h fun o10 ho10 h=>WC.block (WC.loop (WL.pI ho10 (fun s=>gI 0 177 4 [(1,rM aB.pd a1),(2,.d (.raw (.func (.func 178) #[] #[]))),(15,rM aB.pd a0),(16,rI (a0.length:Int)),(17,rI s)] []) (fun o=>match o with| .inl y=>gX 0 0 177 10 [] []| .inr r=>gF 177 Tryz.f177 0 (rB r,[])) Z ?_ ?_))
 ·rintro s2 R' B' q3 hI h
  refine gS Z hI<|sF h ?_ ?_<;>intro h
  ·refine sN<|qS<|cT<|qK<|qS<|qB<|gU Z<|sM Z<|bE h fun x5 h5 h=>eG h5 Z<|sV (.d (aB.pd x5))<|sB (.ptr 128 0) 128 (.var [r0,r0,r0,r0,r0,r0,r0,.mA,r0,r0])<|sA Z<|sH 128 (.var (aB.rc x5))<|sN ?_
   refine gU Z<|mM Z<|bE h fun x6 h6 h=>eG h6 Z<|sV (.d (aB.pd x6))<|sB (.ptr 144 0) 144 (.var [r0,r0,r0,r0,r0,r0,r0,.mA,r0,r0])<|sH 144 (.var (aB.rc x6))<|sN<|gU Z<|sM Z<|sV (.d (aB.pd x5))<|sV (.d (aB.pd x6))<|bE h fun x7 h7 h=>cD (nB h7) ?_
   refine sF h ?_ ?_<;>intro h
   ·refine sN<|cT<|gU Z<|sU<|sN<|qR ?_
    cases oI h
    exact⟨nofun,rfl,rfl⟩
   refine sN<|cF<|qK<|WC.region Z Z<|sV (rI (rW (s2+(1:Int))))<|sM Z<|sN ?_
   cases oI h
   exact⟨rfl,rfl⟩
  refine sN<|qS<|cF<|qX ?_
  cases oI h
  exact⟨nofun,rfl,rfl⟩
 intro e R' B' he hq
 rcases o10 with y11|r12
 ·obtain⟨rfl,hI⟩:=hq
  refine qE<|gS Z hI<|sT<|sN<|qR ?_
  exact oI h▸qD
 obtain⟨rfl,hf⟩:=hq
 cases oI h
 exact hf
theorem response_Same_ev{a0:aP}{a1:aP}{r:Bool}(h:kB a0 a1=some r):EvP prog aN ext 100 [.d (aP.pd a0),.d (aP.pd a1)] [] (rB r,[]):=by
 refine Ev.body Z Tryz.func100 Z Zk<|gU Z<|sB (.ptr 32 0) 32 (.var [rM aB.pd a0.bw])<|sB (.ptr 48 0) 48 (.var [rM aB.pd a1.bw])<|sU<|sN<|gU Z<|sV (.ptr 32 0)<|sL Z<|sV (.ptr 48 0)<|sL Z<|bE h fun x1 h1 h=>cD (kl h1)<|sA Z<|sN ?_
 refine qR ?_
 exact oI h▸qD
theorem nw{a0:ap}{a1:ap}{a2:ae}{r:Bool}(h:fU a0 a1 a2=some r):EvP prog aN ext 46 [.d (ap.pd a0),.d (ap.pd a1),.d (ae.pd a2)] [] (rB r,[]):=by
 refine Ev.body Z Tryz.func46 Z Zk<|gU Z<|sB (.ptr 48 0) 48 (.var [rM au.pd a0.aO])<|sB (.ptr 64 0) 64 (.var [rM au.pd a1.aO])<|sB (.ptr 80 0) 80 (.var (ae.rc a2))<|sU<|sN<|gU Z<|sV (.d (ap.pd a0))<|sV (.ptr 80 0)<|sV (.d (aw.pd a2.aA))<|sV (.ptr 80 4)<|sL Z<|bE h fun x1 h1 h=>cR (.tup [.d (ar.pd x1.1),rI x1.2]) [] (kN h1) ?_
 refine sM Z<|sV (.d (ar.pd x1.1))<|sV (rI x1.2)<|sB (.ptr 112 0) 112 (.var zZ3)<|sH 112 (.var (ar.rc x1.1))<|sA Z<|sN<|gU Z<|sV (.d (ap.pd a1))<|sV (.ptr 80 0)<|sV (.d (aw.pd a2.aA))<|sV (.ptr 80 4)<|sL Z<|bE h fun x2 h2 h=>cR (.tup [.d (ar.pd x2.1),rI x2.2]) [] (kN h2) ?_
 refine sM Z<|sV (.d (ar.pd x2.1))<|sV (rI x2.2)<|sB (.ptr 144 0) 144 (.var zZ3)<|sH 144 (.var (ar.rc x2.1))<|sA Z<|sN<|qS<|gU Z<|sM Z<|sF h ?_ ?_<;>intro h
 ·refine sM Z<|sK<|sK<|sT<|sN<|cT<|gU Z<|sM Z<|sV (rB (x1.2==(0:Int)))<|sM Z<|sV (rB (x2.2==(0:Int)))<|sV (rB (!((x1.2==(0:Int))==(x2.2==(0:Int)))))<|sA Z<|sN<|qR ?_
  cases oI h
  exact qG
 refine mM Z<|sV (rB (x2.2 != (0:Int)))<|sF h ?_ ?_<;>intro h
 ·refine sN<|cT<|gU Z<|sM Z<|sV (rB (x1.2==(0:Int)))<|sM Z<|sV (rB (x2.2==(0:Int)))<|sV (rB (!((x1.2==(0:Int))==(x2.2==(0:Int)))))<|sA Z<|sN<|qR ?_
  cases oI h
  exact qG
 refine sN<|cF<|qK<|gU Z<|sV (.ptr 112 4)<|sV (.d (aa.pd x1.1.aW))<|sV (.ptr 144 4)<|sV (.d (aa.pd x2.1.aW))<|qe h (fun hb5 h=>?_) (fun hb5 h=>?_)
 ·refine WO.uw (eqN_26 x1.1.aW x2.1.aW) hb5 Z Z Z Z Z<|sM Z<|k3<|k3<|sT<|sA Z<|sN<|qR ?_
  cases oI h
  exact qG
 refine WO.uw (eqN_26 x1.1.aW x2.1.aW) hb5 Z Z Z Z Z<|sM Z<|sV (.ptr 112 7)<|sV (.d (.agg [.lst (x1.1.bg.bw.map aB.pd)]))<|sV (.ptr 144 7)<|sV (.d (.agg [.lst (x2.1.bg.bw.map aB.pd)]))<|bE h fun x6 h6 h=>cD (response_Same_ev h6)<|sV (rB (!x6))<|sV (rB (!x6))<|sA Z<|sN<|qR ?_
 cases oI h
 exact qG
theorem bI{a0:aa}{r:aT}(h:bq a0=some r):EvP prog aN ext 188 [.d (aa.pd a0)] [] (.d (aT.pd r),[]):=by
 refine Ev.body Z Tryz.func188 Z Zk<|gU Z<|sB (.ptr 16 0) 16 (.var (aa.rc a0))<|sB (.ptr 32 0) 32 (.var [r0,r0,r0])<|sN<|gU Z<|sV (.ptr 16 0)<|sL Z<|sV (.ptr 16 1)<|sL Z<|sV (.ptr 16 2)<|sL Z<|sV (.d (aT.pd (aT.mk a0.fX a0.fY a0.fZ)))<|sS 32 (.var (aa.rc a0))<|sN ?_
 refine qR ?_
 exact oI h▸qD
theorem cO{a0:aa}{r:Bool}(h:cW a0=some r):EvP prog aN ext 272 [.d (aa.pd a0)] [] (rB r,[]):=by
 refine Ev.body Z Tryz.func272 Z Zk<|gU Z<|sB (.ptr 16 0) 16 (.var (aa.rc a0))<|sU<|sN<|gU Z<|sV (.d (aT.pd (aT.mk (-1048576) (-1048576) (-16384))))<|sB (.ptr 48 0) 48 (.var [r0,r0,r0])<|sS 48 (.var [rI (-1048576),rI (-1048576),rI (-16384)])<|sN<|qS<|gU Z<|sV (.d (aa.pd a0))<|bE h fun x1 h1 h=>cD (bI h1) ?_
 refine sV (r0)<|sN<|WC.block (WC.loop ?_)
 refine WL.round<|gU Z<|sT<|sN<|qS<|cT<|qK<|qS<|qB<|gU Z<|sM Z<|sV (rI x1.a0)<|sA Z<|sA Z<|sN ?_
 refine gU Z<|mM Z<|sV (.ptr 48 0)<|sL Z<|sF h ?_ ?_<;>intro h
 ·refine sM Z<|sK<|sK<|sT<|sN<|cT<|gU Z<|sU<|sN<|qR ?_
  exact oI h▸qD
 refine mM Z<|sV (rB (decide (x1.a0>(1048576:Int))))<|sF h ?_ ?_<;>intro h
 ·refine sN<|cT<|gU Z<|sU<|sN<|qR ?_
  exact oI h▸qD
 refine sN<|cF<|qK<|WC.region Z Z<|sV (rI 1)<|sM Z<|sN<|WL.round<|gU Z<|sT<|sN<|qS<|cT<|qK<|qS ?_
 refine qB<|gU Z<|sM Z<|sV (rI x1.a1)<|sA Z<|sA Z<|sN<|gU Z<|mM Z<|sV (.ptr 48 1)<|sL Z<|sF h ?_ ?_<;>intro h
 ·refine sM Z<|sK<|sK<|sT<|sN<|cT<|gU Z<|sU<|sN<|qR ?_
  exact oI h▸qD
 refine mM Z<|sV (rB (decide (x1.a1>(1048576:Int))))<|sF h ?_ ?_<;>intro h
 ·refine sN<|cT<|gU Z<|sU<|sN<|qR ?_
  exact oI h▸qD
 refine sN<|cF<|qK<|WC.region Z Z<|sV (rI 2)<|sM Z<|sN<|WL.round<|gU Z<|sT<|sN<|qS<|cT<|qK<|qS ?_
 refine qB<|gU Z<|sM Z<|sV (rI x1.a2)<|sA Z<|sA Z<|sN<|gU Z<|mM Z<|sV (.ptr 48 2)<|sL Z<|sF h ?_ ?_<;>intro h
 ·refine sM Z<|sK<|sK<|sT<|sN<|cT<|gU Z<|sU<|sN<|qR ?_
  exact oI h▸qD
 refine mM Z<|sV (rB (decide (x1.a2>(1048576:Int))))<|sF h ?_ ?_<;>intro h
 ·refine sN<|cT<|gU Z<|sU<|sN<|qR ?_
  exact oI h▸qD
 refine sN<|cF<|qK<|WC.region Z Z<|sV (rI 3)<|sM Z<|sN<|WL.round<|gU Z<|sU<|sN<|qS<|cF<|qX<|qE ?_
 refine gU Z<|sT<|sN<|qR ?_
 exact oI h▸qD
theorem bt{a0:ah}{r:Bool}(h:bH a0=some r):EvP prog aN ext 187 [.d (ah.pd a0)] [] (rB r,[]):=by
 refine Ev.body Z Tryz.func187 Z Zk<|gU Z<|sB (.ptr 16 0) 16 (.var (ah.rc a0))<|sU<|sN<|qS<|gU Z<|sV (.ptr 16 0)<|sV (.d (aa.pd a0.aI))<|bE h fun x1 h1 h=>cD (cO h1)<|sF h ?_ ?_<;>intro h
 ·refine sM Z<|k3<|sK<|sT<|sN<|cT<|gU Z<|sU<|sN<|qR ?_
  exact oI h▸qD
 refine sM Z<|sV (.ptr 16 3)<|sV (.d (aa.pd a0.aC))<|bE h fun x3 h3 h=>cD (cO h3)<|sV (rB (!x3))<|sF h ?_ ?_<;>intro h
 ·refine sN<|cT<|gU Z<|sU<|sN<|qR ?_
  exact oI h▸qD
 refine sN<|cF<|qK<|gU Z<|sV (.ptr 16 3)<|sV (.d (aa.pd a0.aC))<|bE h fun x5 h5 h=>cD (bI h5)<|sB (.ptr 48 0) 48 (.var [r0,r0,r0])<|sS 48 (.var [rI x5.a0,rI x5.a1,rI x5.a2])<|sN<|qS<|gU Z<|sV (.ptr 16 0)<|sV (.d (aa.pd a0.aI)) ?_
 refine bE h fun x6 h6 h=>cD (bI h6)<|sV (r0)<|sN<|WC.block (WC.loop ?_)
 refine WL.round<|gU Z<|sT<|sN<|qS<|cT<|qK<|qS<|qB<|gU Z<|sM Z<|sV (rI x6.a0)<|sA Z<|sA Z<|sN ?_
 refine gU Z<|mM Z<|sV (.ptr 48 0)<|sL Z<|sF h ?_ ?_<;>intro h
 ·refine sN<|cT<|gU Z<|sU<|sN<|qR ?_
  exact oI h▸qD
 refine sN<|cF<|qK<|WC.region Z Z<|sV (rI 1)<|sM Z<|sN<|WL.round<|gU Z<|sT<|sN<|qS<|cT<|qK<|qS ?_
 refine qB<|gU Z<|sM Z<|sV (rI x6.a1)<|sA Z<|sA Z<|sN<|gU Z<|mM Z<|sV (.ptr 48 1)<|sL Z<|sF h ?_ ?_<;>intro h
 ·refine sN<|cT<|gU Z<|sU<|sN<|qR ?_
  exact oI h▸qD
 refine sN<|cF<|qK<|WC.region Z Z<|sV (rI 2)<|sM Z<|sN<|WL.round<|gU Z<|sT<|sN<|qS<|cT<|qK<|qS ?_
 refine qB<|gU Z<|sM Z<|sV (rI x6.a2)<|sA Z<|sA Z<|sN<|gU Z<|mM Z<|sV (.ptr 48 2)<|sL Z<|sF h ?_ ?_<;>intro h
 ·refine sN<|cT<|gU Z<|sU<|sN<|qR ?_
  exact oI h▸qD
 refine sN<|cF<|qK<|WC.region Z Z<|sV (rI 3)<|sM Z<|sN<|WL.round<|gU Z<|sU<|sN<|qS<|cF<|qX<|qE ?_
 refine gU Z<|sT<|sN<|qR ?_
 exact oI h▸qD
end Go.Dw.Ed
