
import Derived.Test.YtomapcboiinfdaaGreatEsFn
import Derived.Test.YtomapcboiinfdaaGreatDwShort
import Derived.Test.YtomapcboiinfdaaGreatDwNest
import Derived.Test.YtomapcboiinfdaaGreatProg
import Derived.Test.YtomapcboiinfdaaGreatDwClone
import Derived.Test.YtomapcboiinfdaaGreatDwConst
import Derived.Test.YtomapcboiinfdaaGreatDwSort
set_option linter.unusedVariables false
set_option linter.unusedSimpArgs false
open Go.IntKind renaming wrap->Bw
open Go.Dw.WC renaming block->CI, jF->CJ, join->CK, loop->CL, mX->CM, n9->CN, region->CO

set_option maxRecDepth 100000
set_option maxHeartbeats 4000000
namespace Go.Dw.Es
open Go.Proofs Go.Proofs.Tryz Go.Dw
@[reducible] def rW(n:Int):Int:=Bw .i64 n
@[reducible] def rI(n:Int):RV:= .d (.int .i64 n)
@[reducible] def r0:RV:= .d (.int .i64 0)
@[reducible] def rS(s:List UInt8):RV:= .d (.str s)
@[reducible] def rB(b:Bool):RV:= .d (.bool b)
@[reducible] def rM{α:Type}(g:α->PD)(l:List α):RV:= .d (.lst (l.map g))
@[reducible] def rL(l:List Int):RV:= .d (.lst (l.map (PD.int .i64)))
@[reducible] def zZ0:List RV:=[.d (.int .i64 0),.d (.int .i64 0),.d (.int .i64 0),.d (.int .i64 0),.d (.int .i64 0),.d (.int .i64 0),.d (.int .i64 0),.cI]
@[reducible] def zZ1:List RV:=[.d (.int .i64 0),.d (.int .i64 0),.d (.int .i64 0),.d (.int .i64 0),.d (.int .i64 0),.d (.int .i64 0)]
@[reducible] def ag.rc(x:ag):List RV:=[.d (.int .i64 x.ae.aU.aG.fX),.d (.int .i64 x.ae.aU.aG.fY),.d (.int .i64 x.ae.aU.aG.fZ),.d (.int .i64 x.ae.aU.aB.fX),.d (.int .i64 x.ae.aU.aB.fY),.d (.int .i64 x.ae.aU.aB.fZ),.d (.int .i64 x.ae.bj.aY),.d (.lst (x.ae.bj.aG.map (PD.int .i64))),.d (.lst (x.ae.bj.aB.map (PD.int .i64))),.d (.int .i64 x.ae.gK),.d (.int .i64 x.ae.aK),.d (.int .i64 x.ae.dn),.d (.int .i64 x.ae.ce),.d (.int .i64 x.ae.b9),.d (.int .i64 x.bi.aV.aY),.d (.lst (x.bi.aV.aG.map (PD.int .i64))),.d (.lst (x.bi.aV.aB.map (PD.int .i64))),.d (.int .i64 x.bi.aQ),.d (.int .i64 x.bi.aL),.d (.int .i64 x.aK)]
@[reducible] def aJ.rc(x:aJ):List RV:=[.d (.int .i64 x.aU.aG.fX),.d (.int .i64 x.aU.aG.fY),.d (.int .i64 x.aU.aG.fZ),.d (.int .i64 x.aU.aB.fX),.d (.int .i64 x.aU.aB.fY),.d (.int .i64 x.aU.aB.fZ),.d (.int .i64 x.bj.aY),.d (.lst (x.bj.aG.map (PD.int .i64))),.d (.lst (x.bj.aB.map (PD.int .i64))),.d (.int .i64 x.gK),.d (.int .i64 x.aK),.d (.int .i64 x.dn),.d (.int .i64 x.ce),.d (.int .i64 x.b9)]
@[reducible] def au.rc(x:au):List RV:=[.d (.int .i64 x.bu),.d (.int .i64 x.aQ.a0),.d (.int .i64 x.aQ.a1),.d (.int .i64 x.aQ.a2),.d (.int .i64 x.aL.a0),.d (.int .i64 x.aL.a1),.d (.int .i64 x.aL.a2),.d (.lst (x.bp.map (PD.int .i64))),.d (.int .i64 x.bc),.d (.int .i64 x.bq)]
@[reducible] def ai.rc(x:ai):List RV:=[.d (.str x.az.aZ),.d (.str x.az.aS),.d (.str x.az.aO),.d (.str x.az.bg),.d (.int .i64 x.br),.d (.int .i64 x.bd),.d (.int .i64 x.bk),.d (.int .i64 x.aN),.d (.int .i64 x.aT)]
@[reducible] def al.rc(x:al):List RV:=[.d (.int .i64 x.bC),.d (.int .i64 x.fTo),.d (.int .i64 x.cm.aQ),.d (.int .i64 x.cm.aL),.d (.int .i64 x.aI.fX),.d (.int .i64 x.aI.fY),.d (.int .i64 x.aI.fZ),.d (.lst (x.ba.aD.map au.pd))]
@[reducible] def aq.rc(x:aq):List RV:=[.d (.int .i64 x.aG.fX),.d (.int .i64 x.aG.fY),.d (.int .i64 x.aG.fZ),.d (.int .i64 x.aB.fX),.d (.int .i64 x.aB.fY),.d (.int .i64 x.aB.fZ)]
@[reducible] def aC.rc(x:aC):List RV:=[.d (.int .i64 x.aS.fX),.d (.int .i64 x.aS.fY),.d (.int .i64 x.aS.fZ),.d (.int .i64 x.bd),.d (.int .i64 x.bk),.d (.int .i64 x.jS)]
@[reducible] def aM.rc(x:aM):List RV:=[.d (.int .i64 x.aV.aY),.d (.lst (x.aV.aG.map (PD.int .i64))),.d (.lst (x.aV.aB.map (PD.int .i64))),.d (.int .i64 x.aQ),.d (.int .i64 x.aL)]
@[reducible] def aj.rc(x:aj):List RV:=[.d (.str x.az.aZ),.d (.str x.az.aS),.d (.str x.az.aO),.d (.str x.az.bg),.d (.lst (x.aH.map al.pd))]
@[reducible] def ak.rc(x:ak):List RV:=[.d (.str x.aZ),.d (.str x.aS),.d (.str x.aO),.d (.str x.bg)]
@[reducible] def ap.rc(x:ap):List RV:=[.d (.int .i64 x.aY),.d (.lst (x.aG.map (PD.int .i64))),.d (.lst (x.aB.map (PD.int .i64)))]
@[reducible] def aa.rc(x:aa):List RV:=[.d (.lst (x.fL.map (PD.int .i64))),.d (.int .i64 x.fAt)]
@[reducible] def ac.rc(x:ac):List RV:=[.d (.int .i64 x.fX),.d (.int .i64 x.fY),.d (.int .i64 x.fZ)]
@[reducible] def ar.rc(x:ar):List RV:=[.d (.lst (x.aQ.map (PD.int .i64))),.d (.lst (x.aL.map (PD.int .i64)))]
@[reducible] def aX.rc(x:aX):List RV:=[.d (.lst (x.fpicks.map ai.pd)),.d (.lst (x.jT.map aC.pd)),.d (.lst (x.fepochs.map al.pd))]
@[reducible] def av.rc(x:av):List RV:=[.d (.int .i64 x.aG),.d (.int .i64 x.aB)]
theorem Z{α:Sort _}{a:α}:a=a:=rfl
theorem Zk{α:Sort _}{a b:α}(h:a=b:=by kernel_rfl):a=b:=h
theorem gU{P:Program}{H:Hints}{ext:FuncId->Option ng}{f:FuncId}{a:Nat}{R:List (Nat×RV)}{B:List (Nat×Box)}{Q:Ex->List (Nat×RV)->List (Nat×Box)->Prop}{id:Nat}{ops:Array Oper}{l:List Oper}{R0:List (Nat×RV)}{B0:List (Nat×Box)}{b:Code}(c:(ops.toList,nA P a (A R B) (H.at_ f a id))=(l,some (A R0 B0)))
    (h:WO P H ext (H.hf f) ops l R0 B0 fun g e _=>WC P H ext f a b g e Q):WC P H ext f a (.seq (.region id ops false) b) R B Q:=gS (congrArg Prod.fst c) (congrArg Prod.snd c) h
theorem mM{P:Program}{H:Hints}{ext:FuncId->Option ng}{mt:Hf}{ops:Array Oper}{l:List Oper}{R:List (Nat×RV)}{B:List (Nat×Box)}{K:List (Nat×RV)->List (Nat×Box)->List Tr->Prop}{d e:Nat}{ty f:TypeId}{p q:String}{a b:Array Edge}{g k:Option (Nat×Bool)}{x y:Operand}{v w:RV}(c:((A R B).opd x,(A ((d,v)::R) B).opd y)=(some v,some w))(h:WO P H ext mt ops l ((e,w)::(d,v)::R) B fun j i ts=>K j i (⟨[],[]⟩::⟨[],[]⟩::ts))(hw:mR ops (A R B) ⟨some d,.move x,ty,p,a,g⟩=some true:=by exact rfl)(hu:mR ops (A ((d,v)::R) B) ⟨some e,.move y,f,q,b,k⟩=some true:=by exact rfl):WO P H ext mt ops (⟨some d,.move x,ty,p,a,g⟩::⟨some e,.move y,f,q,b,k⟩::l) R B K:=
  sM (congrArg Prod.fst c) (sM (congrArg Prod.snd c) h hu) hw
def hintAt:FuncId->Nat->Nat->List uC:=fun f a id=>
  if f=3 then(if a=0 then(if id=7 then [.dw [2,6,8,11,12,13,14,57,58,59] [96,128,192,208,688]]else if id=10 then [.dw [2,6,8,11,12,13,14,16,57,58,59,65,66,67] [96,128,192,208,256,688]]else if id=13 then [.dw [2,6,8,11,12,13,14,16,18,57,58,59,65,66,67,73,74,75] [96,128,192,208,256,288,688]]else if id=16 then [.dw [2,6,8,11,12,13,14,16,18,20,57,58,59,65,66,67,73,74,75,88,89,90] [96,128,192,208,256,288,688]]else if id=23 then [.dw [2,6,8,11,12,13,14,16,18,20,23,25,57,58,59,65,66,67,73,74,75,88,89,90,121,122] [96,128,192,208,256,288,688]]else if id=28 then [.dw [2,6,8,11,12,13,14,16,18,20,57,58,59,65,66,67,73,74,75,88,89,90] [96,128,192,208,256,288,688]]else if id=29 then [.dw [2,6,8,11,12,13,14,16,18,57,58,59,65,66,67,73,74,75] [96,128,192,208,256,288,688]]else if id=30 then [.dw [2,6,8,11,12,13,14,16,57,58,59,65,66,67] [96,128,192,208,256,688]]else if id=31 then [.dw [2,6,8,11,12,13,14,57,58,59] [96,128,192,208,688]]else if id=32 then [.dw [] []]else [])else [])else if f=5 then(if a=0 then(if id=2 then [.dw [1,7,8] [16]]else if id=7 then [.dw [1,3,7,8,25,26] [16]]else if id=12 then [.dw [1,7,8] [16]]else if id=13 then [.dw [1] [16]]else [])else [])else if f=9 then(if a=1 then(if id=3 then [.ownp (.cell 80 0) 1104 66,.dw [0,1,4,5,6] [0,64,80,1104]]else if id=16 then [.dw [4,5] [0,64,80,1104]]else [])else [])else if f=10 then(if a=1 then(if id=4 then [.own 9 2192 83,.dw [0,5,6,9,10,11,12] [0,80,96,160,2192]]else if id=12 then [.dw [0,5,6,9,10,11,12,13,14,16] [0,80,96,160,208,224,2192]]else if id=14 then [.dw [0,5,6,9,10,11,12,13,16] [0,80,96,160,208,2192]]else if id=18 then [.dw [0,5,6,9,10,11,12,13] [0,80,96,160,208,2192]]else if id=21 then [.dw [9] [0,2192]]else [])else [])else if f=14 then(if a=0 then(if id=9 then [.own 10 1072 58,.dw [4,5,7,10,29,30,31] [64,80,112,1072]]else if id=16 then [.dw [10] [1072]]else [])else [])else if f=16 then(if a=0 then(if id=3 then [.dw [3,27,28,29] []]else [])else [])else if f=17 then(if a=0 then(if id=2 then [.dw [1,6,7] [16]]else if id=7 then [.dw [1] [16]]else [])else [])else if f=22 then(if a=1 then(if id=3 then [.dw [2,3,16,17] [0,32,48,96,97]]else if id=7 then [.dw [2,3] [0,32,48,96,97]]else [])else [])else if f=25 then(if a=1 then(if id=3 then [.ownp (.cell 48 0) 1040 114,.dw [0,2,3,4] [0,32,48,1040]]else if id=13 then [.dw [2,3] [0,32,48,1040]]else [])else [])else if f=28 then(if a=0 then(if id=2 then [.dw [2,4,6,13,14,15] [64,96]]else if id=5 then [.dw [2,4,6,9,13,14,15,20,21,22] [64,96,144]]else if id=10 then [.dw [2,4,6,13,14,15] [64,96]]else if id=11 then [.dw [6] [96]]else [])else [])else if f=30 then(if a=1 then(if id=5 then [.frz (.cell 80 1),.frz (.cell 80 2),.dw [4,5] [0,64,80]]else if id=13 then [.frz (.cell 80 1),.dw [4,5] [0,64,80,192]]else if id=15 then [.frz (.cell 80 2),.dw [4,5] [0,64,80,128]]else [])else [])else if f=31 then(if a=0 then(if id=7 then [.ownp (.cell 128 0) 704 83,.ownp (.cell 128 1) 784 131,.ownp (.cell 128 2) 864 74,.dw [3,4,6,8,25,26,27] [48,64,96,128,704,784,864]]else if id=13 then [.dw [6,8] [96,128,704,784,864]]else [])else [])else if f=33 then(if a=0 then(if id=3 then [.own 7 816 58,.dw [3,4,5,7,13,14,15] [48,64,80,816]]else if id=9 then [.dw [7] [816]]else [])else [])else if f=35 then(if a=0 then(if id=2 then [.dw [1,3] [16]]else if id=3 then [.dw [1,3] [16]]else if id=7 then [.dw [1,3,4] [16,64]]else if id=8 then [.dw [1,3,4,5] [16,64]]else if id=12 then [.dw [1] [16]]else [])else [])else if f=37 then(if a=0 then(if id=3 then [.own 7 480 83,.dw [3,4,7,13,14,15] [48,64,480]]else if id=9 then [.dw [7] [480]]else [])else [])else if f=38 then(if a=0 then(if id=5 then [.dw [2,6,8,10] [96,128]]else if id=9 then [.dw [6] [96]]else [])else [])else if f=46 then(if a=0 then(if id=6 then [.dw [2,52,53,54] [32]]else if id=12 then [.dw [] []]else [])else [])else if f=49 then(if a=1 then(if id=4 then [.ownp (.cell 48 1) 432 3,.ownp (.cell 48 2) 512 3,.dw [0,2,3,4,5,6] [0,32,48,432,512]]else if id=9 then [.dw [2,3] [0,32,48,432,512]]else [])else [])else if f=52 then(if a=0 then(if id=2 then [.dw [1,6,7,8] [16]]else if id=7 then [.dw [1] [16]]else [])else [])else if f=67 then(if a=0 then(if id=3 then [.own 3 816 83,.dw [0,3,4] [816]]else if id=6 then [.dw [0,3,4,5] [816]]else if id=8 then [.dw [0,3,4,5] [816]]else if id=9 then [.dw [0,3,4,5] [816]]else if id=12 then [.dw [3] [816]]else [])else [])else if f=69 then(if a=0 then(if id=2 then [.dw [2,3,4,6] [32,48,64]]else if id=6 then [.dw [4] [64]]else [])else [])else if f=70 then(if a=0 then(if id=7 then [.dw [1,2,3,6,8,9] [48,96,128]]else if id=13 then [.dw [6,8] [96,128]]else [])else [])else if f=73 then(if a=0 then(if id=8 then [.dw [0,4,5] []]else if id=11 then [.dw [4] []]else [])else [])else if f=88 then(if a=0 then(if id=6 then [.dw [1,4,5,33,34] [16]]else if id=12 then [.dw [] []]else [])else [])else if f=92 then(if a=0 then(if id=2 then [.dw [0,5,6,7] []]else if id=7 then [.dw [0] []]else [])else [])else if f=97 then(if a=1 then(if id=4 then [.dw [0,3] [0]]else if id=9 then [.dw [0,3,4,5] [0]]else if id=14 then [.dw [0,3] [0]]else if id=16 then [.dw [0] [0]]else [])else [])else if f=105 then(if a=0 then(if id=5 then [.dw [2,7,8,9,28,29] [128,144]]else [])else [])else if f=108 then(if a=0 then(if id=4 then [.dw [1,3] [16]]else if id=10 then [.dw [] []]else [])else [])else if f=109 then(if a=0 then(if id=2 then [.dw [0,1,2,7] []]else if id=6 then [.dw [0,1,2] []]else [])else [])else if f=112 then(if a=0 then(if id=3 then [.dw [1,3,4] [16]]else if id=11 then [.dw [1] [16]]else [])else [])else if f=113 then(if a=0 then(if id=5 then [.dw [41,42] []]else [])else [])else if f=116 then(if a=0 then(if id=3 then [.ownp (.cell 48 0) 816 66,.dw [1,2,3,4] [16,32,48,816]]else if id=7 then [.ownp (.cell 80 4) 720 74,.dw [1,2,3,4,5,6] [16,32,48,80,720,816]]else if id=10 then [.dw [1,2,3,4,5] [16,32,48,80,720,816]]else if id=11 then [.dw [2,3] [32,48,816]]else [])else [])else if f=122 then(if a=0 then(if id=3 then [.dw [0,3,4] []]else if id=8 then [.dw [3] []]else [])else [])else if f=124 then(if a=0 then(if id=2 then [.dw [0,3] []]else if id=5 then [.dw [3] []]else [])else [])else if f=125 then(if a=0 then(if id=3 then [.dw [0,1,5,6] []]else if id=10 then [.dw [0,5] []]else [])else [])else if f=126 then(if a=0 then(if id=2 then [.dw [0,3] []]else if id=6 then [.dw [0] []]else [])else [])else if f=136 then(if a=0 then(if id=2 then [.dw [0,1,2,9,10] []]else if id=7 then [.dw [0,1,2] []]else [])else [])else if f=139 then(if a=0 then(if id=3 then [.dw [3,6,7,8] []]else if id=8 then [.dw [3] []]else [])else [])else if f=145 then(if a=0 then(if id=2 then [.dw [3,4,9,10,11] [48,64]]else if id=7 then [.dw [4] [64]]else [])else [])else if f=146 then(if a=0 then(if id=2 then [.dw [1,4,9,10,11] [64]]else if id=7 then [.dw [4] [64]]else [])else [])else if f=147 then(if a=0 then(if id=7 then [.dw [1,2,6,8,31,32,33] [96,128]]else if id=17 then [.dw [6,8] [96,128]]else [])else [])else if f=152 then(if a=2 then(if id=2 then [.dw [1,5,6] [0,1]]else if id=7 then [.dw [5] [0,1]]else [])else [])else if f=154 then(if a=0 then(if id=5 then [.dw [0,3,4] []]else if id=10 then [.dw [3] []]else [])else [])else if f=156 then(if a=0 then(if id=1 then [.dw [0,1] []]else if id=3 then [.dw [0] []]else [])else [])else if f=157 then(if a=0 then(if id=6 then [.fixv 16,.dw [1,3] []]else [])else [])else if f=161 then(if a=0 then(if id=3 then [.dw [0,3,4] []]else if id=6 then [.dw [3] []]else [])else [])else if f=184 then(if a=0 then(if id=4 then [.dw [0,2] []]else if id=7 then [.dw [0,2] []]else [])else [])else if f=186 then(if a=0 then(if id=3 then [.dw [1,2,10,11,12] [16,32,112]]else if id=7 then [.dw [1,2] [16,32,112]]else [])else [])else if f=191 then(if a=0 then(if id=9 then [.dw [0,1,5,6] []]else [])else [])else if f=192 then(if a=0 then(if id=2 then [.dw [0,3] []]else if id=6 then [.dw [] []]else [])else [])else if f=193 then(if a=0 then(if id=3 then [.ownp (.cell 48 0) 416 114,.dw [1,2,3,4] [16,32,48,416]]else if id=8 then [.dw [2,3] [32,48,416]]else [])else [])else if f=194 then(if a=0 then(if id=4 then [.own 4 208 3,.dw [0,4] [208]]else if id=7 then [.dw [4] [208]]else [])else [])else if f=195 then(if a=0 then(if id=6 then [.own 6 912 3,.dw [0,1,6,7,8] [912]]else if id=8 then [.dw [0,1,6,7,8] [912]]else if id=10 then [.dw [0,1,6,7,8] [912]]else if id=12 then [.dw [0,1,6,7,8] [912]]else if id=14 then [.dw [6] [912]]else [])else [])else if f=197 then(if a=0 then(if id=3 then [.dw [0,1,5,6] [224]]else if id=4 then [.dw [0,1,5,6] [224]]else if id=7 then [.dw [0,1,5,6,7,8] [224]]else if id=9 then [.dw [0,1,5,6,7,8] [224]]else if id=12 then [.dw [0,1,5,6,7,8] [224]]else if id=14 then [.dw [5] [224]]else [])else [])else if f=217 then(if a=0 then(if id=1 then [.dw [0,1] []]else if id=3 then [.dw [0] []]else [])else [])else if f=220 then(if a=0 then(if id=6 then [.fixv 16,.dw [1,3] []]else [])else [])else if f=221 then(if a=0 then(if id=3 then [.dw [3,6,7,8] []]else if id=10 then [.dw [3] []]else [])else [])else if f=228 then(if a=0 then(if id=3 then [.dw [1,2,13,14] [16,32,112]]else if id=7 then [.dw [1,2] [16,32,112]]else [])else [])else if f=231 then(if a=0 then(if id=3 then [.dw [3,6,7,8] []]else if id=7 then [.dw [3] []]else [])else [])else if f=234 then(if a=0 then(if id=3 then [.dw [1,5,16,17,18] [240]]else if id=7 then [.dw [1,5,6,7,8,16,17,18,25,26] [240]]else if id=14 then [.dw [1,5,16,17,18] [240]]else if id=15 then [.dw [5] [240]]else [])else [])else if f=237 then(if a=0 then(if id=1 then [.dw [0] []]else if id=3 then [.dw [0] []]else [])else [])else if f=244 then(if a=0 then(if id=2 then [.dw [0,1,7,8] []]else if id=7 then [.dw [] []]else [])else [])else if f=248 then(if a=0 then(if id=4 then [.own 4 240 3,.dw [0,4] [240]]else if id=7 then [.dw [4] [240]]else [])else [])else if f=250 then(if a=0 then(if id=6 then [.own 6 560 3,.dw [0,1,6,7,18,19] [560]]else if id=12 then [.dw [6] [560]]else [])else [])else if f=251 then(if a=0 then(if id=1 then [.dw [0] []]else if id=3 then [.dw [0] []]else [])else [])else if f=253 then(if a=0 then(if id=2 then [.dw [0,1,7,8] []]else if id=7 then [.dw [] []]else [])else [])else if f=260 then(if a=0 then(if id=2 then [.dw [0,1,7,8] []]else if id=7 then [.dw [] []]else [])else [])else []
def aF:Hints:={ at_:=hintAt,mt:=fun f i=>(f==9&&i==28)||(f==30&&i==8)||(f==30&&i==12),by_:=fun f i=>(f==95&&i==0)||(f==97&&i==0),own:=fun f i=>(f==49&&i==0)||(f==80&&i==0)||(f==94&&i==0)||(f==186&&i==0)||(f==227&&i==0)||(f==247&&i==0) }
@[reducible] def gI(a f id:Nat)(R:List (Nat×RV))(B:List (Nat×Box))(c:List (Nat×RV))(b:List (Nat×Box)):Prop:=nA prog a (A c b) (aF.at_ f a id)=some (A R B)
@[reducible] def gX(x c f id:Nat)(R:List (Nat×RV))(B:List (Nat×Box))(e:Ex)(b:List (Nat×RV))(a:List (Nat×Box)):Prop:=e= .exit x∧gI c f id R B b a
@[reducible] def gF(f:Nat)(fn:Func)(c:Nat)(x:RV×List Box)(e:Ex)(b:List (Nat×RV))(a:List (Nat×Box)):Prop:=e= .ret∧finish prog (aF.own f) fn c (A b a)=some x
theorem eqN_58(a b:av):tF prog .neq 58 (.d a.pd) (.d b.pd)=some (.bool (!((a.aG==b.aG)&&((a.aB==b.aB)&&true))),true):=by kernel_rfl
theorem eqE_63(a b:ak):tF prog .eql 63 (.d a.pd) (.d b.pd)=some (.bool ((a.aZ==b.aZ)&&((a.aS==b.aS)&&((a.aO==b.aO)&&((a.bg==b.bg)&&true)))),true):=by kernel_rfl
theorem eqE_83(a b:ai):tF prog .eql 83 (.d a.pd) (.d b.pd)=some (.bool (((a.az.aZ==b.az.aZ)&&((a.az.aS==b.az.aS)&&((a.az.aO==b.az.aO)&&((a.az.bg==b.az.bg)&&true))))&&((a.br==b.br)&&((a.bd==b.bd)&&((a.bk==b.bk)&&((a.aN==b.aN)&&((a.aT==b.aT)&&true)))))),true):=by kernel_rfl
theorem eqN_83(a b:ai):tF prog .neq 83 (.d a.pd) (.d b.pd)=some (.bool (!(((a.az.aZ==b.az.aZ)&&((a.az.aS==b.az.aS)&&((a.az.aO==b.az.aO)&&((a.az.bg==b.az.bg)&&true))))&&((a.br==b.br)&&((a.bd==b.bd)&&((a.bk==b.bk)&&((a.aN==b.aN)&&((a.aT==b.aT)&&true))))))),true):=by kernel_rfl
theorem cQ(a b:aP):tF prog .eql 112 (.d a.pd) (.d b.pd)=some (.bool ((a.a0==b.a0)&&((a.a1==b.a1)&&((a.a2==b.a2)&&true))),true):=by kernel_rfl
theorem T_api_Pick_inj:∀x y:ai,x.pd=y.pd->x=y:=by
  rintro⟨⟨j,z2,z3,z4⟩,z5,k,l,m,z9⟩ ⟨⟨a,b,z12,c⟩,e,f,g,z17,i⟩ h
  cases h;rfl
def ext0:FuncId->Option ng:=fun _=>none
theorem hZ{a0:(List UInt8)}{r:Bool}(h:dW a0=some r):EvP prog aF ext0 174 [rS a0] [] (rB r,[]):=by
 refine Ev.body Z Tryz.func174 Z Zk<|gU Z<|sU<|sN<|gU Z<|mM Z<|sV (rB (!(a0==a0)))<|sA Z<|sN<|qR ?_
 exact oI h▸qD
theorem dc{a0:(List UInt8)}{a1:(List UInt8)}{r:Int}(h:bW a0 a1=some r):EvP prog aF ext0 140 [rS a0,rS a1] [] (rI r,[]):=by
 refine Ev.body Z Tryz.func140 Z Zk<|gU Z<|sV (r0)<|sN<|gU Z<|sM Z<|bE h fun b h1 h=>cD (hZ h1)<|sA Z<|sN<|gU Z<|sM Z<|bE h fun c a h=>cD (hZ a)<|sA Z ?_
 refine sN<|qS<|gU Z<|sF h ?_ ?_<;>intro h
 ·refine sN<|cT<|qS<|gU Z<|sF h ?_ ?_<;>intro h
  ·refine sN<|cT<|gU Z<|sV (r0)<|sN<|qR ?_
   exact oI h▸qD
  refine sN<|cF<|qK<|gU Z<|sV (rI (-1))<|sN<|qR ?_
  exact oI h▸qD
 refine sN<|cF<|qK<|qS<|gU Z<|sF h ?_ ?_<;>intro h
 ·refine sN<|cT<|gU Z<|sV (rI 1)<|sN<|qR ?_
  exact oI h▸qD
 refine sN<|cF<|qK<|qS<|gU Z<|mM Z<|sF h ?_ ?_<;>intro h
 ·refine sN<|cT<|gU Z<|sV (rI (-1))<|sN<|qR ?_
  exact oI h▸qD
 refine sN<|cF<|qK<|qS<|gU Z<|mM Z<|sF h ?_ ?_<;>intro h
 ·refine sN<|cT<|gU Z<|sV (rI 1)<|sN<|qR ?_
  exact oI h▸qD
 refine sN<|cF<|qK<|gU Z<|sV (r0)<|sN<|qR ?_
 exact oI h▸qD
theorem kK{a0:(List Int)}{r:Int}(h:f7 a0=some r):EvP prog aF ext0 139 [rL a0] [] (rI r,[]):=by
 refine Ev.body Z Tryz.func139 Z Zk<|gU Z<|sV (r0)<|sN<|gU Z<|sV (r0)<|sN<|qS<|gU Z<|sM Z<|sE (rI (a0.length:Int)) (mE _ _)<|sV (r0)<|sN<|bE h fun j b h=>CI (CL (WL.mL b (fun s=>gI 0 139 3 [(3,r0),(6,rL a0),(7,rI (a0.length:Int)),(8,rI s)] []) (fun o=>match o with| .inl y=>gX 0 0 139 8 [(3,r0)] []| .inr r=>gF 139 Tryz.f139 0 (rI r,[])) Z ?_ ?_))
 ·rintro s1 g f k a h
  refine gS Z a<|sF h ?_ ?_<;>intro h
  ·refine sN<|qS<|cT<|qK<|qS<|qB<|gU Z<|bE h fun m i h=>eG i Z<|sC Z<|sA Z<|sN<|gU Z<|sM Z<|sM Z ?_
   refine sF h ?_ ?_<;>intro h
   ·refine sN<|cT<|gU Z<|sM Z<|sA Z<|sN<|qR ?_
    cases oI h
    exact⟨nofun,rfl,rfl⟩
   refine sN<|cF<|qK<|CO Z Z<|sV (rI (rW (s1+(1:Int))))<|sM Z<|sN ?_
   cases oI h
   exact⟨rfl,rfl⟩
  refine sN<|qS<|cF<|qX ?_
  cases oI h
  exact⟨nofun,rfl,rfl⟩
 intro e g f he c
 rcases j with n|l
 ·obtain⟨rfl,a⟩:=c
  refine qE<|gS Z a<|sM Z<|sA Z<|sN<|qR ?_
  exact oI h▸qD
 obtain⟨rfl,hf⟩:=c
 cases oI h
 exact hf
theorem mb{a0:ak}{a1:ak}{r:Int}(h:ed a0 a1=some r):EvP prog aF ext0 93 [.d (ak.pd a0),.d (ak.pd a1)] [] (rI r,[]):=by
 refine Ev.body Z Tryz.func93 Z Zk<|gU Z<|sB (.ptr 32 0) 32 (.var (ak.rc a0))<|sB (.ptr 48 0) 48 (.var (ak.rc a1))<|sV (r0)<|sN<|CJ Z Z<|sV (.ptr 32 0)<|sL Z<|sV (.ptr 48 0)<|sL Z<|bE h fun f h1 h=>cD (dc h1)<|sV (.ptr 32 1)<|sL Z ?_
 refine sV (.ptr 48 1)<|sL Z<|bE h fun g a h=>cD (dc a)<|sV (.ptr 32 2)<|sL Z<|sV (.ptr 48 2)<|sL Z<|bE h fun i b h=>cD (dc b)<|sV (.ptr 32 3)<|sL Z<|sV (.ptr 48 3)<|sL Z<|bE h fun j c h=>?_
 refine cD (dc c)<|sV (.d (.lst ([f,g,i,j].map (PD.int .i64))))<|bE h fun k e h=>cD (kK e)<|sA Z ?_
 refine sN<|sO<|qR ?_
 exact oI h▸qD
theorem jh{a0:Int}{r:Bool}(h:fA a0=some r):EvP prog aF ext0 185 [rI a0] [] (rB r,[]):=by
 refine Ev.body Z Tryz.func185 Z Zk<|gU Z<|sU<|sN<|gU Z<|mM Z<|sV (rB (a0 != a0))<|sA Z<|sN<|qR ?_
 exact oI h▸qD
theorem cY{a0:Int}{a1:Int}{r:Int}(h:ch a0 a1=some r):EvP prog aF ext0 143 [rI a0,rI a1] [] (rI r,[]):=by
 refine Ev.body Z Tryz.func143 Z Zk<|gU Z<|sV (r0)<|sN<|gU Z<|sM Z<|bE h fun b h1 h=>cD (jh h1)<|sA Z<|sN<|gU Z<|sM Z<|bE h fun c a h=>cD (jh a)<|sA Z ?_
 refine sN<|qS<|gU Z<|sF h ?_ ?_<;>intro h
 ·refine sN<|cT<|qS<|gU Z<|sF h ?_ ?_<;>intro h
  ·refine sN<|cT<|gU Z<|sV (r0)<|sN<|qR ?_
   exact oI h▸qD
  refine sN<|cF<|qK<|gU Z<|sV (rI (-1))<|sN<|qR ?_
  exact oI h▸qD
 refine sN<|cF<|qK<|qS<|gU Z<|sF h ?_ ?_<;>intro h
 ·refine sN<|cT<|gU Z<|sV (rI 1)<|sN<|qR ?_
  exact oI h▸qD
 refine sN<|cF<|qK<|qS<|gU Z<|mM Z<|sF h ?_ ?_<;>intro h
 ·refine sN<|cT<|gU Z<|sV (rI (-1))<|sN<|qR ?_
  exact oI h▸qD
 refine sN<|cF<|qK<|qS<|gU Z<|mM Z<|sF h ?_ ?_<;>intro h
 ·refine sN<|cT<|gU Z<|sV (rI 1)<|sN<|qR ?_
  exact oI h▸qD
 refine sN<|cF<|qK<|gU Z<|sV (r0)<|sN<|qR ?_
 exact oI h▸qD
theorem lY{a0:ai}{a1:ai}{r:Int}(h:bS a0 a1=some r):EvP prog aF ext0 96 [.d (ai.pd a0),.d (ai.pd a1)] [] (rI r,[]):=by
 refine Ev.body Z Tryz.func96 Z Zk<|gU Z<|sB (.ptr 32 0) 32 (.var (ai.rc a0))<|sB (.ptr 48 0) 48 (.var (ai.rc a1))<|sV (r0)<|sN<|CJ Z Z<|sV (.ptr 32 0)<|sV (.d (ak.pd a0.az))<|sV (.ptr 48 0)<|sV (.d (ak.pd a1.az))<|bE h fun i h1 h=>cD (mb h1)<|sV (.ptr 32 4)<|sL Z ?_
 refine sV (.ptr 48 4)<|sL Z<|bE h fun j a h=>cD (cY a)<|sV (.ptr 32 5)<|sL Z<|sV (.ptr 48 5)<|sL Z<|bE h fun k b h=>cD (cY b)<|sV (.ptr 32 6)<|sL Z<|sV (.ptr 48 6)<|sL Z<|bE h fun l c h=>?_
 refine cD (cY c)<|sV (.ptr 32 7)<|sL Z<|sV (.ptr 48 7)<|sL Z<|bE h fun m e h=>cD (cY e)<|sV (.ptr 32 8)<|sL Z<|sV (.ptr 48 8)<|sL Z<|bE h fun n f h=>cD (cY f)<|sV (.d (.lst ([i,j,k,l,m,n].map (PD.int .i64))))<|bE h fun o g h=>?_
 refine cD (kK g)<|sA Z ?_
 refine sN<|sO<|qR ?_
 cases oI h
 exact qG
noncomputable def ext:FuncId->Option ng:=fun f=>if f=95 then some (xZ 96 83 ai.pd bS)else if f=94 then some (pJ 83 9 104)else if f=227 then some (pJ 74 8 80)else if f=247 then some (pJ 114 10 96)else if f=80 then some (pJ 3 1 8)else if f=6 then some (wU (rB true))else none
theorem sort_95_96{l r:List ai}(h:sY bS l=some r):EvP prog aF ext 95 [.ref 0 0,.d (.raw (.func (.func 96) #[] #[]))] [.arr 0 83 (l.map ai.pd)] (.tup [],[.arr 0 83 (r.map ai.pd)]):=sort_ev rfl (sortD_of T_api_Pick_inj h)
theorem mh{r:Bool}(h:ln=some r):EvP prog aF ext 6 [] [] (rB r,[]):=by cases h;exact Ev.lib (g:=wU (rB true)) rfl rfl
theorem clone_94{l r:List ai}(h:oU 104 l=some r):EvP prog aF ext 94 [rM ai.pd l] [] (.ref 0 0,[.arr 0 83 (r.map ai.pd)]):=tJ (g:=ai.pd) rfl (fun _=>rfl) h
theorem clone_227{l r:List al}(h:oU 80 l=some r):EvP prog aF ext 227 [rM al.pd l] [] (.ref 0 0,[.arr 0 74 (r.map al.pd)]):=tJ (g:=al.pd) rfl (fun _=>rfl) h
theorem clone_247{l r:List au}(h:oU 96 l=some r):EvP prog aF ext 247 [rM au.pd l] [] (.ref 0 0,[.arr 0 114 (r.map au.pd)]):=tJ (g:=au.pd) rfl (fun _=>rfl) h
theorem clone_80{l r:List Int}(h:oU 8 l=some r):EvP prog aF ext 80 [rL l] [] (.ref 0 0,[.arr 0 3 (r.map (PD.int .i64))]):=tJ (g:=(PD.int .i64)) rfl (fun _=>rfl) h
theorem f9{a0:ap}{r:Bool}(h:eE a0=some r):EvP prog aF ext 15 [.d (ap.pd a0)] [] (rB r,[]):=by
 refine Ev.body Z Tryz.func15 Z Zk<|gU Z<|sB (.ptr 16 0) 16 (.var (ap.rc a0))<|sU<|sN<|gU Z<|sV (.ptr 16 1)<|sL Z<|sE (rI (a0.aG.length:Int)) (mE _ _)<|sF h ?_ ?_<;>intro h
 ·refine sM Z<|sV (.ptr 16 2)<|sL Z<|sE (rI (a0.aB.length:Int)) (mE _ _)<|sV (rB (decide ((a0.aB.length:Int)<=(300:Int))))<|sV (rB (decide ((a0.aB.length:Int)<=(300:Int))))<|sA Z<|sN<|qR ?_
  exact oI h▸qD
 refine sM Z<|k3<|sK<|sU<|sA Z<|sN<|qR ?_
 exact oI h▸qD
theorem keep_Volume_ev{a0:aq}{r:Int}(h:jj a0=some r):EvP prog aF ext 16 [.d (aq.pd a0)] [] (rI r,[]):=by
 refine Ev.body Z Tryz.func16 Z Zk<|gU Z<|sB (.ptr 16 0) 16 (.var (aq.rc a0))<|sV (r0)<|sN<|gU Z<|sV (rI 1)<|sN<|qS<|gU Z<|sV (.ptr 16 0)<|sV (.ptr 16 0)<|sL Z<|sV (.ptr 16 3)<|sV (.ptr 16 3) ?_
 refine sL Z<|sV (.d (aW.pd (aW.mk a0.aG.fX a0.aB.fX)))<|sV (.ptr 16 0)<|sV (.ptr 16 1)<|sL Z<|sV (.ptr 16 3)<|sV (.ptr 16 4)<|sL Z<|sV (.d (aW.pd (aW.mk a0.aG.fY a0.aB.fY)))<|sV (.ptr 16 0)<|sV (.ptr 16 2)<|sL Z<|sV (.ptr 16 3)<|sV (.ptr 16 5)<|sL Z ?_
 refine sV (.d (aW.pd (aW.mk a0.aG.fZ a0.aB.fZ)))<|sV (.d (.lst ([(aW.mk a0.aG.fX a0.aB.fX),(aW.mk a0.aG.fY a0.aB.fY),(aW.mk a0.aG.fZ a0.aB.fZ)].map aW.pd)))<|sV (rI 3)<|sV (r0)<|sN<|CI (CL ?_)
 refine WL.round<|CM (R0:=[(3,rI 1),(27,.d (.lst ([(aW.mk a0.aG.fX a0.aB.fX),(aW.mk a0.aG.fY a0.aB.fY),(aW.mk a0.aG.fZ a0.aB.fZ)].map aW.pd))),(28,rI 3),(29,r0)]) (B0:=[]) Z Z<|sT<|sN<|qS<|cT<|qK<|qS<|qB<|gU Z<|sV (.cptr [.int .i64 a0.aG.fX,.int .i64 a0.aB.fX])<|sV (.d (aW.pd (aW.mk a0.aG.fX a0.aB.fX)))<|sB (.ptr 80 0) 80 (.var [r0,r0])<|sS 80 (.var [rI a0.aG.fX,rI a0.aB.fX])<|sN ?_
 refine qS<|gU Z<|sV (.ptr 80 0)<|sL Z<|sV (.ptr 80 1)<|sL Z<|sF h ?_ ?_<;>intro h
 ·refine sM Z<|k3<|sT<|sM Z<|k3<|sT<|sN<|cT<|gU Z<|sV (r0)<|sN ?_
  refine qR ?_
  exact oI h▸qD
 refine sM Z<|sV (.ptr 80 0)<|sL Z<|sV (rB (decide (a0.aG.fX<(-1048576:Int))))<|sF h ?_ ?_<;>intro h
 ·refine sM Z<|k3<|sT<|sN<|cT<|gU Z<|sV (r0)<|sN<|qR ?_
  exact oI h▸qD
 refine sM Z<|sV (.ptr 80 1)<|sL Z<|sV (rB (decide (a0.aB.fX>(1048576:Int))))<|sF h ?_ ?_<;>intro h
 ·refine sN<|cT<|gU Z<|sV (r0)<|sN<|qR ?_
  exact oI h▸qD
 refine sN<|cF<|qK<|qS<|gU Z<|sV (.ptr 80 1)<|sL Z<|sV (.ptr 80 0)<|sL Z<|sV (rI (rW (a0.aB.fX-a0.aG.fX)))<|sF h ?_ ?_<;>intro h
 ·refine sN<|cT<|gU Z<|sV (rI 1000)<|sN<|qR ?_
  exact oI h▸qD
 refine sN<|cF<|qK<|CO Z Z<|sM Z<|sV (.ptr 80 1)<|sL Z<|sV (.ptr 80 0)<|sL Z<|sV (rI (rW (a0.aB.fX-a0.aG.fX)))<|sV (rI (rW ((rW (a0.aB.fX-a0.aG.fX))+(1:Int))))<|sV (rI (rW ((1:Int)*(rW ((rW (a0.aB.fX-a0.aG.fX))+(1:Int))))))<|sA Z<|sN<|CO Z Z ?_
 refine sV (rI 1)<|sM Z<|sN<|WL.round<|CM (R0:=[(3,rI (rW ((1:Int)*(rW ((rW (a0.aB.fX-a0.aG.fX))+(1:Int)))))),(27,.d (.lst ([(aW.mk a0.aG.fX a0.aB.fX),(aW.mk a0.aG.fY a0.aB.fY),(aW.mk a0.aG.fZ a0.aB.fZ)].map aW.pd))),(28,rI 3),(29,rI 1)]) (B0:=[]) Z Z<|sT<|sN<|qS<|cT<|qK<|qS<|qB<|gU Z<|sV (.cptr [.int .i64 a0.aG.fY,.int .i64 a0.aB.fY])<|sV (.d (aW.pd (aW.mk a0.aG.fY a0.aB.fY))) ?_
 refine sB (.ptr 80 0) 80 (.var [r0,r0])<|sS 80 (.var [rI a0.aG.fY,rI a0.aB.fY])<|sN<|qS<|gU Z<|sV (.ptr 80 0)<|sL Z<|sV (.ptr 80 1)<|sL Z<|sF h ?_ ?_<;>intro h
 ·refine sM Z<|k3<|sT<|sM Z<|k3<|sT<|sN<|cT<|gU Z<|sV (r0)<|sN ?_
  refine qR ?_
  exact oI h▸qD
 refine sM Z<|sV (.ptr 80 0)<|sL Z<|sV (rB (decide (a0.aG.fY<(-1048576:Int))))<|sF h ?_ ?_<;>intro h
 ·refine sM Z<|k3<|sT<|sN<|cT<|gU Z<|sV (r0)<|sN<|qR ?_
  exact oI h▸qD
 refine sM Z<|sV (.ptr 80 1)<|sL Z<|sV (rB (decide (a0.aB.fY>(1048576:Int))))<|sF h ?_ ?_<;>intro h
 ·refine sN<|cT<|gU Z<|sV (r0)<|sN<|qR ?_
  exact oI h▸qD
 refine sN<|cF<|qK<|qS<|gU Z<|sV (.ptr 80 1)<|sL Z<|sV (.ptr 80 0)<|sL Z<|sV (rI (rW (a0.aB.fY-a0.aG.fY)))<|sF h ?_ ?_<;>intro h
 ·refine sN<|cT<|gU Z<|sV (rI 1000)<|sN<|qR ?_
  exact oI h▸qD
 refine sN<|cF<|qK<|CO Z Z<|sM Z<|sV (.ptr 80 1)<|sL Z<|sV (.ptr 80 0)<|sL Z<|sV (rI (rW (a0.aB.fY-a0.aG.fY)))<|sV (rI (rW ((rW (a0.aB.fY-a0.aG.fY))+(1:Int))))<|sV (rI (rW ((rW ((1:Int)*(rW ((rW (a0.aB.fX-a0.aG.fX))+(1:Int)))))*(rW ((rW (a0.aB.fY-a0.aG.fY))+(1:Int))))))<|sA Z<|sN<|CO Z Z ?_
 refine sV (rI 2)<|sM Z<|sN<|WL.round<|CM (R0:=[(3,rI (rW ((rW ((1:Int)*(rW ((rW (a0.aB.fX-a0.aG.fX))+(1:Int)))))*(rW ((rW (a0.aB.fY-a0.aG.fY))+(1:Int)))))),(27,.d (.lst ([(aW.mk a0.aG.fX a0.aB.fX),(aW.mk a0.aG.fY a0.aB.fY),(aW.mk a0.aG.fZ a0.aB.fZ)].map aW.pd))),(28,rI 3),(29,rI 2)]) (B0:=[]) Z Z<|sT<|sN<|qS<|cT<|qK<|qS<|qB<|gU Z<|sV (.cptr [.int .i64 a0.aG.fZ,.int .i64 a0.aB.fZ])<|sV (.d (aW.pd (aW.mk a0.aG.fZ a0.aB.fZ))) ?_
 refine sB (.ptr 80 0) 80 (.var [r0,r0])<|sS 80 (.var [rI a0.aG.fZ,rI a0.aB.fZ])<|sN<|qS<|gU Z<|sV (.ptr 80 0)<|sL Z<|sV (.ptr 80 1)<|sL Z<|sF h ?_ ?_<;>intro h
 ·refine sM Z<|k3<|sT<|sM Z<|k3<|sT<|sN<|cT<|gU Z<|sV (r0)<|sN ?_
  refine qR ?_
  exact oI h▸qD
 refine sM Z<|sV (.ptr 80 0)<|sL Z<|sV (rB (decide (a0.aG.fZ<(-1048576:Int))))<|sF h ?_ ?_<;>intro h
 ·refine sM Z<|k3<|sT<|sN<|cT<|gU Z<|sV (r0)<|sN<|qR ?_
  exact oI h▸qD
 refine sM Z<|sV (.ptr 80 1)<|sL Z<|sV (rB (decide (a0.aB.fZ>(1048576:Int))))<|sF h ?_ ?_<;>intro h
 ·refine sN<|cT<|gU Z<|sV (r0)<|sN<|qR ?_
  exact oI h▸qD
 refine sN<|cF<|qK<|qS<|gU Z<|sV (.ptr 80 1)<|sL Z<|sV (.ptr 80 0)<|sL Z<|sV (rI (rW (a0.aB.fZ-a0.aG.fZ)))<|sF h ?_ ?_<;>intro h
 ·refine sN<|cT<|gU Z<|sV (rI 1000)<|sN<|qR ?_
  exact oI h▸qD
 refine sN<|cF<|qK<|CO Z Z<|sM Z<|sV (.ptr 80 1)<|sL Z<|sV (.ptr 80 0)<|sL Z<|sV (rI (rW (a0.aB.fZ-a0.aG.fZ)))<|sV (rI (rW ((rW (a0.aB.fZ-a0.aG.fZ))+(1:Int))))<|sV (rI (rW ((rW ((rW ((1:Int)*(rW ((rW (a0.aB.fX-a0.aG.fX))+(1:Int)))))*(rW ((rW (a0.aB.fY-a0.aG.fY))+(1:Int)))))*(rW ((rW (a0.aB.fZ-a0.aG.fZ))+(1:Int))))))<|sA Z<|sN<|CO Z Z ?_
 refine sV (rI 3)<|sM Z<|sN<|WL.round<|CM (R0:=[(3,rI (rW ((rW ((rW ((1:Int)*(rW ((rW (a0.aB.fX-a0.aG.fX))+(1:Int)))))*(rW ((rW (a0.aB.fY-a0.aG.fY))+(1:Int)))))*(rW ((rW (a0.aB.fZ-a0.aG.fZ))+(1:Int)))))),(27,.d (.lst ([(aW.mk a0.aG.fX a0.aB.fX),(aW.mk a0.aG.fY a0.aB.fY),(aW.mk a0.aG.fZ a0.aB.fZ)].map aW.pd))),(28,rI 3),(29,rI 3)]) (B0:=[]) Z Z<|sU<|sN<|qS<|cF<|qX<|qE<|gU Z<|sM Z<|sV (rI (if(1000:Int)<(rW ((rW ((rW ((1:Int)*(rW ((rW (a0.aB.fX-a0.aG.fX))+(1:Int)))))*(rW ((rW (a0.aB.fY-a0.aG.fY))+(1:Int)))))*(rW ((rW (a0.aB.fZ-a0.aG.fZ))+(1:Int)))))then(1000:Int)else(rW ((rW ((rW ((1:Int)*(rW ((rW (a0.aB.fX-a0.aG.fX))+(1:Int)))))*(rW ((rW (a0.aB.fY-a0.aG.fY))+(1:Int)))))*(rW ((rW (a0.aB.fZ-a0.aG.fZ))+(1:Int)))))))<|sA Z ?_
 refine sN<|qR ?_
 exact oI h▸qD
theorem kE{a0:ag}{r:Bool}(h:ey a0=some r):EvP prog aF ext 4 [.d (ag.pd a0)] [] (rB r,[]):=by
 refine Ev.body Z Tryz.func4 Z Zk<|gU Z<|sB (.ptr 16 0) 16 (.var (ag.rc a0))<|sU<|sN<|gU Z<|sV (.ptr 16 0)<|sV (.ptr 16 6)<|sV (.d (ap.pd a0.ae.bj))<|bE h fun g h1 h=>na h (fun a h=>?_) (fun a h=>?_)
 ·refine WO.nL (v:=rB true) (u:=[]) Z Z (fun _=>Z) Z Z Z Z Z (f9 h1) Z Z (congrArg (fun b=>RV.d (.bool b)) a) Z<|sM Z<|sV (.ptr 16 14)<|sV (.ptr 16 14)<|sV (.d (ap.pd a0.bi.aV))<|bE h fun i e h=>cD (f9 e)<|sF h ?_ ?_<;>intro h
  ·refine sM Z<|sV (.ptr 16 0)<|sV (.ptr 16 0)<|sV (.d (aq.pd a0.ae.aU))<|bE h fun c f h=>cD (keep_Volume_ev f)<|sV (rB (decide (c<(300:Int))))<|sV (rB (decide (c<(300:Int))))<|sA Z<|sN<|qR ?_
   cases oI h
   exact qG
  refine sM Z<|k3<|sK<|sK<|sU<|sA Z<|sN<|qR ?_
  cases oI h
  exact qG
 refine WO.nL (v:=rB false) (u:=[]) Z Z (fun _=>Z) Z Z Z Z Z (f9 h1) Z Z (congrArg (fun b=>RV.d (.bool b)) a) Z<|sM Z<|k3<|sK<|sU<|sM Z<|k3<|sK<|sK<|sU<|sA Z ?_
 refine sN<|qR ?_
 cases oI h
 exact qG
theorem kD{a0:aA}{r:Bool}(h:ex a0=some r):EvP prog aF ext 17 [.d (aA.pd a0)] [] (rB r,[]):=by
 refine Ev.body Z Tryz.func17 Z Zk<|gU Z<|sB (.ptr 16 0) 16 (.var [rM au.pd a0.aD])<|sU<|sN<|qS<|gU Z<|sV (.ptr 16 0)<|sL Z<|sE (rI (a0.aD.length:Int)) (mE _ _)<|sV (r0)<|sN<|bE h fun k c h=>CI (CL (WL.mL c (fun s=>gI 0 17 2 [(1,.ptr 16 0),(6,rI (a0.aD.length:Int)),(7,rI s)] [(16,.var [rM au.pd a0.aD])]) (fun o=>match o with| .inl y=>gX 0 0 17 7 [(1,.ptr 16 0)] [(16,.var [rM au.pd a0.aD])]| .inr r=>gF 17 Tryz.f17 0 (rB r,[])) Z ?_ ?_))
 ·rintro s1 i g l b h
  refine gS Z b<|sF h ?_ ?_<;>intro h
  ·refine sN<|qS<|cT<|qK<|qS<|qB<|gU Z<|sM Z<|sA Z<|sN<|gU Z<|sV (.ptr 16 0)<|sL Z<|sM Z<|bE h fun a j h=>?_
   refine eG j Z<|sV (.cptr [.lst (a.bp.map (PD.int .i64)),.int .i64 a.bc,.int .i64 a.bq])<|sC Z<|sE (rI (a.bp.length:Int)) (mE _ _)<|sF h ?_ ?_<;>intro h
   ·refine sN<|cT<|gU Z<|sU<|sN<|qR ?_
    cases oI h
    exact⟨nofun,rfl,rfl⟩
   refine sN<|cF<|qK<|CO Z Z<|sV (rI (rW (s1+(1:Int))))<|sM Z<|sN ?_
   cases oI h
   exact⟨rfl,rfl⟩
  refine sN<|qS<|cF<|qX ?_
  cases oI h
  exact⟨nofun,rfl,rfl⟩
 intro e i g he f
 rcases k with n|m
 ·obtain⟨rfl,b⟩:=f
  refine qE<|gS Z b<|sV (.ptr 16 0)<|sL Z<|sE (rI (a0.aD.length:Int)) (mE _ _)<|sV (rB (decide ((a0.aD.length:Int)<=(12:Int))))<|sA Z<|sN<|qR ?_
  exact oI h▸qD
 obtain⟨rfl,hf⟩:=f
 cases oI h
 exact hf
theorem jV{a0:ah}{r:Bool}(h:dT a0=some r):EvP prog aF ext 5 [.d (ah.pd a0)] [] (rB r,[]):=by
 refine Ev.body Z Tryz.func5 Z Zk<|gU Z<|sB (.ptr 16 0) 16 (.var [rM aj.pd a0.aw])<|sU<|sN<|qS<|gU Z<|sV (.ptr 16 0)<|sL Z<|sE (rI (a0.aw.length:Int)) (mE _ _)<|sV (r0)<|sN<|bE h fun p c h=>CI (CL (WL.mL c (fun s=>gI 0 5 2 [(1,.ptr 16 0),(7,rI (a0.aw.length:Int)),(8,rI s)] [(16,.var [rM aj.pd a0.aw])]) (fun o=>match o with| .inl y=>gX 0 0 5 13 [(1,.ptr 16 0)] [(16,.var [rM aj.pd a0.aw])]| .inr r=>gF 5 Tryz.f5 0 (rB r,[])) Z ?_ ?_))
 ·rintro s1 j i G a h
  refine gS Z a<|sF h ?_ ?_<;>intro h
  ·refine sN<|qS<|cT<|qK<|qS<|qB<|gU Z<|sM Z<|sA Z<|sN<|qS<|gU Z<|sV (.ptr 16 0)<|sL Z<|sM Z ?_
   refine bE h fun v x h=>eG x Z<|sV (.cptr [.lst (v.aH.map al.pd)])<|sC Z<|sE (rI (v.aH.length:Int)) (mE _ _)<|sF h ?_ ?_<;>intro h
   ·refine sN<|cT<|gU Z<|sU<|sN<|qR ?_
    cases oI h
    exact⟨nofun,rfl,rfl⟩
   refine sN<|cF<|qK<|gU Z<|sV (.ptr 16 0)<|sL Z<|sM Z<|bE h fun t z h=>eG z Z<|sV (.cptr [.lst (t.aH.map al.pd)])<|sC Z<|sE (rI (t.aH.length:Int)) (mE _ _)<|sV (r0)<|sN<|bE h fun n b h=>?_
   refine CI (CL (WL.mL b (fun s=>gI 0 5 7 [(1,.ptr 16 0),(3,rI s1),(7,rI (a0.aw.length:Int)),(8,rI s1),(25,rI (t.aH.length:Int)),(26,rI s)] [(16,.var [rM aj.pd a0.aw])]) (fun o=>match o with| .inl y=>gX 2 0 5 12 [(1,.ptr 16 0),(7,rI (a0.aw.length:Int)),(8,rI y)] [(16,.var [rM aj.pd a0.aw])]| .inr r=>gF 5 Tryz.f5 0 (rB r,[])) Z ?_ ?_))
   ·rintro D j i H a h
    refine gS Z a<|sF h ?_ ?_<;>intro h
    ·refine sN<|qS<|cT<|qK<|qS<|qB<|gU Z<|sM Z<|sA Z<|sN<|gU Z<|sV (.ptr 16 0)<|sL Z<|sM Z<|bE h fun q k h=>?_
     refine eG k Z<|sV (.cptr [.lst (q.aH.map al.pd)])<|sC Z<|sM Z<|bE h fun g l h=>eG l Z<|sV (.cptr [.lst (g.ba.aD.map au.pd)])<|sV (.d (aA.pd g.ba))<|bE h fun E m h=>cD (kD m)<|sF h ?_ ?_<;>intro h
     ·refine sN<|cT<|gU Z<|sU<|sN<|qR ?_
      cases oI h
      exact⟨nofun,rfl,rfl⟩
     refine sN<|cF<|qK<|CO Z Z<|sV (rI (rW (D+(1:Int))))<|sM Z<|sN ?_
     cases oI h
     exact⟨rfl,rfl⟩
    refine sN<|qS<|cF<|qX ?_
    cases oI h
    exact⟨nofun,rfl,rfl⟩
   intro e j i he f
   rcases n with u|B
   ·obtain⟨rfl,a⟩:=f
    refine qE<|CO a Z<|sV (rI (rW (u+(1:Int))))<|sM Z<|sN ?_
    cases oI h
    exact⟨rfl,rfl⟩
   obtain⟨rfl,hf⟩:=f
   cases oI h
   exact⟨nofun,rfl,hf⟩
  refine sN<|qS<|cF<|qX ?_
  cases oI h
  exact⟨nofun,rfl,rfl⟩
 intro e j i he f
 rcases p with F|C
 ·obtain⟨rfl,a⟩:=f
  refine qE<|gS Z a<|sV (.ptr 16 0)<|sL Z<|sE (rI (a0.aw.length:Int)) (mE _ _)<|sV (rB (decide ((a0.aw.length:Int)<=(10:Int))))<|sA Z<|sN<|qR ?_
  exact oI h▸qD
 obtain⟨rfl,hf⟩:=f
 cases oI h
 exact hf
theorem keep_New_ev{a0:(List Int)}{r:aa}(h:ml a0=some r):EvP prog aF ext 7 [rL a0] [] (.ptr 0 0,[.var (aa.rc r)]):=by
 refine Ev.body Z Tryz.func7 Z Zk<|gU Z<|sV (.d (.raw (.pointer none)))<|sN<|gU Z<|mM Z<|sE (rI (a0.length:Int)) (mE _ _)<|sV (rI (if(2000:Int)<(a0.length:Int)then(2000:Int)else(a0.length:Int)))<|bE h fun a h1 h=>WO.cutL (sz:=1) (g:=(PD.int .i64)) h1 (fun _=>Z) Z Z Z Z Z Z Z Z Z Z Z<|sV (.d (aa.pd (aa.mk a 0)))<|sB (.ptr 144 0) 144 (.var [rL a,r0])<|sA Z<|sN ?_
 refine qR ?_
 exact oI h▸qD
theorem Src_Raw_ev{d0:aa}{r:Int×aa}(h:Src_Raw d0=some r):EvP prog aF ext 50 [.ptr 0 0] [.var (aa.rc d0)] (rI r.1,[.var (aa.rc r.2)]):=by
 refine Ev.body Z Tryz.func50 Z Zk<|gU Z<|sV (r0)<|sN<|qS<|CJ Z Z<|sM Z<|sV (.ptr 0 0)<|sV (.ptr 0 1)<|sL Z<|sM Z<|sV (.ptr 0 0)<|sV (.ptr 0 0)<|sL Z<|sE (rI (d0.fL.length:Int)) (mE _ _) ?_
 refine sF h ?_ ?_<;>intro h
 ·refine sN<|sO<|cT<|gU Z<|sV (r0)<|sN<|qR ?_
  exact oI h▸qD
 refine sN<|sO<|cF<|qK<|gU Z<|sM Z<|sV (.ptr 0 0)<|sV (.ptr 0 1)<|sL Z<|sV (rI (rW (d0.fAt+(1:Int))))<|sV (.ptr 0 0)<|sV (.ptr 0 1)<|sS 0 (.var [rL d0.fL,rI (rW (d0.fAt+(1:Int)))])<|sN<|CJ Z Z<|sM Z ?_
 refine sV (.ptr 0 0)<|sV (.ptr 0 0)<|sL Z<|sM Z<|sV (.ptr 0 0)<|sV (.ptr 0 1)<|sL Z<|sV (rI (rW ((rW (d0.fAt+(1:Int)))-(1:Int))))<|bE h fun b a h=>eG a Z<|sC Z<|sA Z ?_
 refine sN<|sO<|qR ?_
 exact oI h▸qD
theorem keep_Mod_ev{a0:Int}{a1:Int}{r:Int}(h:kM a0 a1=some r):EvP prog aF ext 45 [rI a0,rI a1] [] (rI r,[]):=by
 refine Ev.body Z Tryz.func45 Z Zk<|gU Z<|sV (r0)<|sN<|qS<|gU Z<|sM Z<|sF h ?_ ?_<;>intro h
 ·refine sN<|cT<|gU Z<|sV (r0)<|sN<|qR ?_
  exact oI h▸qD
 refine sN<|cF<|qK<|gU Z<|mM Z<|bE h fun b a h=>WO.remG a Z Z Z Z Z Z<|sA Z<|sN<|qS<|gU Z<|sM Z<|sF h ?_ ?_<;>intro h
 ·refine sN<|cT<|CO Z Z<|mM Z<|sV (rI (rW (b+a1)))<|sA Z<|sN<|gU Z<|sM Z<|sA Z<|sN<|qR ?_
  exact oI h▸qD
 refine sN<|cF<|qK<|gU Z<|sM Z<|sA Z<|sN<|qR ?_
 exact oI h▸qD
theorem bn{a1:Int}{d0:aa}{r:Int×aa}(h:ca a1 d0=some r):EvP prog aF ext 26 [.ptr 0 0,rI a1] [.var (aa.rc d0)] (rI r.1,[.var (aa.rc r.2)]):=by
 refine Ev.body Z Tryz.func26 Z Zk<|gU Z<|sV (r0)<|sN<|gU Z<|sM Z<|bE h fun a h1 h=>cR (rI a.1) [(0,.var (aa.rc a.2))] (Src_Raw_ev h1)<|sM Z<|bE h fun c b h=>cD (keep_Mod_ev b)<|sA Z<|sN<|qR ?_
 exact oI h▸qD
theorem jP{a1:Int}{d0:aa}{r:ac×aa}(h:iJ a1 d0=some r):EvP prog aF ext 24 [.ptr 0 0,rI a1] [.var (aa.rc d0)] (.d (ac.pd r.1),[.var (aa.rc r.2)]):=by
 refine Ev.body Z Tryz.func24 Z Zk<|gU Z<|sB (.ptr 64 0) 64 (.var [r0,r0,r0])<|sN<|gU Z<|mM Z<|sV (rI (rW ((2:Int)*a1)))<|sV (rI (rW ((rW ((2:Int)*a1))+(1:Int))))<|bE h fun a h1 h=>cR (rI a.1) [(0,.var (aa.rc a.2))] (bn h1)<|sM Z<|sV (rI (rW (a.1-a1)))<|sM Z<|sM Z ?_
 refine sV (rI (rW ((2:Int)*a1)))<|sV (rI (rW ((rW ((2:Int)*a1))+(1:Int))))<|bE h fun b e h=>cR (rI b.1) [(0,.var (aa.rc b.2))] (bn e)<|sM Z<|sV (rI (rW (b.1-a1)))<|mM Z<|sV (rI (rW (a1+(1:Int))))<|bE h fun c f h=>cR (rI c.1) [(0,.var (aa.rc c.2))] (bn f)<|sV (.d (ac.pd (ac.mk (rW (a.1-a1)) (rW (b.1-a1)) c.1)))<|sS 64 (.var [rI (rW (a.1-a1)),rI (rW (b.1-a1)),rI c.1])<|sN<|qR ?_
 exact oI h▸qD
theorem Src_Box_ev{a1:Int}{a2:Int}{d0:aa}{r:aq×aa}(h:Src_Box a1 a2 d0=some r):EvP prog aF ext 48 [.ptr 0 0,rI a1,rI a2] [.var (aa.rc d0)] (.d (aq.pd r.1),[.var (aa.rc r.2)]):=by
 refine Ev.body Z Tryz.func48 Z Zk<|gU Z<|sB (.ptr 96 0) 96 (.var zZ1)<|sN<|gU Z<|mM Z<|bE h fun a h1 h=>cR (.d (ac.pd a.1)) [(0,.var (aa.rc a.2))] (jP h1)<|sB (.ptr 112 0) 112 (.var [r0,r0,r0])<|sS 112 (.var (ac.rc a.1))<|sN<|CJ Z Z<|sV (.d (ac.pd a.1))<|sV (.ptr 112 0) ?_
 refine sL Z<|mM Z<|sV (rI (rW (a2+(1:Int))))<|bE h fun b f h=>cR (rI b.1) [(0,.var (aa.rc b.2))] (bn f)<|sV (rI (rW (a.1.fX+b.1)))<|sV (.ptr 112 1)<|sL Z<|mM Z<|sV (rI (rW (a2+(1:Int))))<|bE h fun c g h=>cR (rI c.1) [(0,.var (aa.rc c.2))] (bn g)<|sV (rI (rW (a.1.fY+c.1))) ?_
 refine sV (.ptr 112 2)<|sL Z<|mM Z<|sV (rI (rW (a2+(1:Int))))<|bE h fun e i h=>cR (rI e.1) [(0,.var (aa.rc e.2))] (bn i)<|sV (rI (rW (a.1.fZ+e.1)))<|sV (.d (ac.pd (ac.mk (rW (a.1.fX+b.1)) (rW (a.1.fY+c.1)) (rW (a.1.fZ+e.1)))))<|sG (.d (aq.pd (aq.mk a.1 (ac.mk (rW (a.1.fX+b.1)) (rW (a.1.fY+c.1)) (rW (a.1.fZ+e.1))))))<|sH 96 (.var (ac.rc a.1++[rI (rW (a.1.fX+b.1)),rI (rW (a.1.fY+c.1)),rI (rW (a.1.fZ+e.1))])) ?_
 refine sN<|sO<|qR ?_
 cases oI h
 exact qG
theorem bG{a1:(List Int)}{d0:aa}{r:Int×aa}(h:cd a1 d0=some r):EvP prog aF ext 23 [.ptr 0 0,rL a1] [.var (aa.rc d0)] (rI r.1,[.var (aa.rc r.2)]):=by
 refine Ev.body Z Tryz.func23 Z Zk<|gU Z<|sV (r0)<|sN<|gU Z<|mM Z<|sM Z<|sE (rI (a1.length:Int)) (mE _ _)<|bE h fun a h1 h=>cR (rI a.1) [(0,.var (aa.rc a.2))] (bn h1)<|bE h fun c b h=>eG b Z<|sC Z<|sA Z ?_
 refine sN<|qR ?_
 exact oI h▸qD
theorem md{d0:aa}{r:ap×aa}(h:jD d0=some r):EvP prog aF ext 49 [.ptr 0 0] [.var (aa.rc d0)] (.agg [rI r.1.aY,.ref 1 0,.ref 2 0],[.var (aa.rc r.2),.arr 0 3 (r.1.aG.map (PD.int .i64)),.arr 0 3 (r.1.aB.map (PD.int .i64))]):=by
 refine Ev.body Z Tryz.func49 Z Zk<|gU Z<|sB (.ptr 32 0) 32 (.var [r0,.cI,.cI])<|sN<|gU Z<|sM Z<|sV (.d (.lst ([20,25,40,100].map (PD.int .i64))))<|bE h fun c h1 h=>cR (rI c.1) [(0,.var (aa.rc c.2))] (bG h1)<|sV (.agg [rI c.1,.cI,.cI])<|sB (.ptr 48 0) 48 (.var [r0,.cI,.cI])<|sS 48 (.var [rI c.1,.cI,.cI])<|sN<|gU Z<|sM Z ?_
 refine bE h fun y C h=>cR (rI y.1) [(0,.var (aa.rc y.2))] (bn C)<|sV (r0)<|sA Z<|sN<|qS<|gU Z<|sV (r0)<|sN<|bE h fun E j h=>CI (CL (WL.mL j (fun s=>gI 1 49 4 [(0,.ptr 0 0),(2,.ptr 32 0),(3,.ptr 48 0),(4,rI s.1),(5,rI s.2.1),(6,rI s.2.2.1)] [(0,.var [rL s.2.2.2.1,rI s.2.2.2.2.1]),(32,.var [r0,.cI,.cI]),(48,.var [rI c.1,.ref 432 0,.ref 512 0]),(432,.arr 0 3 (s.2.2.2.2.2.1.map (PD.int .i64))),(512,.arr 0 3 (s.2.2.2.2.2.2.map (PD.int .i64)))]) (fun o=>gX 0 1 49 9 [(2,.ptr 32 0),(3,.ptr 48 0)] [(0,.var [rL o.1,rI o.2.1]),(32,.var [r0,.cI,.cI]),(48,.var [rI c.1,.ref 432 0,.ref 512 0]),(432,.arr 0 3 (o.2.2.1.map (PD.int .i64))),(512,.arr 0 3 (o.2.2.2.map (PD.int .i64)))]) Z ?_ ?_))
 ·rintro⟨i,k,G,J,K,L,N⟩ B z F v h
  unfold jv at h
  refine qS<|CJ v Z<|sM Z<|sV (.ptr 48 0)<|sL Z<|bE h fun x l h=>WO.pU l Z Z Z Z Z Z<|sM Z<|bE h fun f m h=>cR (rI f.1) [(0,.var (aa.rc f.2))] (bn m)<|sV (rI (rW (x+f.1)))<|sF h ?_ ?_<;>intro h
  ·refine sN<|sO<|cT<|qK<|qS<|qB<|CJ Z Z<|sV (.ptr 48 1)<|sL Z<|sM Z<|sV (.d (.lst ([i].map (PD.int .i64))))<|bE h fun H n h=>aR n (fun _=>Z) Z<|sV (.ptr 48 2)<|sL Z<|sM Z ?_
   refine sV (.d (.lst ([k].map (PD.int .i64))))<|bE h fun I p h=>aR p (fun _=>Z) Z<|sV (.ptr 48 1)<|sS 48 (.var [rI c.1,.ref 432 1,.ref 512 0])<|sV (.ptr 48 2)<|sS 48 (.var [rI c.1,.ref 432 1,.ref 512 1]) ?_
   refine sN<|sO<|CJ Z Z<|mM Z<|sV (.d (.lst ([0,10,20,35].map (PD.int .i64))))<|bE h fun a q h=>cR (rI a.1) [(0,.var (aa.rc a.2))] (bG q)<|sV (.ptr 48 0)<|sL Z<|bE h fun b t h=>WO.pU t Z Z Z Z Z Z<|sV (rI (rW (a.1+b)))<|sV (rI (rW (i+(rW (a.1+b)))))<|sA Z ?_
   refine sN<|sO<|CO Z Z<|mM Z<|sV (rI (if(rW (i+(rW (a.1+b))))>k then(rW (i+(rW (a.1+b))))else k))<|sM Z<|sV (.d (.lst ([0,0,5,30].map (PD.int .i64))))<|bE h fun g u h=>cR (rI g.1) [(0,.var (aa.rc g.2))] (bG u)<|sV (rI (rW ((if(rW (i+(rW (a.1+b))))>k then(rW (i+(rW (a.1+b))))else k)+g.1)))<|sA Z<|sN<|CO Z Z<|sM Z<|sV (rI (rW (G+(1:Int)))) ?_
   refine sA Z<|sN ?_
   cases oI h
   exact⟨rfl,rfl⟩
  refine sN<|sO<|cF<|qX ?_
  cases oI h
  exact⟨nofun,rfl,rfl⟩
 intro e B z he D
 obtain⟨rfl,v⟩:=D
 refine qE<|gS Z v<|sV (.agg [rI c.1,.ref 432 0,.ref 512 0])<|sS 32 (.var [rI c.1,.ref 432 0,.ref 512 0])<|sN<|qR ?_
 exact oI h▸qD
theorem lV{a1:Int}{d0:aa}{r:aJ×aa}(h:fJ a1 d0=some r):EvP prog aF ext 21 [.ptr 0 0,rI a1] [.var (aa.rc d0)] (.d (aJ.pd r.1),[.var (aa.rc r.2)]):=by
 refine Ev.body Z Tryz.func21 Z Zk<|gU Z<|sB (.ptr 64 0) 64 (.var [r0,r0,r0,r0,r0,r0,r0,.cI,.cI,r0,r0,r0,r0,r0])<|sN<|gU Z<|mM Z<|bE h fun c h1 h=>cR (.d (aq.pd c.1)) [(0,.var (aa.rc c.2))] (Src_Box_ev h1)<|sM Z<|bE h fun a j h=>cR (.agg [rI a.1.aY,.ref 144 0,.ref 145 0]) [(0,.var (aa.rc a.2)),(144,.arr 0 3 (a.1.aG.map (PD.int .i64))),(145,.arr 0 3 (a.1.aB.map (PD.int .i64)))] (md j)<|sM Z<|sV (.d (.lst ([10,50,200].map (PD.int .i64))))<|bE h fun e k h=>?_
 refine cR (rI e.1) [(0,.var (aa.rc e.2))] (bG k)<|sM Z<|sV (.d (.lst ([0,0,10,40].map (PD.int .i64))))<|bE h fun f l h=>cR (rI f.1) [(0,.var (aa.rc f.2))] (bG l)<|sM Z<|sV (.d (.lst ([0,50,200,400].map (PD.int .i64))))<|bE h fun g m h=>cR (rI g.1) [(0,.var (aa.rc g.2))] (bG m)<|sM Z<|sV (.d (.lst ([0,5,20].map (PD.int .i64))))<|bE h fun i n h=>cR (rI i.1) [(0,.var (aa.rc i.2))] (bG n)<|sM Z<|bE h fun b o h=>?_
 refine cR (rI b.1) [(0,.var (aa.rc b.2))] (bn o)<|sV (rI (rW ((2:Int)+b.1)))<|sG (.agg (aq.rc c.1++[rI a.1.aY,.ref 144 0,.ref 145 0,rI e.1,rI f.1,rI g.1,rI i.1,rI (rW ((2:Int)+b.1))]))<|sH 64 (.var (aq.rc c.1++[rI a.1.aY,.ref 144 0,.ref 145 0,rI e.1,rI f.1,rI g.1,rI i.1,rI (rW ((2:Int)+b.1))]))<|sN<|qR ?_
 cases oI h
 exact qG
theorem Src_Scale_ev{d0:aa}{r:aM×aa}(h:ll d0=some r):EvP prog aF ext 22 [.ptr 0 0] [.var (aa.rc d0)] (.d (aM.pd r.1),[.var (aa.rc r.2)]):=by
 refine Ev.body Z Tryz.func22 Z Zk<|gU Z<|sB (.ptr 32 0) 32 (.var [r0,.cI,.cI,r0,r0])<|sN<|gU Z<|sM Z<|bE h fun a h1 h=>cR (.agg [rI a.1.aY,.ref 96 0,.ref 97 0]) [(0,.var (aa.rc a.2)),(96,.arr 0 3 (a.1.aG.map (PD.int .i64))),(97,.arr 0 3 (a.1.aB.map (PD.int .i64)))] (md h1)<|sM Z<|bE h fun c D h=>cR (rI c.1) [(0,.var (aa.rc c.2))] (bn D)<|sM Z<|bE h fun b E h=>cR (rI b.1) [(0,.var (aa.rc b.2))] (bn E)<|sV (rI (rW ((1:Int)+b.1))) ?_
 refine sV (.agg [rI a.1.aY,.ref 96 0,.ref 97 0,rI c.1,rI (rW ((1:Int)+b.1))])<|sB (.ptr 48 0) 48 (.var [r0,.cI,.cI,r0,r0])<|sS 48 (.var [rI a.1.aY,.ref 96 0,.ref 97 0,rI c.1,rI (rW ((1:Int)+b.1))])<|sN<|qS<|gU Z<|sV (.ptr 48 0)<|sV (.ptr 48 1)<|sL Z<|WO.vK Z Z Z Z Z Z Z Z Z<|sV (r0)<|sN<|bE h fun G f h=>CI (CL (WL.mL f (fun s=>gI 1 22 3 [(2,.ptr 32 0),(3,.ptr 48 0),(16,rI (a.1.aG.length:Int)),(17,rI s.1)] [(0,.var (aa.rc b.2)),(32,.var [r0,.cI,.cI,r0,r0]),(48,.var [rI a.1.aY,.ref 96 0,.ref 97 0,rI c.1,rI (rW ((1:Int)+b.1))]),(96,.arr 0 3 (s.2.1.map (PD.int .i64))),(97,.arr 0 3 (s.2.2.map (PD.int .i64)))]) (fun o=>gX 0 1 22 7 [(2,.ptr 32 0),(3,.ptr 48 0)] [(0,.var (aa.rc b.2)),(32,.var [r0,.cI,.cI,r0,r0]),(48,.var [rI a.1.aY,.ref 96 0,.ref 97 0,rI c.1,rI (rW ((1:Int)+b.1))]),(96,.arr 0 3 (o.1.map (PD.int .i64))),(97,.arr 0 3 (o.2.map (PD.int .i64)))]) Z ?_ ?_))
 ·rintro⟨H,X,Y⟩ C B W x h
  refine gS Z x<|sF h ?_ ?_<;>intro h
  ·refine sN<|qS<|cT<|qK<|qS<|qB<|gU Z<|sM Z<|sA Z<|sN<|CN Z Z<|sV (.ptr 48 0)<|sV (.ptr 48 1)<|sL Z<|sM Z ?_
   refine sV (.ptr 48 0)<|sV (.ptr 48 2)<|sL Z<|sM Z<|sV (.ptr 48 0)<|sV (.ptr 48 1)<|sL Z<|sM Z<|bE h fun I i h=>WO.qi i Z Z Z Z Z Z Z Z<|bE h fun J j h=>WO.qJ j Z Z Z Z Z Z<|bE h fun y k h=>WO.pU k Z Z Z Z Z Z<|sV (.ptr 48 0) ?_
   refine sV (.ptr 48 2)<|sL Z<|sM Z<|bE h fun K l h=>WO.qi l Z Z Z Z Z Z Z Z<|bE h fun L m h=>WO.qJ m Z Z Z Z Z Z<|bE h fun z n h=>WO.pU n Z Z Z Z Z Z<|bE h fun N q h=>WO.qi q Z Z Z Z Z Z Z Z<|bE h fun O t h=>WO.rA (g:=(PD.int .i64)) (sz:=1) (p:= .int .i64 y) t (fun _=>Z) (fun _=>Z) Z Z Z Z Z Z Z Z Z<|bE h fun Q u h=>WO.qi u Z Z Z Z Z Z Z Z ?_
   refine bE h fun T v h=>WO.rA (g:=(PD.int .i64)) (sz:=1) (p:= .int .i64 z) v (fun _=>Z) (fun _=>Z) Z Z Z Z Z Z Z Z Z ?_
   refine sN<|sO<|CO Z Z<|sV (rI (rW (H+(1:Int))))<|sM Z<|sN ?_
   cases oI h
   exact⟨rfl,rfl⟩
  refine sN<|qS<|cF<|qX ?_
  cases oI h
  exact⟨nofun,rfl,rfl⟩
 intro e C B he F
 obtain⟨rfl,x⟩:=F
 refine qE<|gS Z x<|sV (.agg [rI a.1.aY,.ref 96 0,.ref 97 0,rI c.1,rI (rW ((1:Int)+b.1))])<|sS 32 (.var [rI a.1.aY,.ref 96 0,.ref 97 0,rI c.1,rI (rW ((1:Int)+b.1))])<|sN<|qR ?_
 exact oI h▸qD
theorem Src_Settings_ev{a1:Int}{d0:aa}{r:ag×aa}(h:iF a1 d0=some r):EvP prog aF ext 8 [.ptr 0 0,rI a1] [.var (aa.rc d0)] (.d (ag.pd r.1),[.var (aa.rc r.2)]):=by
 refine Ev.body Z Tryz.func8 Z Zk<|gU Z<|sB (.ptr 64 0) 64 (.var [r0,r0,r0,r0,r0,r0,r0,.cI,.cI,r0,r0,r0,r0,r0,r0,.cI,.cI,r0,r0,r0])<|sN<|gU Z<|mM Z<|bE h fun a h1 h=>cR (.d (aJ.pd a.1)) [(0,.var (aa.rc a.2))] (lV h1)<|sM Z<|bE h fun b e h=>cR (.d (aM.pd b.1)) [(0,.var (aa.rc b.2))] (Src_Scale_ev e)<|sM Z<|sV (.d (.lst ([0,0,10,40].map (PD.int .i64))))<|bE h fun c f h=>?_
 refine cR (rI c.1) [(0,.var (aa.rc c.2))] (bG f)<|sG (.d (.agg [.int .i64 a.1.aU.aG.fX,.int .i64 a.1.aU.aG.fY,.int .i64 a.1.aU.aG.fZ,.int .i64 a.1.aU.aB.fX,.int .i64 a.1.aU.aB.fY,.int .i64 a.1.aU.aB.fZ,.int .i64 a.1.bj.aY,.lst (a.1.bj.aG.map (PD.int .i64)),.lst (a.1.bj.aB.map (PD.int .i64)),.int .i64 a.1.gK,.int .i64 a.1.aK,.int .i64 a.1.dn,.int .i64 a.1.ce,.int .i64 a.1.b9,.int .i64 b.1.aV.aY,.lst (b.1.aV.aG.map (PD.int .i64)),.lst (b.1.aV.aB.map (PD.int .i64)),.int .i64 b.1.aQ,.int .i64 b.1.aL,.int .i64 c.1]))<|sH 64 (.var (aJ.rc a.1++aM.rc b.1++[rI c.1]))<|sN<|qR ?_
 cases oI h
 exact qG
theorem kw{d0:aa}{r:aA×aa}(h:er d0=some r):EvP prog aF ext 25 [.ptr 0 0] [.var (aa.rc d0)] (.d (aA.pd r.1),[.var (aa.rc r.2)]):=by
 refine Ev.body Z Tryz.func25 Z Zk<|gU Z<|sB (.ptr 32 0) 32 (.var [.cI])<|sN<|gU Z<|sB (.ptr 48 0) 48 (.var [.cI])<|sN<|qS<|gU Z<|sM Z<|bE h fun J h1 h=>cR (rI J.1) [(0,.var (aa.rc J.2))] (bn h1)<|sA Z<|sN<|bE h fun O p h=>?_
 refine CI (CL (WL.mL p (fun s=>gI 1 25 3 [(0,.ptr 0 0),(2,.ptr 32 0),(3,.ptr 48 0),(4,rI s.1)] [(0,.var [rL s.2.1,rI s.2.2.1]),(32,.var [.cI]),(48,.var [.ref 1040 0]),(1040,.arr 0 114 (s.2.2.2.map au.pd))]) (fun o=>gX 0 1 25 13 [(2,.ptr 32 0),(3,.ptr 48 0)] [(0,.var [rL o.1,rI o.2.1]),(32,.var [.cI]),(48,.var [.ref 1040 0]),(1040,.arr 0 114 (o.2.2.map au.pd))]) Z ?_ ?_))
 ·rintro⟨s2,Y,s4,s5⟩ L K X I h
  refine qS<|gS Z I<|sM Z<|sF h ?_ ?_<;>intro h
  ·refine sN<|cT<|qK<|qS<|qB<|gU Z<|sM Z<|bE h fun a q h=>cR (rI a.1) [(0,.var (aa.rc a.2))] (bn q)<|sG (.agg [rI a.1,r0,r0,r0,r0,r0,r0,.cI,r0,r0])<|sB (.ptr 80 0) 80 (.var [r0,r0,r0,r0,r0,r0,r0,.cI,r0,r0])<|sH 80 (.var [rI a.1,r0,r0,r0,r0,r0,r0,.cI,r0,r0])<|sN<|qS<|gU Z ?_
   refine sV (.ptr 80 0)<|sL Z<|sN<|qB<|gU Z<|sF h ?_ ?_<;>intro h
   ·refine sA Z<|sN<|cT<|CO Z Z<|sM Z<|sV (.d (.lst ([0,1,9,99,1048575].map (PD.int .i64))))<|bE h fun g t h=>cR (rI g.1) [(0,.var (aa.rc g.2))] (bG t)<|sV (rI (rW ((1:Int)+g.1)))<|sM Z<|sV (.d (.lst ([0,0,2,9,999].map (PD.int .i64))))<|bE h fun k u h=>cR (rI k.1) [(0,.var (aa.rc k.2))] (bG u)<|sV (rI (rW ((1:Int)+k.1)))<|sV (.ptr 80 1) ?_
    refine sV (.ptr 80 1)<|sS 80 (.var [rI a.1,rI (rW ((1:Int)+g.1)),r0,r0,r0,r0,r0,.cI,r0,r0])<|sV (.ptr 80 4)<|sV (.ptr 80 4)<|sS 80 (.var [rI a.1,rI (rW ((1:Int)+g.1)),r0,r0,rI (rW ((1:Int)+k.1)),r0,r0,.cI,r0,r0])<|sN<|CO Z Z<|sV (.ptr 48 0)<|sL Z<|sV (.agg [rI a.1,rI (rW ((1:Int)+g.1)),r0,r0,rI (rW ((1:Int)+k.1)),r0,r0,.cI,r0,r0])<|sG (.d (.lst ([(au.mk a.1 (aP.mk (rW ((1:Int)+g.1)) 0 0) (aP.mk (rW ((1:Int)+k.1)) 0 0) [] 0 0)].map au.pd)))<|bE h fun Q v h=>aR v (fun _=>Z) Z<|sV (.ptr 48 0)<|sS 48 (.var [.ref 1040 1]) ?_
    refine sN<|CO Z Z<|sM Z<|sV (rI (rW (s2-(1:Int))))<|sA Z<|sN ?_
    cases oI h
    exact⟨rfl,rfl⟩
   refine sA Z<|sN<|cF<|gU Z<|sF h ?_ ?_<;>intro h
   ·refine sA Z<|sN<|cT<|CO Z Z<|sM Z<|bE h fun i x h=>cR (rI i.1) [(0,.var (aa.rc i.2))] (bn x)<|sM Z<|bE h fun c y h=>cR (rI c.1) [(0,.var (aa.rc c.2))] (bn y)<|sV (rI (rW (c.1-(3:Int))))<|sM Z<|bE h fun f z h=>cR (rI f.1) [(0,.var (aa.rc f.2))] (bn z)<|sV (rI (rW (f.1-(1:Int)))) ?_
    refine sV (.d (aP.pd (aP.mk i.1 (rW (c.1-(3:Int))) (rW (f.1-(1:Int))))))<|sM Z<|bE h fun j B h=>cR (rI j.1) [(0,.var (aa.rc j.2))] (bn B)<|sV (rI (rW ((1:Int)+j.1)))<|sM Z<|bE h fun l C h=>cR (rI l.1) [(0,.var (aa.rc l.2))] (bn C)<|sM Z<|bE h fun m D h=>cR (rI m.1) [(0,.var (aa.rc m.2))] (bn D)<|sV (.d (aP.pd (aP.mk (rW ((1:Int)+j.1)) l.1 m.1)))<|sV (.ptr 80 1)<|sS 80 (.var [rI a.1,rI i.1,rI (rW (c.1-(3:Int))),rI (rW (f.1-(1:Int))),r0,r0,r0,.cI,r0,r0])<|sV (.ptr 80 4) ?_
    refine sS 80 (.var [rI a.1,rI i.1,rI (rW (c.1-(3:Int))),rI (rW (f.1-(1:Int))),rI (rW ((1:Int)+j.1)),rI l.1,rI m.1,.cI,r0,r0])<|sN<|CO Z Z<|sV (.ptr 48 0)<|sL Z<|sV (.agg [rI a.1,rI i.1,rI (rW (c.1-(3:Int))),rI (rW (f.1-(1:Int))),rI (rW ((1:Int)+j.1)),rI l.1,rI m.1,.cI,r0,r0])<|sG (.d (.lst ([(au.mk a.1 (aP.mk i.1 (rW (c.1-(3:Int))) (rW (f.1-(1:Int)))) (aP.mk (rW ((1:Int)+j.1)) l.1 m.1) [] 0 0)].map au.pd)))<|bE h fun T E h=>aR E (fun _=>Z) Z<|sV (.ptr 48 0)<|sS 48 (.var [.ref 1040 1])<|sN<|CO Z Z<|sM Z<|sV (rI (rW (s2-(1:Int)))) ?_
    refine sA Z<|sN ?_
    cases oI h
    exact⟨rfl,rfl⟩
   refine sA Z<|sN<|cF<|CO Z Z<|sM Z<|bE h fun b F h=>cR (rI b.1) [(0,.var (aa.rc b.2))] (bn F)<|sV (rI (rW ((1:Int)+b.1)))<|sV (.d (.lst ([(rW ((1:Int)+b.1)),2,1].map (PD.int .i64))))<|sM Z<|bE h fun n G h=>cR (rI n.1) [(0,.var (aa.rc n.2))] (bn G)<|sV (.ptr 80 7)<|sS 80 (.var [rI a.1,r0,r0,r0,r0,r0,r0,.d (.lst ([(rW ((1:Int)+b.1)),2,1].map (PD.int .i64))),r0,r0])<|sV (.ptr 80 8) ?_
   refine sS 80 (.var [rI a.1,r0,r0,r0,r0,r0,r0,.d (.lst ([(rW ((1:Int)+b.1)),2,1].map (PD.int .i64))),rI 1,r0])<|sV (.ptr 80 9)<|sS 80 (.var [rI a.1,r0,r0,r0,r0,r0,r0,.d (.lst ([(rW ((1:Int)+b.1)),2,1].map (PD.int .i64))),rI 1,rI n.1])<|sN<|CO Z Z<|sV (.ptr 48 0)<|sL Z<|sV (.d (.agg [.int .i64 a.1,.int .i64 0,.int .i64 0,.int .i64 0,.int .i64 0,.int .i64 0,.int .i64 0,.lst ([(rW ((1:Int)+b.1)),2,1].map (PD.int .i64)),.int .i64 1,.int .i64 n.1]))<|sG (.d (.lst ([(au.mk a.1 (aP.mk 0 0 0) (aP.mk 0 0 0) [(rW ((1:Int)+b.1)),2,1] 1 n.1)].map au.pd)))<|bE h fun W H h=>aR H (fun _=>Z) Z<|sV (.ptr 48 0)<|sS 48 (.var [.ref 1040 1])<|sN<|CO Z Z ?_
   refine sM Z<|sV (rI (rW (s2-(1:Int))))<|sA Z<|sN ?_
   cases oI h
   exact⟨rfl,rfl⟩
  refine sN<|cF<|qX ?_
  cases oI h
  exact⟨nofun,rfl,rfl⟩
 intro e L K he N
 obtain⟨rfl,I⟩:=N
 refine qE<|gS Z I<|sV (.agg [.ref 1040 0])<|sS 32 (.var [.ref 1040 0])<|sN<|qR ?_
 exact oI h▸qD
theorem kN{a0:Int}{r:ak}(h:eU a0=some r):EvP prog aF ext 19 [rI a0] [] (.d (ak.pd r),[]):=by
 refine Ev.body Z Tryz.func19 Z Zk<|gU Z<|sB (.ptr 32 0) 32 (.var [rS [],rS [],rS [],rS []])<|sN<|gU Z<|sV (.d (.lst ([[83,49],[83,50],[83,51],[83,52],[83,53],[83,54]].map PD.str)))<|sM Z<|bE h fun c h1 h=>cD (keep_Mod_ev h1)<|bE h fun a b h=>eG b Z<|sC Z<|sV (.d (ak.pd (ak.mk [65,66] a [48,48] [66,72,90])))<|sS 32 (.var [rS [65,66],rS a,rS [48,48],rS [66,72,90]])<|sN ?_
 refine qR ?_
 exact oI h▸qD
theorem Src_Sites_ev{a1:Int}{d0:aa}{r:ah×aa}(h:iL a1 d0=some r):EvP prog aF ext 9 [.ptr 0 0,rI a1] [.var (aa.rc d0)] (.d (ah.pd r.1),[.var (aa.rc r.2)]):=by
 refine Ev.body Z Tryz.func9 Z Zk<|gU Z<|sB (.ptr 64 0) 64 (.var [.cI])<|sN<|gU Z<|sB (.ptr 80 0) 80 (.var [.cI])<|sN<|qS<|gU Z<|sV (r0)<|sN<|bE h fun T k h=>CI (CL (WL.mL k (fun s=>gI 1 9 3 [(0,.ptr 0 0),(1,rI a1),(4,.ptr 64 0),(5,.ptr 80 0),(6,rI s.1)] [(0,.var [rL s.2.1,rI s.2.2.1]),(64,.var [.cI]),(80,.var [.ref 1104 0]),(1104,.arr 0 66 (s.2.2.2.map aj.pd))]) (fun o=>gX 0 1 9 16 [(4,.ptr 64 0),(5,.ptr 80 0)] [(0,.var [rL o.1,rI o.2.1]),(64,.var [.cI]),(80,.var [.ref 1104 0]),(1104,.arr 0 66 (o.2.2.map aj.pd))]) Z ?_ ?_))
 ·rintro⟨s1,s2,s3,s4⟩ O N q8 J h
  refine qS<|gS Z J<|mM Z<|sF h ?_ ?_<;>intro h
  ·refine mM Z<|sV (rB (decide (s1<(6:Int))))<|sF h ?_ ?_<;>intro h
   ·refine sN<|cT<|qK<|qS<|qB<|gU Z<|sV (.d (bh.pd (bh.mk 100 1)))<|sM Z<|bE h fun a n h=>cR (.d (ac.pd a.1)) [(0,.var (aa.rc a.2))] (jP n)<|sM Z<|bE h fun b p h=>cR (.d (aA.pd b.1)) [(0,.var (aa.rc b.2))] (kw p)<|sG (.d (.agg [.int .i64 0,.int .i64 100000,.int .i64 100,.int .i64 1,.int .i64 a.1.fX,.int .i64 a.1.fY,.int .i64 a.1.fZ,.lst (b.1.aD.map au.pd)]))<|sB (.ptr 112 0) 112 (.var zZ0) ?_
    refine sH 112 (.var (r0::rI 100000::rI 100::rI 1::ac.rc a.1++[rM au.pd b.1.aD]))<|sN<|CJ Z Z<|sM Z<|bE h fun c q h=>cD (kN q)<|sV (.d (.agg [.int .i64 0,.int .i64 100000,.int .i64 100,.int .i64 1,.int .i64 a.1.fX,.int .i64 a.1.fY,.int .i64 a.1.fZ,.lst (b.1.aD.map au.pd)]))<|sB (.ref 448 0) 448 (.arr 0 74 ([(al.mk 0 100000 (bh.mk 100 1) a.1 b.1)].map al.pd))<|sV (.agg (ak.rc c++[.ref 448 0]))<|sB (.ptr 128 0) 128 (.var [rS [],rS [],rS [],rS [],.cI])<|sS 128 (.var (ak.rc c++[.ref 448 0])) ?_
    refine sN<|sO<|qS<|gU Z<|sM Z<|bE h fun l t h=>cR (rI l.1) [(0,.var (aa.rc l.2))] (bn t)<|sN<|qB<|gU Z<|sF h ?_ ?_<;>intro h
    ·refine sA Z<|sN<|cT<|gU Z<|sV (.d (.agg [.int .i64 0,.int .i64 100000,.int .i64 100,.int .i64 1,.int .i64 a.1.fX,.int .i64 a.1.fY,.int .i64 a.1.fZ,.lst (b.1.aD.map au.pd)]))<|sB (.ptr 144 0) 144 (.var zZ0)<|sH 144 (.var (r0::rI 100000::rI 100::rI 1::ac.rc a.1++[rM au.pd b.1.aD]))<|sN<|gU Z<|sM Z<|bE h fun f v h=>cR (rI f.1) [(0,.var (aa.rc f.2))] (bn v)<|sV (rI (rW ((1500:Int)+f.1)))<|sM Z<|bE h fun i x h=>?_
     refine cR (.d (ac.pd i.1)) [(0,.var (aa.rc i.2))] (jP x)<|sM Z<|bE h fun j y h=>cR (.d (aA.pd j.1)) [(0,.var (aa.rc j.2))] (kw y)<|sV (.ptr 144 0)<|sS 144 (.var (rI (rW ((1500:Int)+f.1))::rI 100000::rI 100::rI 1::ac.rc a.1++[rM au.pd b.1.aD]))<|sV (.ptr 144 4)<|sS 144 (.var (rI (rW ((1500:Int)+f.1))::rI 100000::rI 100::rI 1::ac.rc i.1++[rM au.pd b.1.aD]))<|sV (.ptr 144 7)<|sS 144 (.var (rI (rW ((1500:Int)+f.1))::rI 100000::rI 100::rI 1::ac.rc i.1++[rM au.pd j.1.aD]))<|sN<|gU Z<|sV (.ptr 128 4)<|sL Z<|sV (.ptr 144 0) ?_
     refine sL Z<|bE h fun W z h=>WO.qi z Z Z Z Z Z Z Z Z<|sV (.elt 448 0 ((0:Int)).toNat 1)<|bE h fun X B h=>WO.yL (g:=al.pd) (u:=[]) (sz:=1) B (fun _=>Z) (fun _=>Nat.le_of_ble_eq_true Z) Z Z Z Z Z Z Z Z Z Z Z<|sN<|CO Z Z<|sV (.ptr 128 4)<|sL Z<|sV (.d (.agg [.int .i64 (rW ((1500:Int)+f.1)),.int .i64 100000,.int .i64 100,.int .i64 1,.int .i64 i.1.fX,.int .i64 i.1.fY,.int .i64 i.1.fZ,.lst (j.1.aD.map au.pd)]))<|sG (.d (.lst ([(al.mk (rW ((1500:Int)+f.1)) 100000 (bh.mk 100 1) i.1 j.1)].map al.pd)))<|bE h fun K C h=>aR C (fun _=>Z) Z<|sV (.ptr 128 4) ?_
     refine sS 128 (.var (ak.rc c++[.ref 448 1]))<|sN<|CO Z Z<|sV (.ptr 80 0)<|sL Z<|sV (.agg (ak.rc c++[.ref 448 1]))<|sB (.d (.lst [aj.pd (aj.mk c K)])) 448 .dead<|bE h fun Y D h=>aR D (fun _=>Z) Z<|sV (.ptr 80 0)<|sS 80 (.var [.ref 1104 1])<|sN<|CO Z Z<|sM Z<|sV (rI (rW (s1+(1:Int)))) ?_
     refine sA Z<|sN ?_
     cases oI h
     exact⟨rfl,rfl⟩
    refine sA Z<|sN<|cF<|gU Z<|sF h ?_ ?_<;>intro h
    ·refine sA Z<|sN<|cT<|CN Z Z<|sV (.ptr 128 4)<|sL Z<|sM Z<|bE h fun m E h=>cR (rI m.1) [(0,.var (aa.rc m.2))] (bn E)<|bE h fun a5 F h=>WO.qi F Z Z Z Z Z Z Z Z<|sV (.elt 448 0 ((0:Int)).toNat 0)<|bE h fun L G h=>WO.yL (g:=al.pd) (u:=[]) (sz:=1) G (fun _=>Z) (fun _=>Nat.le_of_ble_eq_true Z) Z Z Z Z Z Z Z Z Z Z Z ?_
     refine sN<|sO<|CO Z Z<|sV (.ptr 80 0)<|sL Z<|sV (.agg (ak.rc c++[.ref 448 0]))<|sB (.d (.lst [aj.pd (aj.mk c L)])) 448 .dead<|bE h fun a6 H h=>aR H (fun _=>Z) Z<|sV (.ptr 80 0)<|sS 80 (.var [.ref 1104 1])<|sN<|CO Z Z<|sM Z<|sV (rI (rW (s1+(1:Int))))<|sA Z ?_
     refine sN ?_
     cases oI h
     exact⟨rfl,rfl⟩
    refine sA Z<|sN<|cF<|qK<|CO Z Z<|sV (.ptr 80 0)<|sL Z<|sV (.agg (ak.rc c++[.ref 448 0]))<|sB (.d (.lst [aj.pd (aj.mk c [(al.mk 0 100000 (bh.mk 100 1) a.1 b.1)])])) 448 .dead<|bE h fun a7 I h=>aR I (fun _=>Z) Z<|sV (.ptr 80 0)<|sS 80 (.var [.ref 1104 1])<|sN<|CO Z Z ?_
    refine sM Z<|sV (rI (rW (s1+(1:Int))))<|sA Z<|sN ?_
    cases oI h
    exact⟨rfl,rfl⟩
   refine sN<|cF<|qX ?_
   cases oI h
   exact⟨nofun,rfl,rfl⟩
  refine sM Z<|sK<|sK<|sU<|sN<|cF<|qX ?_
  cases oI h
  exact⟨nofun,rfl,rfl⟩
 intro e O N he Q
 obtain⟨rfl,J⟩:=Q
 refine qE<|gS Z J<|sV (.agg [.ref 1104 0])<|sS 64 (.var [.ref 1104 0])<|sN<|qR ?_
 exact oI h▸qD
theorem jQ{a1:Int}{a2:Int}{d0:aa}{r:Int×aa}(h:iK a1 a2 d0=some r):EvP prog aF ext 51 [.ptr 0 0,rI a1,rI a2] [.var (aa.rc d0)] (rI r.1,[.var (aa.rc r.2)]):=by
 refine Ev.body Z Tryz.func51 Z Zk<|gU Z<|sV (r0)<|sN<|gU Z<|mM Z<|mM Z<|sV (rI (rW (a2-a1)))<|sV (rI (rW ((rW (a2-a1))+(1:Int))))<|bE h fun a h1 h=>cR (rI a.1) [(0,.var (aa.rc a.2))] (bn h1)<|sV (rI (rW (a1+a.1)))<|sA Z ?_
 refine sN<|qR ?_
 exact oI h▸qD
theorem mc{a1:aq}{d0:aa}{r:ac×aa}(h:jC a1 d0=some r):EvP prog aF ext 27 [.ptr 0 0,.d (aq.pd a1)] [.var (aa.rc d0)] (.d (ac.pd r.1),[.var (aa.rc r.2)]):=by
 refine Ev.body Z Tryz.func27 Z Zk<|gU Z<|sB (.ptr 48 0) 48 (.var (aq.rc a1))<|sB (.ptr 64 0) 64 (.var [r0,r0,r0])<|sN<|CJ Z Z<|sM Z<|sV (.ptr 48 0)<|sV (.ptr 48 0)<|sL Z<|sV (.ptr 48 3)<|sV (.ptr 48 3)<|sL Z<|bE h fun a h1 h=>cR (rI a.1) [(0,.var (aa.rc a.2))] (jQ h1) ?_
 refine sM Z<|sV (.ptr 48 0)<|sV (.ptr 48 1)<|sL Z<|sV (.ptr 48 3)<|sV (.ptr 48 4)<|sL Z<|bE h fun b e h=>cR (rI b.1) [(0,.var (aa.rc b.2))] (jQ e)<|sM Z<|sV (.ptr 48 0)<|sV (.ptr 48 2)<|sL Z<|sV (.ptr 48 3)<|sV (.ptr 48 5) ?_
 refine sL Z<|bE h fun c f h=>cR (rI c.1) [(0,.var (aa.rc c.2))] (jQ f)<|sV (.d (ac.pd (ac.mk a.1 b.1 c.1)))<|sS 64 (.var [rI a.1,rI b.1,rI c.1]) ?_
 refine sN<|sO<|qR ?_
 exact oI h▸qD
theorem keep_place_ev{a0:ah}{a1:ak}{a2:Int}{r:ac×Bool}(h:jW a0 a1 a2=some r):EvP prog aF ext 28 [.d (ah.pd a0),.d (ak.pd a1),rI a2] [] (.tup [.d (ac.pd r.1),rB r.2],[]):=by
 refine Ev.body Z Tryz.func28 Z Zk<|gU Z<|sB (.ptr 48 0) 48 (.var [rM aj.pd a0.aw])<|sB (.ptr 64 0) 64 (.var (ak.rc a1))<|sB (.ptr 96 0) 96 (.var [r0,r0,r0])<|sU<|sN<|qS<|gU Z<|sV (.ptr 48 0)<|sL Z<|sE (rI (a0.aw.length:Int)) (mE _ _)<|sV (r0)<|sN<|bE h fun n i h=>?_
 refine CI (CL (WL.mL i (fun s=>gI 0 28 2 [(2,rI a2),(4,.ptr 64 0),(6,.ptr 96 0),(13,rM aj.pd a0.aw),(14,rI (a0.aw.length:Int)),(15,rI s)] [(64,.var (ak.rc a1)),(96,.var [r0,r0,r0])]) (fun o=>match o with| .inl y=>gX 0 0 28 11 [(6,.ptr 96 0)] [(96,.var [r0,r0,r0])]| .inr r=>gF 28 Tryz.f28 0 (.tup [.d (ac.pd r.1),rB r.2],[])) Z ?_ ?_))
 ·rintro s1 l k B c h
  refine gS Z c<|sF h ?_ ?_<;>intro h
  ·refine sN<|qS<|cT<|qK<|qS<|qB<|gU Z<|bE h fun b t h=>eG t Z<|sV (.d (aj.pd b))<|sB (.ptr 144 0) 144 (.var [rS [],rS [],rS [],rS [],.cI])<|sS 144 (.var (aj.rc b))<|sN<|gU Z<|sV (.ptr 144 4) ?_
   refine sL Z<|sE (rI (b.aH.length:Int)) (mE _ _)<|sV (r0)<|sN<|bE h fun m g h=>CI (CL (WL.mL g (fun s=>gI 0 28 5 [(2,rI a2),(4,.ptr 64 0),(6,.ptr 96 0),(9,.ptr 144 0),(13,rM aj.pd a0.aw),(14,rI (a0.aw.length:Int)),(15,rI s1),(20,rM al.pd b.aH),(21,rI (b.aH.length:Int)),(22,rI s)] [(64,.var (ak.rc a1)),(96,.var [r0,r0,r0]),(144,.var (aj.rc b))]) (fun o=>match o with| .inl y=>gX 2 0 28 10 [(2,rI a2),(4,.ptr 64 0),(6,.ptr 96 0),(13,rM aj.pd a0.aw),(14,rI (a0.aw.length:Int)),(15,rI y)] [(64,.var (ak.rc a1)),(96,.var [r0,r0,r0])]| .inr r=>gF 28 Tryz.f28 0 (.tup [.d (ac.pd r.1),rB r.2],[])) Z ?_ ?_))
   ·rintro p l k C c h
    refine gS Z c<|sF h ?_ ?_<;>intro h
    ·refine sN<|qS<|cT<|qK<|qS<|qB<|gU Z<|bE h fun f u h=>eG u Z<|sV (.d (al.pd f))<|sB (.ptr 176 0) 176 (.var zZ0)<|sH 176 (.var (al.rc f))<|sN<|gU Z<|sV (.ptr 144 0) ?_
     refine sV (.d (ak.pd b.az))<|sV (.d (ak.pd a1))<|na h (fun a h=>?_) (fun a h=>?_)
     ·refine WO.pO (eqE_63 b.az a1) a Z Z Z Z Z<|sM Z<|sV (.ptr 176 0)<|sL Z<|sM Z<|sV (rB (decide (f.bC<=a2)))<|sF h ?_ ?_<;>intro h
      ·refine mM Z<|sV (.ptr 176 1)<|sL Z<|sV (rB (decide (a2<f.fTo)))<|sF h ?_ ?_<;>intro h
       ·refine sN<|cT<|gU Z<|sV (.ptr 176 4)<|sV (.d (ac.pd f.aI))<|sS 96 (.var (ac.rc f.aI))<|sT<|sN<|qR ?_
        cases oI h
        exact⟨nofun,rfl,rfl⟩
       refine sN<|cF<|qK<|CO Z Z<|sV (rI (rW (p+(1:Int))))<|sM Z<|sN ?_
       cases oI h
       exact⟨rfl,rfl⟩
      refine sM Z<|k3<|sK<|sU<|sN<|cF<|qK<|CO Z Z<|sV (rI (rW (p+(1:Int))))<|sM Z<|sN ?_
      cases oI h
      exact⟨rfl,rfl⟩
     refine WO.pO (eqE_63 b.az a1) a Z Z Z Z Z<|sM Z<|k3<|sK<|sU<|sM Z<|k3<|sK<|sU<|sN<|cF ?_
     refine qK<|CO Z Z<|sV (rI (rW (p+(1:Int))))<|sM Z<|sN ?_
     cases oI h
     exact⟨rfl,rfl⟩
    refine sN<|qS<|cF<|qX ?_
    cases oI h
    exact⟨nofun,rfl,rfl⟩
   intro e l k he j
   rcases m with q|v
   ·obtain⟨rfl,c⟩:=j
    refine qE<|CO c Z<|sV (rI (rW (q+(1:Int))))<|sM Z<|sN ?_
    cases oI h
    exact⟨rfl,rfl⟩
   obtain⟨rfl,hf⟩:=j
   cases oI h
   exact⟨nofun,rfl,hf⟩
  refine sN<|qS<|cF<|qX ?_
  cases oI h
  exact⟨nofun,rfl,rfl⟩
 intro e l k he j
 rcases n with z|x
 ·obtain⟨rfl,c⟩:=j
  refine qE<|gS Z c<|sV (.d (ac.pd (ac.mk 0 0 0)))<|sS 96 (.var [r0,r0,r0])<|sU<|sN<|qR ?_
  exact oI h▸qD
 obtain⟨rfl,hf⟩:=j
 cases oI h
 exact hf
theorem lX{a0:Int}{r:Int}(h:lr a0=some r):EvP prog aF ext 29 [rI a0] [] (rI r,[]):=by
 refine Ev.body Z Tryz.func29 Z Zk<|gU Z<|sV (r0)<|sN<|gU Z<|mM Z<|sV (rI (rW (a0*a0)))<|sA Z<|sN<|qR ?_
 exact oI h▸qD
theorem Src_Picks_ev{a1:ag}{a2:ah}{a3:Int}{d0:aa}{r:(List ai)×aa}(h:jB a1 a2 a3 d0=some r):EvP prog aF ext 10 [.ptr 0 0,.d (ag.pd a1),.d (ah.pd a2),rI a3] [.var (aa.rc d0)] (rM ai.pd r.1,[.var (aa.rc r.2)]):=by
 refine Ev.body Z Tryz.func10 Z Zk<|gU Z<|sB (.ptr 80 0) 80 (.var (ag.rc a1))<|sB (.ptr 96 0) 96 (.var [rM aj.pd a2.aw])<|sV .cI<|sN<|gU Z<|sV .cI<|sN<|gU Z<|sM Z<|sV (.ptr 80 0)<|sV (.ptr 80 0)<|sV (.d (aq.pd a1.ae.aU))<|bE h fun x1 h1 h=>?_
 refine cR (.d (ac.pd x1.1)) [(0,.var (aa.rc x1.2))] (mc h1)<|sM Z<|bE h fun x2 h2 h=>cR (rI x2.1) [(0,.var (aa.rc x2.2))] (bn h2)<|sV (rI (rW ((1000:Int)+x2.1)))<|sB (.ptr 160 0) 160 (.var [r0,r0,r0])<|sS 160 (.var (ac.rc x1.1))<|sA Z<|sN<|qS<|gU Z<|mM Z<|sV (rI (rW (a3+(1:Int))))<|bE h fun x3 h3 h=>?_
 refine cR (rI x3.1) [(0,.var (aa.rc x3.2))] (bn h3)<|sA Z<|sN<|bE h fun d1 E h=>CI (CL (WL.mL E (fun s=>gI 1 10 4 [(0,.ptr 0 0),(5,.ptr 80 0),(6,.ptr 96 0),(9,.ref 2192 0),(10,.ptr 160 0),(11,rI s.1),(12,rI s.2.1)] [(0,.var [rL s.2.2.1,rI s.2.2.2.1]),(80,.var (ag.rc a1)),(96,.var [rM aj.pd a2.aw]),(160,.var [rI s.2.2.2.2.2.1,rI s.2.2.2.2.2.2.1,rI s.2.2.2.2.2.2.2]),(2192,.arr 0 83 (s.2.2.2.2.1.map ai.pd))]) (fun o=>gX 0 1 10 21 [(9,.ref 2192 0)] [(0,.var [rL o.2.1,rI o.2.2]),(2192,.arr 0 83 (o.1.map ai.pd))]) Z ?_ ?_))
 ·rintro⟨F,K,s6,s7,L,N,u,v⟩ C B c1 t h
  refine qS<|gS Z t<|sM Z<|sF h ?_ ?_<;>intro h
  ·refine sN<|cT<|qK<|qS<|qB<|gU Z<|sM Z<|bE h fun G O h=>cR (rI G.1) [(0,.var (aa.rc G.2))] (bn O)<|bE h fun f Q h=>cD (kN Q)<|sM Z<|sV (.d (.lst ([0,1,50,1000,1048576].map (PD.int .i64))))<|bE h fun b T h=>cR (rI b.1) [(0,.var (aa.rc b.2))] (bG T) ?_
   refine sM Z<|bE h fun a W h=>cR (rI a.1) [(0,.var (aa.rc a.2))] (bn W)<|sV (rI (rW (a.1-(1:Int))))<|sG (.d (ai.pd (ai.mk f 0 0 0 b.1 (rW (a.1-(1:Int))))))<|sB (.ptr 208 0) 208 (.var [rS [],rS [],rS [],rS [],r0,r0,r0,r0,r0])<|sH 208 (.var (ak.rc f++[r0,r0,r0,rI b.1,rI (rW (a.1-(1:Int)))]))<|sN<|gU Z<|sM Z<|bE h fun j X h=>cR (rI j.1) [(0,.var (aa.rc j.2))] (bn X)<|sV (rI (rW ((1000:Int)+j.1)))<|sV (.ptr 208 5)<|sS 208 (.var (ak.rc f++[r0,rI (rW ((1000:Int)+j.1)),r0,rI b.1,rI (rW (a.1-(1:Int)))])) ?_
   refine sN<|CK (α:=Int×Int×(List Int)×Int×(List ai)×Int×Int×Int×Int) (fun x C B=>nA prog 1 (A C B) (aF.at_ 10 1 18)=some (A [(0,.ptr 0 0),(5,.ptr 80 0),(6,.ptr 96 0),(9,.ref 2192 0),(10,.ptr 160 0),(11,rI x.1),(12,rI x.2.1),(13,.ptr 208 0)] [(0,.var [rL x.2.2.1,rI x.2.2.2.1]),(80,.var (ag.rc a1)),(96,.var [rM aj.pd a2.aw]),(160,.var [rI x.2.2.2.2.2.1,rI x.2.2.2.2.2.2.1,rI x.2.2.2.2.2.2.2.1]),(208,.var (ak.rc f++[r0,rI x.2.2.2.2.2.2.2.2,r0,rI b.1,rI (rW (a.1-(1:Int)))])),(2192,.arr 0 83 (x.2.2.2.2.1.map ai.pd))])) (fun x=>dM f b a x.1 x.2.1 x.2.2.1 x.2.2.2.1 x.2.2.2.2.1 x.2.2.2.2.2.1 x.2.2.2.2.2.2.1 x.2.2.2.2.2.2.2.1 x.2.2.2.2.2.2.2.2=some c1) ?_ ?_
   ·refine gU Z<|sM Z<|bE h fun l a7 h=>cR (rI l.1) [(0,.var (aa.rc l.2))] (bn a7)<|sN<|qB<|gU Z<|sF h ?_ ?_<;>intro h
    ·refine sA Z<|sN<|cT<|CO Z Z<|sM Z<|sV (.ptr 80 0)<|sV (.ptr 80 0)<|sV (.d (aq.pd a1.ae.aU))<|bE h fun p a8 h=>cR (.d (ac.pd p.1)) [(0,.var (aa.rc p.2))] (mc a8)<|mM Z<|bE h fun q a9 h=>cR (rI q.1) [(0,.var (aa.rc q.2))] (bn a9)<|sV (rI (rW (F+q.1))) ?_
     exact sS 160 (.var (ac.rc p.1))<|sA rfl<|sN<|⟨((rW (F+q.1)),K,q.2.fL,q.2.fAt,L,p.1.fX,p.1.fY,p.1.fZ,(rW ((1000:Int)+j.1))),rfl,h⟩
    refine sA Z<|sN<|cF<|gU Z<|sF h ?_ ?_<;>intro h
    ·exact sA rfl<|sN<|cT<|qK<|⟨(F,K,l.2.fL,l.2.fAt,L,N,u,v,(rW ((1000:Int)+j.1))),rfl,h⟩
    refine sA Z<|sN<|cF<|gU Z<|sV (.d (ah.pd a2))<|sV (.ptr 208 0)<|sV (.d (ak.pd f))<|sM Z<|bE h fun k b0 h=>cR (.tup [.d (ac.pd k.1),rB k.2]) [] (keep_place_ev b0)<|sM Z<|sV (.d (ac.pd k.1))<|sV (rB k.2)<|sB (.ptr 224 0) 224 (.var [r0,r0,r0])<|sS 224 (.var (ac.rc k.1)) ?_
    refine sA Z<|sN<|gU Z<|sF h ?_ ?_<;>intro h
    ·refine sN<|cT<|gU Z<|sV (r0)<|sN<|qS<|bE h fun i D h=>CI (CL (WL.mL D (fun s=>gI 1 10 12 [(0,.ptr 0 0),(5,.ptr 80 0),(6,.ptr 96 0),(9,.ref 2192 0),(10,.ptr 160 0),(11,rI F),(12,rI K),(13,.ptr 208 0),(14,.ptr 224 0),(16,rI s)] [(0,.var (aa.rc l.2)),(80,.var (ag.rc a1)),(96,.var [rM aj.pd a2.aw]),(160,.var [rI N,rI u,rI v]),(208,.var (ak.rc f++[r0,rI (rW ((1000:Int)+j.1)),r0,rI b.1,rI (rW (a.1-(1:Int)))])),(224,.var (ac.rc k.1)),(2192,.arr 0 83 (L.map ai.pd))]) (fun o=>gX 3 1 10 14 [(0,.ptr 0 0),(5,.ptr 80 0),(6,.ptr 96 0),(9,.ref 2192 0),(10,.ptr 160 0),(11,rI o.1),(12,rI o.2.1),(13,.ptr 208 0),(16,rI o.2.2.1)] [(0,.var (aa.rc l.2)),(80,.var (ag.rc a1)),(96,.var [rM aj.pd a2.aw]),(160,.var [rI o.2.2.2.2.1,rI o.2.2.2.2.2.1,rI o.2.2.2.2.2.2]),(208,.var (ak.rc f++[r0,rI (rW ((1000:Int)+j.1)),r0,rI b.1,rI (rW (a.1-(1:Int)))])),(2192,.arr 0 83 (o.2.2.2.1.map ai.pd))]) Z ?_ ?_))
     ·rintro z C B d2 t h
      refine qS<|CJ t Z<|mM Z<|sV (rI (rW (z*z)))<|sV (.ptr 224 0)<|sL Z<|sV (.ptr 160 0)<|sL Z<|sV (rI (rW (k.1.fX-N)))<|bE h fun H b1 h=>cD (lX b1)<|sV (.ptr 224 1)<|sL Z<|sV (.ptr 160 1) ?_
      refine sL Z<|sV (rI (rW (k.1.fY-u)))<|bE h fun I b2 h=>cD (lX b2)<|sV (rI (rW (H+I)))<|sV (.ptr 224 2)<|sL Z<|sV (.ptr 160 2)<|sL Z<|sV (rI (rW (k.1.fZ-v)))<|bE h fun c2 b3 h=>cD (lX b3)<|sV (rI (rW ((rW (H+I))+c2)))<|sF h ?_ ?_<;>intro h
      ·refine sN<|sO<|cT<|qK<|qB<|CO Z Z<|sM Z<|sV (rI (rW (z+(1:Int))))<|sA Z<|sN ?_
       cases oI h
       exact⟨rfl,rfl⟩
      refine sN<|sO<|cF<|qX ?_
      cases oI h
      exact⟨nofun,rfl,rfl⟩
     intro e C B he hq
     obtain⟨rfl,t⟩:=hq
     refine qE<|CN t Z<|sM Z<|sV (.ptr 80 0)<|sV (.ptr 80 6)<|sV (.ptr 80 7)<|sL Z<|sM Z<|sV (.ptr 80 0)<|sV (.ptr 80 6)<|sV (.ptr 80 6)<|sL Z<|bE h fun J b4 h=>WO.pU b4 Z Z Z Z Z Z<|sV (.ptr 80 0) ?_
     refine sV (.ptr 80 6)<|sV (.ptr 80 7)<|sL Z<|sE (rI (a1.ae.bj.aG.length:Int)) (mE _ _)<|sV (rI (rW ((a1.ae.bj.aG.length:Int)-(1:Int))))<|sV (rI (if(rW ((a1.ae.bj.aG.length:Int)-(1:Int)))<J then(rW ((a1.ae.bj.aG.length:Int)-(1:Int)))else J))<|bE h fun y b5 h=>eG b5 Z<|sC Z<|sV (rI (rW (i.1+y)))<|sM Z<|bE h fun m b6 h=>cR (rI m.1) [(0,.var (aa.rc m.2))] (bn b6)<|sV (rI (rW ((rW (i.1+y))+m.1)))<|sV (.ptr 208 5) ?_
     refine sS 208 (.var (ak.rc f++[r0,rI (rW ((rW (i.1+y))+m.1)),r0,rI b.1,rI (rW (a.1-(1:Int)))])) ?_
     exact sN<|sO<|⟨(i.1,i.2.1,m.2.fL,m.2.fAt,i.2.2.2.1,i.2.2.2.2.1,i.2.2.2.2.2.1,i.2.2.2.2.2.2,(rW ((rW (i.1+y))+m.1))),rfl,h⟩
    exact sN<|cF<|qK<|⟨(F,K,l.2.fL,l.2.fAt,L,N,u,v,(rW ((1000:Int)+j.1))),rfl,h⟩
   rintro⟨c3,c0,c4,c5,c6,c7,c8,c9,c⟩ C B t h
   refine CJ t Z<|sV (.ptr 208 5)<|sL Z<|sM Z<|bE h fun g Y h=>cR (rI g.1) [(0,.var (aa.rc g.2))] (bn Y)<|sV (rI (rW (c+g.1)))<|sV (.ptr 208 4)<|sS 208 (.var (ak.rc f++[rI (rW (c+g.1)),rI c,r0,rI b.1,rI (rW (a.1-(1:Int)))])) ?_
   refine sN<|sO<|CJ Z Z<|sV (.ptr 208 4)<|sL Z<|sM Z<|bE h fun n a5 h=>cR (rI n.1) [(0,.var (aa.rc n.2))] (bn a5)<|sV (rI (rW ((rW (c+g.1))+n.1)))<|sV (.ptr 208 6)<|sS 208 (.var (ak.rc f++[rI (rW (c+g.1)),rI c,rI (rW ((rW (c+g.1))+n.1)),rI b.1,rI (rW (a.1-(1:Int)))])) ?_
   refine sN<|sO<|CO Z Z<|sM Z<|sV (.d (ai.pd (ai.mk f (rW (c+g.1)) c (rW ((rW (c+g.1))+n.1)) b.1 (rW (a.1-(1:Int))))))<|sG (.d (.lst ([(ai.mk f (rW (c+g.1)) c (rW ((rW (c+g.1))+n.1)) b.1 (rW (a.1-(1:Int))))].map ai.pd)))<|bE h fun d3 a6 h=>aR a6 (fun _=>Z) Z<|sA Z<|sN<|CO Z Z<|sM Z<|sV (rI (rW (c0-(1:Int))))<|sA Z<|sN ?_
   cases oI h
   exact⟨rfl,rfl⟩
  refine sN<|cF<|qX ?_
  cases oI h
  exact⟨nofun,rfl,rfl⟩
 intro e C B he hq
 obtain⟨rfl,t⟩:=hq
 refine qE<|gS Z t<|sM Z<|sA Z<|sN<|qR ?_
 exact oI h▸qD
theorem Src_Bent_ev{a1:aq}{d0:aa}{r:aq×aa}(h:kI a1 d0=some r):EvP prog aF ext 12 [.ptr 0 0,.d (aq.pd a1)] [.var (aa.rc d0)] (.d (aq.pd r.1),[.var (aa.rc r.2)]):=by
 refine Ev.body Z Tryz.func12 Z Zk<|gU Z<|sB (.ptr 48 0) 48 (.var (aq.rc a1))<|sB (.ptr 64 0) 64 (.var zZ1)<|sN<|gU Z<|sM Z<|sG (.d (.lst ([-1048577, -1048576,0, -16385, -16384,1048576,1048577].map (PD.int .i64))))<|bE h fun a h1 h=>cR (rI a.1) [(0,.var (aa.rc a.2))] (bG h1)<|sA Z<|sN<|qS<|gU Z<|sM Z ?_
 refine bE h fun b c h=>cR (rI b.1) [(0,.var (aa.rc b.2))] (bn c)<|sN<|qB<|gU Z<|sF h ?_ ?_<;>intro h
 ·refine sA Z<|sN<|cT<|CO Z Z<|sM Z<|sV (.ptr 48 0)<|sV (.ptr 48 0)<|sS 48 (.var (rI a.1::rI a1.aG.fY::rI a1.aG.fZ::ac.rc a1.aB))<|sN<|gU Z<|sV (.d (aq.pd (aq.mk (ac.mk a.1 a1.aG.fY a1.aG.fZ) a1.aB)))<|sH 64 (.var (rI a.1::rI a1.aG.fY::rI a1.aG.fZ::ac.rc a1.aB))<|sN<|qR ?_
  cases oI h
  exact qG
 refine sA Z<|sN<|cF<|gU Z<|sF h ?_ ?_<;>intro h
 ·refine sA Z<|sN<|cT<|CO Z Z<|sM Z<|sV (.ptr 48 0)<|sV (.ptr 48 1)<|sS 48 (.var (rI a1.aG.fX::rI a.1::rI a1.aG.fZ::ac.rc a1.aB))<|sN<|gU Z<|sV (.d (aq.pd (aq.mk (ac.mk a1.aG.fX a.1 a1.aG.fZ) a1.aB)))<|sH 64 (.var (rI a1.aG.fX::rI a.1::rI a1.aG.fZ::ac.rc a1.aB))<|sN<|qR ?_
  cases oI h
  exact qG
 refine sA Z<|sN<|cF<|gU Z<|sF h ?_ ?_<;>intro h
 ·refine sA Z<|sN<|cT<|CO Z Z<|sM Z<|sV (.ptr 48 0)<|sV (.ptr 48 2)<|sS 48 (.var (rI a1.aG.fX::rI a1.aG.fY::rI a.1::ac.rc a1.aB))<|sN<|gU Z<|sV (.d (aq.pd (aq.mk (ac.mk a1.aG.fX a1.aG.fY a.1) a1.aB)))<|sH 64 (.var (rI a1.aG.fX::rI a1.aG.fY::rI a.1::ac.rc a1.aB))<|sN<|qR ?_
  cases oI h
  exact qG
 refine sA Z<|sN<|cF<|gU Z<|sF h ?_ ?_<;>intro h
 ·refine sA Z<|sN<|cT<|CO Z Z<|sM Z<|sV (.ptr 48 3)<|sV (.ptr 48 3)<|sS 48 (.var (ac.rc a1.aG++[rI a.1,rI a1.aB.fY,rI a1.aB.fZ]))<|sN<|gU Z<|sV (.d (aq.pd (aq.mk a1.aG (ac.mk a.1 a1.aB.fY a1.aB.fZ))))<|sH 64 (.var (ac.rc a1.aG++[rI a.1,rI a1.aB.fY,rI a1.aB.fZ]))<|sN<|qR ?_
  cases oI h
  exact qG
 refine sA Z<|sN<|cF<|gU Z<|sF h ?_ ?_<;>intro h
 ·refine sA Z<|sN<|cT<|CO Z Z<|sM Z<|sV (.ptr 48 3)<|sV (.ptr 48 4)<|sS 48 (.var (ac.rc a1.aG++[rI a1.aB.fX,rI a.1,rI a1.aB.fZ]))<|sN<|gU Z<|sV (.d (aq.pd (aq.mk a1.aG (ac.mk a1.aB.fX a.1 a1.aB.fZ))))<|sH 64 (.var (ac.rc a1.aG++[rI a1.aB.fX,rI a.1,rI a1.aB.fZ]))<|sN<|qR ?_
  cases oI h
  exact qG
 refine sA Z<|sN<|cF<|CO Z Z<|sM Z<|sV (.ptr 48 3)<|sV (.ptr 48 5)<|sS 48 (.var (ac.rc a1.aG++[rI a1.aB.fX,rI a1.aB.fY,rI a.1]))<|sN<|gU Z<|sV (.d (aq.pd (aq.mk a1.aG (ac.mk a1.aB.fX a1.aB.fY a.1))))<|sH 64 (.var (ac.rc a1.aG++[rI a1.aB.fX,rI a1.aB.fY,rI a.1]))<|sN<|qR ?_
 cases oI h
 exact qG
theorem jA{a1:ap}{d0:aa}{r:ap×aa}(h:fw a1 d0=some r):EvP prog aF ext 30 [.ptr 0 0,.d (ap.pd a1)] [.var (aa.rc d0)] (.d (ap.pd r.1),[.var (aa.rc r.2)]):=by
 refine Ev.body Z Tryz.func30 Z Zk<|gU Z<|sB (.ptr 48 0) 48 (.var (ap.rc a1))<|sB (.ptr 64 0) 64 (.var [r0,.cI,.cI])<|sN<|CJ Z Z<|sV (.ptr 48 0)<|sL Z<|sB (.ref 128 0) 128 (.arr 0 3 (([]:List Int).map (PD.int .i64)))<|sV (.ptr 48 1)<|sL Z<|bE h fun j h1 h=>aR h1 (fun _=>Z) Z<|sB (.ref 192 0) 192 (.arr 0 3 (([]:List Int).map (PD.int .i64)))<|sV (.ptr 48 2) ?_
 refine sL Z<|bE h fun l E h=>aR E (fun _=>Z) Z<|sV (.agg [rI a1.aY,.ref 128 1,.ref 192 1])<|sB (.ptr 80 0) 80 (.var [r0,.cI,.cI])<|sS 80 (.var [rI a1.aY,.ref 128 1,.ref 192 1]) ?_
 refine sN<|sO<|qS<|gU Z<|sV (.ptr 80 1)<|sL Z<|WO.vK Z Z Z Z Z Z Z Z Z<|sF h ?_ ?_<;>intro h
 ·refine sM Z<|k3<|sK<|sT<|sN<|cT<|gU Z<|sV (.agg [rI a1.aY,.ref 128 1,.ref 192 1])<|sS 64 (.var [rI a1.aY,.ref 128 1,.ref 192 1])<|sN<|qR ?_
  exact oI h▸qD
 refine sM Z<|sV (.ptr 80 2)<|sL Z<|WO.vK Z Z Z Z Z Z Z Z Z<|sV (rB ((l.length:Int)==(0:Int)))<|sF h ?_ ?_<;>intro h
 ·refine sN<|cT<|gU Z<|sV (.agg [rI a1.aY,.ref 128 1,.ref 192 1])<|sS 64 (.var [rI a1.aY,.ref 128 1,.ref 192 1])<|sN<|qR ?_
  exact oI h▸qD
 refine sN<|cF<|qK<|qS<|gU Z<|sM Z<|bE h fun m F h=>cR (rI m.1) [(0,.var (aa.rc m.2))] (bn F)<|sN<|qB<|gU Z<|sF h ?_ ?_<;>intro h
 ·refine sA Z<|sN<|cT<|CO Z Z<|sM Z<|sV (.d (.lst ([-1,0,1,1048576,1048577].map (PD.int .i64))))<|bE h fun n G h=>cR (rI n.1) [(0,.var (aa.rc n.2))] (bG G)<|sV (.ptr 80 0)<|sS 80 (.var [rI n.1,.ref 128 1,.ref 192 1])<|sN<|gU Z<|sV (.agg [rI n.1,.ref 128 1,.ref 192 1])<|sS 64 (.var [rI n.1,.ref 128 1,.ref 192 1])<|sN ?_
  refine qR ?_
  exact oI h▸qD
 refine sA Z<|sN<|cF<|gU Z<|sF h ?_ ?_<;>intro h
 ·refine sA Z<|sN<|cT<|CN Z Z<|sV (.ptr 80 1)<|sL Z<|sM Z<|sV (.ptr 80 1)<|sL Z<|WO.vK Z Z Z Z Z Z Z Z Z<|bE h fun D H h=>cR (rI D.1) [(0,.var (aa.rc D.2))] (bn H)<|sM Z<|sV (.d (.lst ([-1,0,1099511627776,1099511627777].map (PD.int .i64))))<|bE h fun b o h=>?_
  refine cR (rI b.1) [(0,.var (aa.rc b.2))] (bG o)<|bE h fun I q h=>WO.qi q Z Z Z Z Z Z Z Z<|bE h fun J s h=>WO.rA (g:=(PD.int .i64)) (sz:=1) (p:= .int .i64 b.1) s (fun _=>Z) (fun _=>Z) Z Z Z Z Z Z Z Z Z ?_
  refine sN<|sO<|gU Z<|sV (.agg [rI a1.aY,.ref 128 1,.ref 192 1])<|sS 64 (.var [rI a1.aY,.ref 128 1,.ref 192 1])<|sN<|qR ?_
  exact oI h▸qD
 refine sA Z<|sN<|cF<|gU Z<|sF h ?_ ?_<;>intro h
 ·refine sA Z<|sN<|cT<|CN Z Z<|sV (.ptr 80 2)<|sL Z<|sM Z<|sV (.ptr 80 2)<|sL Z<|WO.vK Z Z Z Z Z Z Z Z Z<|bE h fun k t h=>cR (rI k.1) [(0,.var (aa.rc k.2))] (bn t)<|sM Z<|sV (.d (.lst ([-1,0,1099511627776,1099511627777].map (PD.int .i64))))<|bE h fun c u h=>?_
  refine cR (rI c.1) [(0,.var (aa.rc c.2))] (bG u)<|bE h fun K v h=>WO.qi v Z Z Z Z Z Z Z Z<|bE h fun L x h=>WO.rA (g:=(PD.int .i64)) (sz:=1) (p:= .int .i64 c.1) x (fun _=>Z) (fun _=>Z) Z Z Z Z Z Z Z Z Z ?_
  refine sN<|sO<|gU Z<|sV (.agg [rI a1.aY,.ref 128 1,.ref 192 1])<|sS 64 (.var [rI a1.aY,.ref 128 1,.ref 192 1])<|sN<|qR ?_
  exact oI h▸qD
 refine sA Z<|sN<|cF<|gU Z<|sF h ?_ ?_<;>intro h
 ·refine sA Z<|sN<|cT<|CO (R0:=[(4,.ptr 64 0),(5,.ptr 80 0)]) (B0:=[(0,.var (aa.rc m.2)),(64,.var [r0,.cI,.cI]),(80,.var [rI a1.aY,rL j,.ref 192 0]),(192,.arr 0 3 (l.map (PD.int .i64)))]) Z Z<|sV (.ptr 80 1)<|sL Z<|sV (.ptr 80 1)<|sL Z<|sE (rI (j.length:Int)) (mE _ _)<|sV (rI (rW ((j.length:Int)-(1:Int))))<|bE h fun e y h=>WO.cutL (sz:=1) (g:=(PD.int .i64)) y (fun _=>Z) Z Z Z Z Z Z Z Z Z Z Z<|sV (.ptr 80 1)<|sS 80 (.var [rI a1.aY,rL e,.ref 192 0])<|sN ?_
  refine gU Z<|sV (.agg [rI a1.aY,rL e,.ref 192 0])<|sS 64 (.var [rI a1.aY,rL e,.ref 192 0])<|sN<|qR ?_
  exact oI h▸qD
 refine sA Z<|sN<|cF<|gU Z<|sF h ?_ ?_<;>intro h
 ·refine sA Z<|sN<|cT<|CO (R0:=[(4,.ptr 64 0),(5,.ptr 80 0)]) (B0:=[(0,.var (aa.rc m.2)),(64,.var [r0,.cI,.cI]),(80,.var [rI a1.aY,.ref 128 0,rL l]),(128,.arr 0 3 (j.map (PD.int .i64)))]) Z Z<|sV (.ptr 80 2)<|sL Z<|bE h fun f z h=>WO.cutL (sz:=1) (g:=(PD.int .i64)) z (fun _=>Z) Z Z Z Z Z Z Z Z Z Z Z<|sV (.ptr 80 2)<|sS 80 (.var [rI a1.aY,.ref 128 0,rL f])<|sN<|gU Z<|sV (.agg [rI a1.aY,.ref 128 0,rL f])<|sS 64 (.var [rI a1.aY,.ref 128 0,rL f])<|sN ?_
  refine qR ?_
  exact oI h▸qD
 refine sA Z<|sN<|cF<|CN (R0:=[(4,.ptr 64 0),(5,.ptr 80 0)]) (B0:=[(0,.var (aa.rc m.2)),(64,.var [r0,.cI,.cI]),(80,.var [rI a1.aY,rL j,rL l])]) Z Z<|sV (.ptr 80 1)<|sL Z<|bE h fun a B h=>WO.cutL (sz:=1) (g:=(PD.int .i64)) B (fun _=>Z) Z Z Z Z Z Z Z Z Z Z Z<|sV (.ptr 80 2)<|sL Z<|bE h fun i C h=>WO.cutL (sz:=1) (g:=(PD.int .i64)) C (fun _=>Z) Z Z Z Z Z Z Z Z Z Z Z<|sV (.ptr 80 1)<|sS 80 (.var [rI a1.aY,rL a,rL l])<|sV (.ptr 80 2) ?_
 refine sS 80 (.var [rI a1.aY,rL a,rL i]) ?_
 refine sN<|sO<|gU Z<|sV (.d (ap.pd (ap.mk a1.aY a i)))<|sS 64 (.var [rI a1.aY,rL a,rL i])<|sN<|qR ?_
 exact oI h▸qD
theorem lz{a1:ag}{d0:aa}{r:ag×aa}(h:fc a1 d0=some r):EvP prog aF ext 11 [.ptr 0 0,.d (ag.pd a1)] [.var (aa.rc d0)] (.d (ag.pd r.1),[.var (aa.rc r.2)]):=by
 refine Ev.body Z Tryz.func11 Z Zk<|gU Z<|sB (.ptr 48 0) 48 (.var (ag.rc a1))<|sB (.ptr 64 0) 64 (.var [r0,r0,r0,r0,r0,r0,r0,.cI,.cI,r0,r0,r0,r0,r0,r0,.cI,.cI,r0,r0,r0])<|sN<|qS<|gU Z<|sM Z<|bE h fun k h1 h=>cR (rI k.1) [(0,.var (aa.rc k.2))] (bn h1)<|sN<|qB<|gU Z<|sF h ?_ ?_<;>intro h
 ·refine sA Z<|sN<|cT<|CO Z Z<|sM Z<|sV (.ptr 48 0)<|sV (.ptr 48 0)<|sV (.d (aq.pd a1.ae.aU))<|bE h fun e l h=>cR (.d (aq.pd e.1)) [(0,.var (aa.rc e.2))] (Src_Bent_ev l)<|sV (.ptr 48 0)<|sV (.ptr 48 0)<|sH 48 (.var (aq.rc e.1++ap.rc a1.ae.bj++rI a1.ae.gK::rI a1.ae.aK::rI a1.ae.dn::rI a1.ae.ce::rI a1.ae.b9::aM.rc a1.bi++[rI a1.aK]))<|sN<|gU Z ?_
  refine sV (.d (ag.pd (ag.mk (aJ.mk e.1 a1.ae.bj a1.ae.gK a1.ae.aK a1.ae.dn a1.ae.ce a1.ae.b9) a1.bi a1.aK)))<|sH 64 (.var (aq.rc e.1++ap.rc a1.ae.bj++rI a1.ae.gK::rI a1.ae.aK::rI a1.ae.dn::rI a1.ae.ce::rI a1.ae.b9::aM.rc a1.bi++[rI a1.aK]))<|sN<|qR ?_
  cases oI h
  exact qG
 refine sA Z<|sN<|cF<|gU Z<|sF h ?_ ?_<;>intro h
 ·refine sA Z<|sN<|cT<|CO Z Z<|sM Z<|sV (.ptr 48 0)<|sV (.ptr 48 6)<|sV (.d (ap.pd a1.ae.bj))<|bE h fun c m h=>cR (.d (ap.pd c.1)) [(0,.var (aa.rc c.2))] (jA m)<|sV (.ptr 48 0)<|sV (.ptr 48 6)<|sS 48 (.var (aq.rc a1.ae.aU++ap.rc c.1++rI a1.ae.gK::rI a1.ae.aK::rI a1.ae.dn::rI a1.ae.ce::rI a1.ae.b9::aM.rc a1.bi++[rI a1.aK]))<|sN<|gU Z ?_
  refine sV (.d (.agg [.int .i64 a1.ae.aU.aG.fX,.int .i64 a1.ae.aU.aG.fY,.int .i64 a1.ae.aU.aG.fZ,.int .i64 a1.ae.aU.aB.fX,.int .i64 a1.ae.aU.aB.fY,.int .i64 a1.ae.aU.aB.fZ,.int .i64 c.1.aY,.lst (c.1.aG.map (PD.int .i64)),.lst (c.1.aB.map (PD.int .i64)),.int .i64 a1.ae.gK,.int .i64 a1.ae.aK,.int .i64 a1.ae.dn,.int .i64 a1.ae.ce,.int .i64 a1.ae.b9,.int .i64 a1.bi.aV.aY,.lst (a1.bi.aV.aG.map (PD.int .i64)),.lst (a1.bi.aV.aB.map (PD.int .i64)),.int .i64 a1.bi.aQ,.int .i64 a1.bi.aL,.int .i64 a1.aK]))<|sH 64 (.var (aq.rc a1.ae.aU++ap.rc c.1++rI a1.ae.gK::rI a1.ae.aK::rI a1.ae.dn::rI a1.ae.ce::rI a1.ae.b9::aM.rc a1.bi++[rI a1.aK]))<|sN<|qR ?_
  cases oI h
  exact qG
 refine sA Z<|sN<|cF<|gU Z<|sF h ?_ ?_<;>intro h
 ·refine sA Z<|sN<|cT<|CO Z Z<|sM Z<|sV (.d (.lst ([-1,0,1099511627776,1099511627777].map (PD.int .i64))))<|bE h fun f n h=>cR (rI f.1) [(0,.var (aa.rc f.2))] (bG n)<|sV (.ptr 48 0)<|sV (.ptr 48 9)<|sS 48 (.var (aq.rc a1.ae.aU++ap.rc a1.ae.bj++rI f.1::rI a1.ae.aK::rI a1.ae.dn::rI a1.ae.ce::rI a1.ae.b9::aM.rc a1.bi++[rI a1.aK]))<|sN<|gU Z<|sV (.d (ag.pd (ag.mk (aJ.mk a1.ae.aU a1.ae.bj f.1 a1.ae.aK a1.ae.dn a1.ae.ce a1.ae.b9) a1.bi a1.aK)))<|sH 64 (.var (aq.rc a1.ae.aU++ap.rc a1.ae.bj++rI f.1::rI a1.ae.aK::rI a1.ae.dn::rI a1.ae.ce::rI a1.ae.b9::aM.rc a1.bi++[rI a1.aK])) ?_
  refine sN<|qR ?_
  cases oI h
  exact qG
 refine sA Z<|sN<|cF<|gU Z<|sF h ?_ ?_<;>intro h
 ·refine sA Z<|sN<|cT<|CO Z Z<|sM Z<|sV (.d (.lst ([-1,0,1099511627776,1099511627777].map (PD.int .i64))))<|bE h fun g o h=>cR (rI g.1) [(0,.var (aa.rc g.2))] (bG o)<|sV (.ptr 48 19)<|sS 48 (.var (aJ.rc a1.ae++aM.rc a1.bi++[rI g.1]))<|sN<|gU Z<|sV (.d (ag.pd (ag.mk a1.ae a1.bi g.1)))<|sH 64 (.var (aJ.rc a1.ae++aM.rc a1.bi++[rI g.1]))<|sN ?_
  refine qR ?_
  cases oI h
  exact qG
 refine sA Z<|sN<|cF<|gU Z<|sF h ?_ ?_<;>intro h
 ·refine sA Z<|sN<|cT<|CO Z Z<|sM Z<|sV (.ptr 48 14)<|sV (.ptr 48 14)<|sV (.d (ap.pd a1.bi.aV))<|bE h fun a i h=>cR (.d (ap.pd a.1)) [(0,.var (aa.rc a.2))] (jA i)<|sV (.ptr 48 14)<|sV (.ptr 48 14)<|sS 48 (.var (aJ.rc a1.ae++ap.rc a.1++[rI a1.bi.aQ,rI a1.bi.aL,rI a1.aK]))<|sN<|gU Z ?_
  refine sV (.d (.agg [.int .i64 a1.ae.aU.aG.fX,.int .i64 a1.ae.aU.aG.fY,.int .i64 a1.ae.aU.aG.fZ,.int .i64 a1.ae.aU.aB.fX,.int .i64 a1.ae.aU.aB.fY,.int .i64 a1.ae.aU.aB.fZ,.int .i64 a1.ae.bj.aY,.lst (a1.ae.bj.aG.map (PD.int .i64)),.lst (a1.ae.bj.aB.map (PD.int .i64)),.int .i64 a1.ae.gK,.int .i64 a1.ae.aK,.int .i64 a1.ae.dn,.int .i64 a1.ae.ce,.int .i64 a1.ae.b9,.int .i64 a.1.aY,.lst (a.1.aG.map (PD.int .i64)),.lst (a.1.aB.map (PD.int .i64)),.int .i64 a1.bi.aQ,.int .i64 a1.bi.aL,.int .i64 a1.aK]))<|sH 64 (.var (aJ.rc a1.ae++ap.rc a.1++[rI a1.bi.aQ,rI a1.bi.aL,rI a1.aK]))<|sN<|qR ?_
  cases oI h
  exact qG
 refine sA Z<|sN<|cF<|CO Z Z<|sM Z<|sV (.d (.lst ([-1,0,1,65536,65537].map (PD.int .i64))))<|bE h fun b j h=>cR (rI b.1) [(0,.var (aa.rc b.2))] (bG j)<|sV (.ptr 48 14)<|sV (.ptr 48 18)<|sS 48 (.var (aJ.rc a1.ae++ap.rc a1.bi.aV++[rI a1.bi.aQ,rI b.1,rI a1.aK]))<|sN<|gU Z<|sV (.d (ag.pd (ag.mk a1.ae (aM.mk a1.bi.aV a1.bi.aQ b.1) a1.aK)))<|sH 64 (.var (aJ.rc a1.ae++ap.rc a1.bi.aV++[rI a1.bi.aQ,rI b.1,rI a1.aK])) ?_
 refine sN<|qR ?_
 cases oI h
 exact qG
theorem cw{a0:ac}{r:aP}(h:cb a0=some r):EvP prog aF ext 56 [.d (ac.pd a0)] [] (.d (aP.pd r),[]):=by
 refine Ev.body Z Tryz.func56 Z Zk<|gU Z<|sB (.ptr 16 0) 16 (.var (ac.rc a0))<|sB (.ptr 32 0) 32 (.var [r0,r0,r0])<|sN<|gU Z<|sV (.ptr 16 0)<|sL Z<|sV (.ptr 16 1)<|sL Z<|sV (.ptr 16 2)<|sL Z<|sV (.d (aP.pd (aP.mk a0.fX a0.fY a0.fZ)))<|sS 32 (.var (ac.rc a0))<|sN ?_
 refine qR ?_
 exact oI h▸qD
theorem cv{a0:ac}{r:Bool}(h:cu a0=some r):EvP prog aF ext 55 [.d (ac.pd a0)] [] (rB r,[]):=by
 refine Ev.body Z Tryz.func55 Z Zk<|gU Z<|sB (.ptr 16 0) 16 (.var (ac.rc a0))<|sU<|sN<|gU Z<|sV (.d (aP.pd (aP.mk (-1048576) (-1048576) (-16384))))<|sB (.ptr 48 0) 48 (.var [r0,r0,r0])<|sS 48 (.var [rI (-1048576),rI (-1048576),rI (-16384)])<|sN<|qS<|gU Z<|sV (.d (ac.pd a0))<|bE h fun a h1 h=>cD (cw h1) ?_
 refine sV (r0)<|sN<|CI (CL ?_)
 refine WL.round<|gU Z<|sT<|sN<|qS<|cT<|qK<|qS<|qB<|gU Z<|sM Z<|sV (rI a.a0)<|sA Z<|sA Z<|sN ?_
 refine gU Z<|mM Z<|sV (.ptr 48 0)<|sL Z<|sF h ?_ ?_<;>intro h
 ·refine sM Z<|sK<|sK<|sT<|sN<|cT<|gU Z<|sU<|sN<|qR ?_
  exact oI h▸qD
 refine mM Z<|sV (rB (decide (a.a0>(1048576:Int))))<|sF h ?_ ?_<;>intro h
 ·refine sN<|cT<|gU Z<|sU<|sN<|qR ?_
  exact oI h▸qD
 refine sN<|cF<|qK<|CO Z Z<|sV (rI 1)<|sM Z<|sN<|WL.round<|gU Z<|sT<|sN<|qS<|cT<|qK<|qS ?_
 refine qB<|gU Z<|sM Z<|sV (rI a.a1)<|sA Z<|sA Z<|sN<|gU Z<|mM Z<|sV (.ptr 48 1)<|sL Z<|sF h ?_ ?_<;>intro h
 ·refine sM Z<|sK<|sK<|sT<|sN<|cT<|gU Z<|sU<|sN<|qR ?_
  exact oI h▸qD
 refine mM Z<|sV (rB (decide (a.a1>(1048576:Int))))<|sF h ?_ ?_<;>intro h
 ·refine sN<|cT<|gU Z<|sU<|sN<|qR ?_
  exact oI h▸qD
 refine sN<|cF<|qK<|CO Z Z<|sV (rI 2)<|sM Z<|sN<|WL.round<|gU Z<|sT<|sN<|qS<|cT<|qK<|qS ?_
 refine qB<|gU Z<|sM Z<|sV (rI a.a2)<|sA Z<|sA Z<|sN<|gU Z<|mM Z<|sV (.ptr 48 2)<|sL Z<|sF h ?_ ?_<;>intro h
 ·refine sM Z<|sK<|sK<|sT<|sN<|cT<|gU Z<|sU<|sN<|qR ?_
  exact oI h▸qD
 refine mM Z<|sV (rB (decide (a.a2>(1048576:Int))))<|sF h ?_ ?_<;>intro h
 ·refine sN<|cT<|gU Z<|sU<|sN<|qR ?_
  exact oI h▸qD
 refine sN<|cF<|qK<|CO Z Z<|sV (rI 3)<|sM Z<|sN<|WL.round<|gU Z<|sU<|sN<|qS<|cF<|qX<|qE ?_
 refine gU Z<|sT<|sN<|qR ?_
 exact oI h▸qD
theorem cn{a0:aq}{r:Bool}(h:bU a0=some r):EvP prog aF ext 32 [.d (aq.pd a0)] [] (rB r,[]):=by
 refine Ev.body Z Tryz.func32 Z Zk<|gU Z<|sB (.ptr 16 0) 16 (.var (aq.rc a0))<|sU<|sN<|qS<|gU Z<|sV (.ptr 16 0)<|sV (.d (ac.pd a0.aG))<|bE h fun i h1 h=>cD (cv h1)<|sF h ?_ ?_<;>intro h
 ·refine sM Z<|k3<|sK<|sT<|sN<|cT<|gU Z<|sU<|sN<|qR ?_
  exact oI h▸qD
 refine sM Z<|sV (.ptr 16 3)<|sV (.d (ac.pd a0.aB))<|bE h fun g c h=>cD (cv c)<|sV (rB (!g))<|sF h ?_ ?_<;>intro h
 ·refine sN<|cT<|gU Z<|sU<|sN<|qR ?_
  exact oI h▸qD
 refine sN<|cF<|qK<|gU Z<|sV (.ptr 16 3)<|sV (.d (ac.pd a0.aB))<|bE h fun a e h=>cD (cw e)<|sB (.ptr 48 0) 48 (.var [r0,r0,r0])<|sS 48 (.var [rI a.a0,rI a.a1,rI a.a2])<|sN<|qS<|gU Z<|sV (.ptr 16 0)<|sV (.d (ac.pd a0.aG)) ?_
 refine bE h fun b f h=>cD (cw f)<|sV (r0)<|sN<|CI (CL ?_)
 refine WL.round<|gU Z<|sT<|sN<|qS<|cT<|qK<|qS<|qB<|gU Z<|sM Z<|sV (rI b.a0)<|sA Z<|sA Z<|sN ?_
 refine gU Z<|mM Z<|sV (.ptr 48 0)<|sL Z<|sF h ?_ ?_<;>intro h
 ·refine sN<|cT<|gU Z<|sU<|sN<|qR ?_
  exact oI h▸qD
 refine sN<|cF<|qK<|CO Z Z<|sV (rI 1)<|sM Z<|sN<|WL.round<|gU Z<|sT<|sN<|qS<|cT<|qK<|qS ?_
 refine qB<|gU Z<|sM Z<|sV (rI b.a1)<|sA Z<|sA Z<|sN<|gU Z<|mM Z<|sV (.ptr 48 1)<|sL Z<|sF h ?_ ?_<;>intro h
 ·refine sN<|cT<|gU Z<|sU<|sN<|qR ?_
  exact oI h▸qD
 refine sN<|cF<|qK<|CO Z Z<|sV (rI 2)<|sM Z<|sN<|WL.round<|gU Z<|sT<|sN<|qS<|cT<|qK<|qS ?_
 refine qB<|gU Z<|sM Z<|sV (rI b.a2)<|sA Z<|sA Z<|sN<|gU Z<|mM Z<|sV (.ptr 48 2)<|sL Z<|sF h ?_ ?_<;>intro h
 ·refine sN<|cT<|gU Z<|sU<|sN<|qR ?_
  exact oI h▸qD
 refine sN<|cF<|qK<|CO Z Z<|sV (rI 3)<|sM Z<|sN<|WL.round<|gU Z<|sU<|sN<|qS<|cF<|qX<|qE ?_
 refine gU Z<|sT<|sN<|qR ?_
 exact oI h▸qD
theorem dA{a0:ap}{r:Int}(h:b8 a0=some r):EvP prog aF ext 88 [.d (ap.pd a0)] [] (rI r,[]):=by
 refine Ev.body Z Tryz.func88 Z Zk<|gU Z<|sB (.ptr 16 0) 16 (.var (ap.rc a0))<|sV (r0)<|sN<|gU Z<|sV (.ptr 16 1)<|sL Z<|sE (rI (a0.aG.length:Int)) (mE _ _)<|sA Z<|sN<|qS<|gU Z<|sV (.ptr 16 0)<|sL Z ?_
 refine sF h ?_ ?_<;>intro h
 ·refine sM Z<|k3<|sT<|sM Z<|k3<|sK<|sK<|sT<|sM Z<|sK<|sK ?_
  refine sT<|sM Z<|sK<|sK<|sT<|sN<|cT<|gU Z<|sV (rI 21)<|sN<|qR ?_
  exact oI h▸qD
 refine sM Z<|sV (.ptr 16 0)<|sL Z<|sV (rB (decide (a0.aY>(1048576:Int))))<|sF h ?_ ?_<;>intro h
 ·refine sM Z<|k3<|sK<|sK<|sT<|sM Z<|sK<|sK<|sT<|sM Z<|sK<|sK<|sT ?_
  refine sN<|cT<|gU Z<|sV (rI 21)<|sN<|qR ?_
  exact oI h▸qD
 refine mM Z<|sV (.ptr 16 2)<|sL Z<|sE (rI (a0.aB.length:Int)) (mE _ _)<|sV (rB ((a0.aG.length:Int) != (a0.aB.length:Int)))<|sF h ?_ ?_<;>intro h
 ·refine sM Z<|sK<|sK<|sT<|sM Z<|sK<|sK<|sT<|sN<|cT<|gU Z<|sV (rI 21)<|sN<|qR ?_
  exact oI h▸qD
 refine mM Z<|sV (rB (decide ((a0.aG.length:Int)<(2:Int))))<|sF h ?_ ?_<;>intro h
 ·refine sM Z<|sK<|sK<|sT<|sN<|cT<|gU Z<|sV (rI 21)<|sN<|qR ?_
  exact oI h▸qD
 refine mM Z<|sV (rB (decide ((a0.aG.length:Int)>(256:Int))))<|sF h ?_ ?_<;>intro h
 ·refine sN<|cT<|gU Z<|sV (rI 21)<|sN<|qR ?_
  exact oI h▸qD
 refine sN<|cF<|qK<|gU Z<|sV (r0)<|sV (r0)<|sN<|qS<|gU Z<|sM Z<|sV (r0)<|sN<|bE h fun m a h=>CI (CL (WL.mL a (fun s=>gI 0 88 6 [(1,.ptr 16 0),(4,rI s.1),(5,rI s.2.1),(33,rI (a0.aG.length:Int)),(34,rI s.2.2)] [(16,.var (ap.rc a0))]) (fun o=>match o with| .inl y=>gX 0 0 88 12 [] []| .inr r=>gF 88 Tryz.f88 0 (rI r,[])) Z ?_ ?_))
 ·rintro⟨I,B,C⟩ x v H l h
  refine gS Z l<|sF h ?_ ?_<;>intro h
  ·refine sN<|qS<|cT<|qK<|qS<|qB<|gU Z<|sM Z<|sA Z<|sN<|qS<|CJ Z Z<|sV (.ptr 16 1)<|sL Z<|sM Z ?_
   refine bE h fun D b h=>eG b Z<|sC Z<|sM Z<|sF h ?_ ?_<;>intro h
   ·refine sM Z<|k3<|k3<|sK<|sT<|sM Z<|k3<|sK<|sK ?_
    refine k3<|k3<|sT<|sM Z<|k3<|k3<|sT ?_
    refine sN<|sO<|cT<|gU Z<|sV (rI 21)<|sN<|qR ?_
    cases oI h
    exact⟨nofun,rfl,rfl⟩
   refine sM Z<|sV (.ptr 16 2)<|sL Z<|sM Z<|bE h fun n c h=>eG c Z<|sC Z<|sM Z<|sV (rB (decide (n<B)))<|sF h ?_ ?_<;>intro h
   ·refine sM Z<|k3<|k3<|k3<|sK<|sK<|sT<|sM Z<|sK ?_
    refine k3<|sK<|sK<|sT ?_
    refine sN<|sO<|cT<|gU Z<|sV (rI 21)<|sN<|qR ?_
    cases oI h
    exact⟨nofun,rfl,rfl⟩
   refine sM Z<|sV (.ptr 16 1)<|sL Z<|sM Z<|bE h fun p f h=>eG f Z<|sC Z<|sV (.ptr 16 2)<|sL Z<|sM Z<|bE h fun q g h=>eG g Z<|sC Z<|sV (rB (decide (p>q)))<|sF h ?_ ?_<;>intro h
   ·refine sM Z<|k3<|k3<|sT ?_
    refine sN<|sO<|cT<|gU Z<|sV (rI 21)<|sN<|qR ?_
    cases oI h
    exact⟨nofun,rfl,rfl⟩
   refine sM Z<|sV (.ptr 16 2)<|sL Z<|sM Z<|bE h fun t i h=>eG i Z<|sC Z<|sV (rB (decide (t>(1099511627776:Int))))<|sF h ?_ ?_<;>intro h
   ·refine sN<|sO<|cT<|gU Z<|sV (rI 21)<|sN<|qR ?_
    cases oI h
    exact⟨nofun,rfl,rfl⟩
   refine sN<|sO<|cF<|qK<|CN Z Z<|sV (.ptr 16 1)<|sL Z<|sM Z<|bE h fun E j h=>eG j Z<|sC Z<|sV (.ptr 16 2)<|sL Z<|sM Z<|bE h fun F k h=>eG k Z ?_
   refine sC Z<|sA Z<|sA Z ?_
   refine sN<|sO<|CO Z Z<|sV (rI (rW (C+(1:Int))))<|sM Z<|sN ?_
   cases oI h
   exact⟨rfl,rfl⟩
  refine sN<|qS<|cF<|qX ?_
  cases oI h
  exact⟨nofun,rfl,rfl⟩
 intro e x v he u
 rcases m with G|z
 ·obtain⟨rfl,l⟩:=u
  refine qE<|gS Z l<|sV (r0)<|sN<|qR ?_
  exact oI h▸qD
 obtain⟨rfl,hf⟩:=u
 cases oI h
 exact hf
theorem eD{a0:Int}{a1:Int}{a2:Int}{r:Bool}(h:ev a0 a1 a2=some r):EvP prog aF ext 89 [rI a0,rI a1,rI a2] [] (rB r,[]):=by
 refine Ev.body Z Tryz.func89 Z Zk<|gU Z<|sU<|sN<|gU Z<|mM Z<|sF h ?_ ?_<;>intro h
 ·refine mM Z<|sM Z<|sV (rB (decide (a0<=a2)))<|sV (rB (decide (a0<=a2)))<|sA Z<|sN<|qR ?_
  exact oI h▸qD
 refine sM Z<|k3<|sU<|sA Z<|sN<|qR ?_
 exact oI h▸qD
theorem lA{a0:aC}{r:Bool}(h:gQ a0=some r):EvP prog aF ext 134 [.d (aC.pd a0)] [] (rB r,[]):=by
 refine Ev.body Z Tryz.func134 Z Zk<|gU Z<|sB (.ptr 16 0) 16 (.var (aC.rc a0))<|sU<|sN<|gU Z<|sV (.ptr 16 0)<|sV (.d (ac.pd a0.aS))<|bE h fun c h1 h=>na h (fun a h=>?_) (fun a h=>?_)
 ·refine WO.nL (v:=rB true) (u:=[]) Z Z (fun _=>Z) Z Z Z Z Z (cv h1) Z Z (congrArg (fun b=>RV.d (.bool b)) a) Z<|sM Z<|sV (.ptr 16 3)<|sL Z<|sV (rB (decide (a0.bd>=(0:Int))))<|sF h ?_ ?_<;>intro h
  ·refine sM Z<|sV (.ptr 16 3)<|sL Z<|sV (.ptr 16 4)<|sL Z<|sV (rB (decide (a0.bd<=a0.bk)))<|sF h ?_ ?_<;>intro h
   ·refine sM Z<|sV (.ptr 16 4)<|sL Z<|sV (rB (decide (a0.bk<=(18014398509481984:Int))))<|sF h ?_ ?_<;>intro h
    ·refine sM Z<|sV (.ptr 16 5)<|sL Z<|sV (rB (decide (a0.jS>=(1:Int))))<|sF h ?_ ?_<;>intro h
     ·refine sM Z<|sV (.ptr 16 5)<|sL Z<|sV (rB (decide (a0.jS<=(100:Int))))<|sV (rB (decide (a0.jS<=(100:Int))))<|sA Z<|sN<|qR ?_
      exact oI h▸qD
     refine sM Z<|k3<|sU<|sA Z<|sN<|qR ?_
     exact oI h▸qD
    refine sM Z<|k3<|sU<|sM Z<|k3<|sU<|sA Z<|sN<|qR ?_
    exact oI h▸qD
   refine sM Z<|k3<|sU<|sM Z<|k3<|sU<|sM Z<|k3<|sU ?_
   refine sA Z<|sN<|qR ?_
   exact oI h▸qD
  refine sM Z<|k3<|sK<|sK<|sU<|sM Z<|k3<|sU<|sM Z<|sK<|sK ?_
  refine sK<|sU<|sM Z<|k3<|sU<|sA Z<|sN<|qR ?_
  exact oI h▸qD
 refine WO.nL (v:=rB false) (u:=[]) Z Z (fun _=>Z) Z Z Z Z Z (cv h1) Z Z (congrArg (fun b=>RV.d (.bool b)) a) Z<|sM Z<|k3<|sU<|sM Z<|k3<|sK<|sK<|sU<|sM Z<|sK ?_
 refine sK<|sK<|sU<|sM Z<|k3<|sU<|sM Z<|k3<|sU<|sA Z<|sN ?_
 refine qR ?_
 exact oI h▸qD
theorem fq{a0:Int}{a1:Int}{a2:Int}{r:Int}(h:du a0 a1 a2=some r):EvP prog aF ext 106 [rI a0,rI a1,rI a2] [] (rI r,[]):=by
 refine Ev.body Z Tryz.func106 Z Zk<|gU Z<|sV (r0)<|sN<|gU Z<|mM Z<|sV (rI (rW (a1-a0)))<|mM Z<|sV (rI (rW (a0-a2)))<|sV (rI (if(0:Int)>(if(rW (a0-a2))>(rW (a1-a0))then(rW (a0-a2))else(rW (a1-a0)))then(0:Int)else(if(rW (a0-a2))>(rW (a1-a0))then(rW (a0-a2))else(rW (a1-a0)))))<|sA Z<|sN<|qR ?_
 exact oI h▸qD
theorem jf{a0:aq}{a1:ac}{r:Int}(h:ew a0 a1=some r):EvP prog aF ext 105 [.d (aq.pd a0),.d (ac.pd a1),.d (.raw (.func (.func 106) #[] #[]))] [] (rI r,[]):=by
 refine Ev.body Z Tryz.func105 Z Zk<|gU Z<|sB (.ptr 48 0) 48 (.var (aq.rc a0))<|sB (.ptr 64 0) 64 (.var (ac.rc a1))<|sV (r0)<|sN<|qS<|gU Z<|sV (.d (aq.pd a0))<|bE h fun q h1 h=>cD (cn h1)<|sF h ?_ ?_<;>intro h
 ·refine sM Z<|k3<|sT<|sN<|cT<|gU Z<|sV (r0)<|sN<|qR ?_
  exact oI h▸qD
 refine sM Z<|sV (.d (ac.pd a1))<|bE h fun p j h=>cD (cv j)<|sV (rB (!p))<|sF h ?_ ?_<;>intro h
 ·refine sN<|cT<|gU Z<|sV (r0)<|sN<|qR ?_
  exact oI h▸qD
 refine sN<|cF<|qK<|CJ Z Z<|sV (.ptr 48 0)<|sV (.d (ac.pd a0.aG))<|bE h fun a k h=>cD (cw k)<|sV (.ptr 48 3)<|sV (.d (ac.pd a0.aB))<|bE h fun b l h=>cD (cw l)<|sB (.ptr 128 0) 128 (.var [r0,r0,r0])<|sB (.ptr 144 0) 144 (.var [r0,r0,r0])<|sV (r0) ?_
 refine sS 128 (.var [rI a.a0,rI a.a1,rI a.a2])<|sS 144 (.var [rI b.a0,rI b.a1,rI b.a2]) ?_
 refine sN<|sO<|qS<|gU Z<|sV (.d (ac.pd a1))<|bE h fun g m h=>cD (cw m)<|sV (r0)<|sN<|CI (CL ?_)
 refine WL.round<|CM (R0:=[(2,.d (.raw (.func (.func 106) #[] #[]))),(7,r0),(8,.ptr 128 0),(9,.ptr 144 0),(28,.d (aP.pd g)),(29,r0)]) (B0:=[(128,.var [rI a.a0,rI a.a1,rI a.a2]),(144,.var [rI b.a0,rI b.a1,rI b.a2])]) Z Z<|sT<|sN<|qS<|cT<|qK<|qS<|qB<|gU Z<|sM Z<|sV (rI g.a0)<|sA Z<|sA Z<|sN ?_
 refine CJ Z Z<|mM Z<|sM Z<|sV (.ptr 128 0)<|sL Z<|sM Z<|sV (.ptr 144 0)<|sL Z<|bE h fun c n h=>cD (fq n)<|sA Z ?_
 refine sN<|sO<|CO Z Z<|mM Z<|sM Z<|sV (rI (rW (c*c)))<|sV (rI (rW ((0:Int)+(rW (c*c)))))<|sA Z<|sN<|CO Z Z<|sV (rI 1)<|sM Z<|sN<|WL.round<|CM (R0:=[(2,.d (.raw (.func (.func 106) #[] #[]))),(7,rI (rW ((0:Int)+(rW (c*c))))),(8,.ptr 128 0),(9,.ptr 144 0),(28,.d (aP.pd g)),(29,rI 1)]) (B0:=[(128,.var [rI a.a0,rI a.a1,rI a.a2]),(144,.var [rI b.a0,rI b.a1,rI b.a2])]) Z Z ?_
 refine sT<|sN<|qS<|cT<|qK<|qS<|qB<|gU Z<|sM Z<|sV (rI g.a1)<|sA Z<|sA Z<|sN<|CJ Z Z<|sM Z ?_
 refine mM Z<|sV (.ptr 128 1)<|sL Z<|sM Z<|sV (.ptr 144 1)<|sL Z<|bE h fun f o h=>cD (fq o)<|sA Z ?_
 refine sN<|sO<|CO Z Z<|mM Z<|sM Z<|sV (rI (rW (f*f)))<|sV (rI (rW ((rW ((0:Int)+(rW (c*c))))+(rW (f*f)))))<|sA Z<|sN<|CO Z Z<|sV (rI 2)<|sM Z<|sN<|WL.round<|CM (R0:=[(2,.d (.raw (.func (.func 106) #[] #[]))),(7,rI (rW ((rW ((0:Int)+(rW (c*c))))+(rW (f*f))))),(8,.ptr 128 0),(9,.ptr 144 0),(28,.d (aP.pd g)),(29,rI 2)]) (B0:=[(128,.var [rI a.a0,rI a.a1,rI a.a2]),(144,.var [rI b.a0,rI b.a1,rI b.a2])]) Z Z ?_
 refine sT<|sN<|qS<|cT<|qK<|qS<|qB<|gU Z<|sM Z<|sV (rI g.a2)<|sA Z<|sA Z<|sN<|CJ Z Z<|sM Z ?_
 refine mM Z<|sV (.ptr 128 2)<|sL Z<|sM Z<|sV (.ptr 144 2)<|sL Z<|bE h fun e i h=>cD (fq i)<|sA Z ?_
 refine sN<|sO<|CO Z Z<|mM Z<|sM Z<|sV (rI (rW (e*e)))<|sV (rI (rW ((rW ((rW ((0:Int)+(rW (c*c))))+(rW (f*f))))+(rW (e*e)))))<|sA Z<|sN<|CO Z Z<|sV (rI 3)<|sM Z<|sN<|WL.round<|CM (R0:=[(2,.d (.raw (.func (.func 106) #[] #[]))),(7,rI (rW ((rW ((rW ((0:Int)+(rW (c*c))))+(rW (f*f))))+(rW (e*e))))),(8,.ptr 128 0),(9,.ptr 144 0),(28,.d (aP.pd g)),(29,rI 3)]) (B0:=[(128,.var [rI a.a0,rI a.a1,rI a.a2]),(144,.var [rI b.a0,rI b.a1,rI b.a2])]) Z Z ?_
 refine sU<|sN<|qS<|cF<|qX<|qE<|gU Z<|sM Z<|sA Z<|sN<|qR ?_
 exact oI h▸qD
theorem jG{a0:aq}{a1:ac}{r:Int}(h:fB a0 a1=some r):EvP prog aF ext 58 [.d (aq.pd a0),.d (ac.pd a1)] [] (rI r,[]):=by
 refine Ev.body Z Tryz.func58 Z Zk<|gU Z<|sB (.ptr 32 0) 32 (.var (aq.rc a0))<|sB (.ptr 48 0) 48 (.var (ac.rc a1))<|sV (r0)<|sN<|gU Z<|sV (.d (aq.pd a0))<|sV (.d (ac.pd a1))<|bE h fun a h1 h=>cD (jf h1)<|sA Z<|sN<|qR ?_
 exact oI h▸qD
theorem eS{a0:Int}{a1:Int}{a2:Int}{r:Int}(h:cS a0 a1 a2=some r):EvP prog aF ext 107 [rI a0,rI a1,rI a2] [] (rI r,[]):=by
 refine Ev.body Z Tryz.func107 Z Zk<|gU Z<|sV (r0)<|sN<|gU Z<|mM Z<|sV (rI (rW (a2-a0)))<|mM Z<|sV (rI (rW (a0-a1)))<|sV (rI (if(rW (a0-a1))>(rW (a2-a0))then(rW (a0-a1))else(rW (a2-a0))))<|sA Z<|sN<|qR ?_
 exact oI h▸qD
theorem iR{a0:aq}{a1:ac}{r:Int}(h:dY a0 a1=some r):EvP prog aF ext 105 [.d (aq.pd a0),.d (ac.pd a1),.d (.raw (.func (.func 107) #[] #[]))] [] (rI r,[]):=by
 refine Ev.body Z Tryz.func105 Z Zk<|gU Z<|sB (.ptr 48 0) 48 (.var (aq.rc a0))<|sB (.ptr 64 0) 64 (.var (ac.rc a1))<|sV (r0)<|sN<|qS<|gU Z<|sV (.d (aq.pd a0))<|bE h fun q h1 h=>cD (cn h1)<|sF h ?_ ?_<;>intro h
 ·refine sM Z<|k3<|sT<|sN<|cT<|gU Z<|sV (r0)<|sN<|qR ?_
  exact oI h▸qD
 refine sM Z<|sV (.d (ac.pd a1))<|bE h fun p j h=>cD (cv j)<|sV (rB (!p))<|sF h ?_ ?_<;>intro h
 ·refine sN<|cT<|gU Z<|sV (r0)<|sN<|qR ?_
  exact oI h▸qD
 refine sN<|cF<|qK<|CJ Z Z<|sV (.ptr 48 0)<|sV (.d (ac.pd a0.aG))<|bE h fun a k h=>cD (cw k)<|sV (.ptr 48 3)<|sV (.d (ac.pd a0.aB))<|bE h fun b l h=>cD (cw l)<|sB (.ptr 128 0) 128 (.var [r0,r0,r0])<|sB (.ptr 144 0) 144 (.var [r0,r0,r0])<|sV (r0) ?_
 refine sS 128 (.var [rI a.a0,rI a.a1,rI a.a2])<|sS 144 (.var [rI b.a0,rI b.a1,rI b.a2]) ?_
 refine sN<|sO<|qS<|gU Z<|sV (.d (ac.pd a1))<|bE h fun g m h=>cD (cw m)<|sV (r0)<|sN<|CI (CL ?_)
 refine WL.round<|CM (R0:=[(2,.d (.raw (.func (.func 107) #[] #[]))),(7,r0),(8,.ptr 128 0),(9,.ptr 144 0),(28,.d (aP.pd g)),(29,r0)]) (B0:=[(128,.var [rI a.a0,rI a.a1,rI a.a2]),(144,.var [rI b.a0,rI b.a1,rI b.a2])]) Z Z<|sT<|sN<|qS<|cT<|qK<|qS<|qB<|gU Z<|sM Z<|sV (rI g.a0)<|sA Z<|sA Z<|sN ?_
 refine CJ Z Z<|mM Z<|sM Z<|sV (.ptr 128 0)<|sL Z<|sM Z<|sV (.ptr 144 0)<|sL Z<|bE h fun c n h=>cD (eS n)<|sA Z ?_
 refine sN<|sO<|CO Z Z<|mM Z<|sM Z<|sV (rI (rW (c*c)))<|sV (rI (rW ((0:Int)+(rW (c*c)))))<|sA Z<|sN<|CO Z Z<|sV (rI 1)<|sM Z<|sN<|WL.round<|CM (R0:=[(2,.d (.raw (.func (.func 107) #[] #[]))),(7,rI (rW ((0:Int)+(rW (c*c))))),(8,.ptr 128 0),(9,.ptr 144 0),(28,.d (aP.pd g)),(29,rI 1)]) (B0:=[(128,.var [rI a.a0,rI a.a1,rI a.a2]),(144,.var [rI b.a0,rI b.a1,rI b.a2])]) Z Z ?_
 refine sT<|sN<|qS<|cT<|qK<|qS<|qB<|gU Z<|sM Z<|sV (rI g.a1)<|sA Z<|sA Z<|sN<|CJ Z Z<|sM Z ?_
 refine mM Z<|sV (.ptr 128 1)<|sL Z<|sM Z<|sV (.ptr 144 1)<|sL Z<|bE h fun f o h=>cD (eS o)<|sA Z ?_
 refine sN<|sO<|CO Z Z<|mM Z<|sM Z<|sV (rI (rW (f*f)))<|sV (rI (rW ((rW ((0:Int)+(rW (c*c))))+(rW (f*f)))))<|sA Z<|sN<|CO Z Z<|sV (rI 2)<|sM Z<|sN<|WL.round<|CM (R0:=[(2,.d (.raw (.func (.func 107) #[] #[]))),(7,rI (rW ((rW ((0:Int)+(rW (c*c))))+(rW (f*f))))),(8,.ptr 128 0),(9,.ptr 144 0),(28,.d (aP.pd g)),(29,rI 2)]) (B0:=[(128,.var [rI a.a0,rI a.a1,rI a.a2]),(144,.var [rI b.a0,rI b.a1,rI b.a2])]) Z Z ?_
 refine sT<|sN<|qS<|cT<|qK<|qS<|qB<|gU Z<|sM Z<|sV (rI g.a2)<|sA Z<|sA Z<|sN<|CJ Z Z<|sM Z ?_
 refine mM Z<|sV (.ptr 128 2)<|sL Z<|sM Z<|sV (.ptr 144 2)<|sL Z<|bE h fun e i h=>cD (eS i)<|sA Z ?_
 refine sN<|sO<|CO Z Z<|mM Z<|sM Z<|sV (rI (rW (e*e)))<|sV (rI (rW ((rW ((rW ((0:Int)+(rW (c*c))))+(rW (f*f))))+(rW (e*e)))))<|sA Z<|sN<|CO Z Z<|sV (rI 3)<|sM Z<|sN<|WL.round<|CM (R0:=[(2,.d (.raw (.func (.func 107) #[] #[]))),(7,rI (rW ((rW ((rW ((0:Int)+(rW (c*c))))+(rW (f*f))))+(rW (e*e))))),(8,.ptr 128 0),(9,.ptr 144 0),(28,.d (aP.pd g)),(29,rI 3)]) (B0:=[(128,.var [rI a.a0,rI a.a1,rI a.a2]),(144,.var [rI b.a0,rI b.a1,rI b.a2])]) Z Z ?_
 refine sU<|sN<|qS<|cF<|qX<|qE<|gU Z<|sM Z<|sA Z<|sN<|qR ?_
 exact oI h▸qD
theorem kx{a0:aq}{a1:ac}{r:Int}(h:gn a0 a1=some r):EvP prog aF ext 59 [.d (aq.pd a0),.d (ac.pd a1)] [] (rI r,[]):=by
 refine Ev.body Z Tryz.func59 Z Zk<|gU Z<|sB (.ptr 32 0) 32 (.var (aq.rc a0))<|sB (.ptr 48 0) 48 (.var (ac.rc a1))<|sV (r0)<|sN<|gU Z<|sV (.d (aq.pd a0))<|sV (.d (ac.pd a1))<|bE h fun a h1 h=>cD (iR h1)<|sA Z<|sN<|qR ?_
 exact oI h▸qD
theorem bound_squares_ev{a0:ap}{a1:aq}{a2:ac}{r:ap×Int×Int}(h:jw a0 a1 a2=some r):EvP prog aF ext 170 [.d (ap.pd a0),.d (aq.pd a1),.d (ac.pd a2)] [] (.tup [.d (ap.pd r.1),rI r.2.1,rI r.2.2],[]):=by
 refine Ev.body Z Tryz.func170 Z Zk<|gU Z<|sB (.ptr 48 0) 48 (.var (ap.rc a0))<|sB (.ptr 64 0) 64 (.var (aq.rc a1))<|sB (.ptr 80 0) 80 (.var (ac.rc a2))<|sB (.ptr 96 0) 96 (.var [r0,.cI,.cI])<|sV (r0)<|sV (r0)<|sN<|CJ Z Z<|sV (.d (ap.pd a0))<|sV (.d (aq.pd a1))<|sV (.d (ac.pd a2))<|bE h fun b h1 h=>cD (jG h1) ?_
 refine sV (.d (aq.pd a1))<|sV (.d (ac.pd a2))<|bE h fun c a h=>cD (kx a)<|sS 96 (.var (ap.rc a0))<|sA Z<|sA Z ?_
 refine sN<|sO<|qR ?_
 exact oI h▸qD
theorem bits_Len64_ev{a0:Int}{r:Int}(h:lW a0=some r):EvP prog aF ext 184 [.d (.int .u64 a0)] [] (rI r,[]):=by
 refine Ev.body Z Tryz.func184 Z Zk<|gU Z<|sV (r0)<|sN<|CK (α:=Int×Int) (fun x b a=>nA prog 0 (A b a) (aF.at_ 184 0 4)=some (A [(0,.d (.int .u64 x.1)),(2,rI x.2)] [])) (fun x=>eQ x.1 x.2=some r) ?_ ?_
 ·refine gU Z<|sM Z<|sF h ?_ ?_<;>intro h
  ·exact sN<|cT<|gS rfl rfl<|sM rfl<|sV (.d (.int .u64 (mT .u64 a0 (32:Int))))<|sA rfl<|sN<|CO rfl rfl<|sV (rI 32)<|sN<|⟨((mT .u64 a0 (32:Int)),32),rfl,h⟩
  exact sN<|cF<|qK<|⟨(a0,0),rfl,h⟩
 rintro⟨e,f⟩ b a c h
 refine CK (α:=Int×Int) (fun x b a=>nA prog 0 (A b a) (aF.at_ 184 0 7)=some (A [(0,.d (.int .u64 x.1)),(2,rI x.2)] [])) (fun x=>b7 x.1 x.2=some r) ?_ ?_
 ·refine gS Z c<|sM Z<|sF h ?_ ?_<;>intro h
  ·exact sN<|cT<|gS rfl rfl<|sM rfl<|sV (.d (.int .u64 (mT .u64 e (16:Int))))<|sA rfl<|sN<|CO rfl rfl<|sM rfl<|sV (rI (rW (f+(16:Int))))<|sA rfl<|sN<|⟨((mT .u64 e (16:Int)),(rW (f+(16:Int)))),rfl,h⟩
  exact sN<|cF<|qK<|⟨(e,f),rfl,h⟩
 rintro⟨g,i⟩ b a c h
 refine qS<|gS Z c<|sM Z<|sF h ?_ ?_<;>intro h
 ·refine sN<|cT<|gU Z<|sM Z<|sV (.d (.int .u64 (mT .u64 g (8:Int))))<|sA Z<|sN<|CO Z Z<|sM Z<|sV (rI (rW (i+(8:Int))))<|sA Z<|sN<|gU Z<|sM Z<|sM Z ?_
  refine sV (.d (.int .u8 (Bw .u8 (mT .u64 g (8:Int)))))<|bE h fun j l h=>WO.tI l Z Z Z Z Z Z<|sV (rI (Bw .i64 j))<|sV (rI (rW ((rW (i+(8:Int)))+(Bw .i64 j))))<|sA Z<|sN<|qR ?_
  exact oI h▸qD
 refine sN<|cF<|qK<|gU Z<|mM Z<|sV (.d (.int .u8 (Bw .u8 g)))<|bE h fun k m h=>WO.tI m Z Z Z Z Z Z<|sV (rI (Bw .i64 k))<|sV (rI (rW (i+(Bw .i64 k))))<|sA Z<|sN<|qR ?_
 exact oI h▸qD
theorem bits_Len_ev{a0:Int}{r:Int}(h:jE a0=some r):EvP prog aF ext 142 [.d (.int .u64 a0)] [] (rI r,[]):=by
 refine Ev.body Z Tryz.func142 Z Zk<|gU Z<|sV (r0)<|sN<|qS<|cF<|qK<|gU Z<|sM Z<|bE h fun a h1 h=>cD (bits_Len64_ev h1)<|sA Z<|sN<|qR ?_
 exact oI h▸qD
theorem ji{a0:Int}{r:Int}(h:dX a0=some r):EvP prog aF ext 154 [rI a0] [] (rI r,[]):=by
 refine Ev.body Z Tryz.func154 Z Zk<|gU Z<|sV (r0)<|sN<|qS<|gU Z<|sM Z<|sF h ?_ ?_<;>intro h
 ·refine sN<|cT<|gU Z<|sV (r0)<|sN<|qR ?_
  exact oI h▸qD
 refine sN<|cF<|qK<|gU Z<|sV (r0)<|sN<|qS<|gU Z<|sM Z<|sV (.d (.int .u64 (Bw .u64 a0)))<|bE h fun t j h=>cD (bits_Len_ev j)<|sV (rI (rW (t-(1:Int))))<|bE h fun v k h=>WO.pU k Z Z Z Z Z Z ?_
 refine bE h fun x l h=>WO.shlG l Z Z Z Z Z<|sA Z<|sN<|bE h fun n a h=>CI (CL (WL.mL a (fun s=>gI 0 154 5 [(0,rI a0),(3,rI s.1),(4,rI s.2)] []) (fun o=>gX 0 0 154 10 [(3,rI o)] []) Z ?_ ?_))
 ·rintro⟨p,f⟩ i g u c h
  refine qS<|gS Z c<|sM Z<|sF h ?_ ?_<;>intro h
  ·refine sN<|cT<|qK<|qS<|qB<|gU Z<|mM Z<|sV (rI (orI .i64 p f))<|sA Z<|sN<|gU Z<|mM Z<|sM Z ?_
   refine bE h fun q b h=>WO.pU b Z Z Z Z Z Z<|sF h ?_ ?_<;>intro h
   ·refine sN<|cT<|CO Z Z<|sM Z<|sA Z<|sN<|CO Z Z<|sM Z<|sV (rI (mT .i64 f (1:Int)))<|sA Z<|sN ?_
    cases oI h
    exact⟨rfl,rfl⟩
   refine sN<|cF<|qK<|CO Z Z<|sM Z<|sV (rI (mT .i64 f (1:Int)))<|sA Z<|sN ?_
   cases oI h
   exact⟨rfl,rfl⟩
  refine sN<|cF<|qX ?_
  cases oI h
  exact⟨nofun,rfl,rfl⟩
 intro e i g he m
 obtain⟨rfl,c⟩:=m
 refine qE<|gS Z c<|sM Z<|sA Z<|sN<|qR ?_
 exact oI h▸qD
theorem geometry_Ceil_ev{a0:Int}{r:Int}(h:hJ a0=some r):EvP prog aF ext 150 [rI a0] [] (rI r,[]):=by
 refine Ev.body Z Tryz.func150 Z Zk<|gU Z<|sV (r0)<|sN<|gU Z<|sM Z<|bE h fun a h1 h=>cD (ji h1)<|sA Z<|sN<|qS<|gU Z<|mM Z<|sV (rI (rW (a*a))) ?_
 refine sM Z<|sF h ?_ ?_<;>intro h
 ·refine sN<|cT<|CO Z Z<|sM Z<|sV (rI (rW (a+(1:Int))))<|sA Z<|sN<|gU Z<|sM Z<|sA Z<|sN<|qR ?_
  exact oI h▸qD
 refine sN<|cF<|qK<|gU Z<|sM Z<|sA Z<|sN<|qR ?_
 exact oI h▸qD
theorem travel_reach_ev{a0:ap}{r:Int}(h:ks a0=some r):EvP prog aF ext 151 [.d (ap.pd a0)] [] (rI r,[]):=by
 refine Ev.body Z Tryz.func151 Z Zk<|gU Z<|sB (.ptr 16 0) 16 (.var (ap.rc a0))<|sV (r0)<|sN<|gU Z<|sV (.ptr 16 0)<|sL Z<|sV (.ptr 16 1)<|sL Z<|sE (rI (a0.aG.length:Int)) (mE _ _)<|sV (rI (rW ((a0.aG.length:Int)-(1:Int))))<|sV (rI (rW (a0.aY*(rW ((a0.aG.length:Int)-(1:Int))))))<|sA Z<|sN ?_
 refine qR ?_
 exact oI h▸qD
theorem kr{a0:Int}{d0:ap}{d1:Int}{r:Bool}(h:fu a0 d0 d1=some r):EvP prog aF ext 153 [rI a0,.ptr 0 0,.ptr 1 0] [.var (ap.rc d0),.var [rI d1]] (rB r,[.var (ap.rc d0),.var [rI d1]]):=by
 refine Ev.body Z Tryz.func153 Z Zk<|gU Z<|sU<|sN<|gU Z<|sM Z<|sV (.ptr 0 0)<|sL Z<|sV (rI (rW (a0*d0.aY)))<|sL Z<|sV (rB (decide ((rW (a0*d0.aY))>=d1)))<|sA Z<|sN<|qR ?_
 exact oI h▸qD
theorem lI{a0:Int}{d0:ap}{d1:Int}{r:Int}(h:fk a0 d0 d1=some r):EvP prog aF ext 152 [rI a0,.clo 153 [.ptr 0 0,.ptr 1 0]] [.var (ap.rc d0),.var [rI d1]] (rI r,[.var (ap.rc d0),.var [rI d1]]):=by
 refine Ev.body Z Tryz.func152 Z Zk<|gU Z<|sV (r0)<|sN<|gU Z<|sM Z<|sV (r0)<|sA Z<|sN<|qS<|bE h fun k b h=>CI (CL (WL.mL b (fun s=>gI 2 152 2 [(1,.clo 153 [.ptr 0 0,.ptr 1 0]),(5,rI s.1),(6,rI s.2)] [(0,.var (ap.rc d0)),(1,.var [rI d1])]) (fun o=>gX 0 2 152 7 [(5,rI o)] [(0,.var (ap.rc d0)),(1,.var [rI d1])]) Z ?_ ?_))
 ·rintro⟨s1,s2⟩ f c l a h
  refine qS<|gS Z a<|mM Z<|sF h ?_ ?_<;>intro h
  ·refine sN<|cT<|qK<|qB<|gU Z<|mM Z<|sV (rI (rW (s1+s2)))<|sV (.d (.int .u64 (Bw .u64 (rW (s1+s2)))))<|sV (.d (.int .u64 (mT .u64 (Bw .u64 (rW (s1+s2))) (1:Int))))<|sV (rI (rW (mT .u64 (Bw .u64 (rW (s1+s2))) (1:Int))))<|sA Z<|sN<|gU Z<|sM Z ?_
   refine sM Z<|bE h fun j g h=>cR (rB j) [(0,.var (ap.rc d0)),(1,.var [rI d1])] (kr g)<|sF h ?_ ?_<;>intro h
   ·refine sN<|cT<|CO Z Z<|sM Z<|sV (rI (rW ((rW (mT .u64 (Bw .u64 (rW (s1+s2))) (1:Int)))+(1:Int))))<|sA Z<|sN ?_
    cases oI h
    exact⟨rfl,rfl⟩
   refine sN<|cF<|CO Z Z<|sM Z<|sA Z<|sN ?_
   cases oI h
   exact⟨rfl,rfl⟩
  refine sN<|cF<|qX ?_
  cases oI h
  exact⟨nofun,rfl,rfl⟩
 intro e f c he i
 obtain⟨rfl,a⟩:=i
 refine qE<|gS Z a<|sM Z<|sA Z<|sN<|qR ?_
 exact oI h▸qD
theorem js{a0:ap}{a1:Int}{a2:Int}{r:Int×Int×Int}(h:e9 a0 a1 a2=some r):EvP prog aF ext 101 [.d (ap.pd a0),rI a1,rI a2] [] (.tup [rI r.1,rI r.2.1,rI r.2.2],[]):=by
 refine Ev.body Z Tryz.func101 Z Zk<|gU Z<|sB (.ptr 48 0) 48 (.var (ap.rc a0))<|sV (r0)<|sV (r0)<|sV (r0)<|sN<|qS<|gU Z<|sV (.d (ap.pd a0))<|bE h fun o h1 h=>cD (dA h1)<|sF h ?_ ?_<;>intro h
 ·refine sN<|cT<|gU Z<|sV (r0)<|sV (r0)<|sV (rI 21)<|sN<|qR ?_
  exact oI h▸qD
 refine sN<|cF<|qK<|qS<|gU Z<|sM Z<|sF h ?_ ?_<;>intro h
 ·refine sM Z<|k3<|sT<|sN<|cT<|gU Z<|sV (r0)<|sV (r0)<|sV (rI 2)<|sN<|qR ?_
  exact oI h▸qD
 refine mM Z<|sM Z<|sV (rB (decide (a1>a2)))<|sF h ?_ ?_<;>intro h
 ·refine sN<|cT<|gU Z<|sV (r0)<|sV (r0)<|sV (rI 2)<|sN<|qR ?_
  exact oI h▸qD
 refine sN<|cF<|qK<|gU Z<|sM Z<|bE h fun e f h=>cD (geometry_Ceil_ev f)<|sB (.ptr 144 0) 144 (.var [r0])<|sS 144 (.var [rI e])<|sN<|qS<|CJ Z Z<|sL Z<|sV (.d (ap.pd a0))<|bE h fun p g h=>?_
 refine cD (travel_reach_ev g)<|sF h ?_ ?_<;>intro h
 ·refine sN<|sO<|cT<|gU Z<|sV (r0)<|sV (r0)<|sV (rI 22)<|sN<|qR ?_
  exact oI h▸qD
 refine sN<|sO<|cF<|qK<|gU Z<|sV (.ptr 48 2)<|sL Z<|sE (rI (a0.aB.length:Int)) (mE _ _)<|sV (.clo 153 [.ptr 48 0,.ptr 144 0])<|bE h fun n i h=>cR (rI n) [(48,.var (ap.rc a0)),(144,.var [rI e])] (lI i)<|sA Z<|sN<|CJ Z Z<|sV (.ptr 48 1)<|sL Z ?_
 refine sM Z<|bE h fun q j h=>cD (ji j)<|sV (.ptr 48 0)<|sL Z<|bE h fun k a h=>WO.pU a Z Z Z Z Z Z<|bE h fun l b h=>eG b Z<|sC Z<|sV (.ptr 48 2)<|sL Z<|sM Z<|bE h fun m c h=>eG c Z ?_
 refine sC Z<|sA Z<|sA Z<|sV (r0) ?_
 refine sN<|sO<|qR ?_
 exact oI h▸qD
theorem mg{a0:ap}{a1:aq}{a2:ac}{r:Int×Int×Int}(h:gm a0 a1 a2=some r):EvP prog aF ext 135 [.d (ap.pd a0),.d (aq.pd a1),.d (ac.pd a2)] [] (.tup [rI r.1,rI r.2.1,rI r.2.2],[]):=by
 refine Ev.body Z Tryz.func135 Z Zk<|gU Z<|sB (.ptr 48 0) 48 (.var (ap.rc a0))<|sB (.ptr 64 0) 64 (.var (aq.rc a1))<|sB (.ptr 80 0) 80 (.var (ac.rc a2))<|sV (r0)<|sV (r0)<|sV (r0)<|sN<|qS<|gU Z<|sV (.d (ap.pd a0))<|bE h fun j h1 h=>cD (dA h1)<|sA Z ?_
 refine sN<|gU Z<|sM Z<|sF h ?_ ?_<;>intro h
 ·refine sN<|cT<|gU Z<|sM Z<|sV (r0)<|sV (r0)<|sA Z<|sN<|qR ?_
  exact oI h▸qD
 refine sN<|cF<|qK<|qS<|gU Z<|sV (.d (aq.pd a1))<|bE h fun k c h=>cD (cn c)<|sF h ?_ ?_<;>intro h
 ·refine sM Z<|k3<|sT<|sN<|cT<|gU Z<|sV (r0)<|sV (r0)<|sV (rI 20)<|sN<|qR ?_
  exact oI h▸qD
 refine sM Z<|sV (.d (ac.pd a2))<|bE h fun i e h=>cD (cv e)<|sV (rB (!i))<|sF h ?_ ?_<;>intro h
 ·refine sN<|cT<|gU Z<|sV (r0)<|sV (r0)<|sV (rI 20)<|sN<|qR ?_
  exact oI h▸qD
 refine sN<|cF<|qK<|gU Z<|sV (.d (ap.pd a0))<|sV (.d (aq.pd a1))<|sV (.d (ac.pd a2))<|bE h fun a f h=>cR (.tup [.d (ap.pd a.1),rI a.2.1,rI a.2.2]) [] (bound_squares_ev f)<|sV (.d (ap.pd a.1))<|sV (rI a.2.1)<|sV (rI a.2.2)<|bE h fun b g h=>cR (.tup [rI b.1,rI b.2.1,rI b.2.2]) [] (js g)<|sV (rI b.1) ?_
 refine sV (rI b.2.1)<|sV (rI b.2.2)<|sA Z<|sA Z<|sA Z<|sN<|qR ?_
 exact oI h▸qD
theorem lN{a0:ap}{a1:aq}{a2:aC}{r:bv×Int}(h:jR a0 a1 a2=some r):EvP prog aF ext 90 [.d (ap.pd a0),.d (aq.pd a1),.d (aC.pd a2)] [] (.tup [.d (bv.pd r.1),rI r.2],[]):=by
 refine Ev.body Z Tryz.func90 Z Zk<|gU Z<|sB (.ptr 48 0) 48 (.var (ap.rc a0))<|sB (.ptr 64 0) 64 (.var (aq.rc a1))<|sB (.ptr 80 0) 80 (.var (aC.rc a2))<|sB (.ptr 96 0) 96 (.var [r0,r0])<|sV (r0)<|sN<|qS<|gU Z<|sV (.d (ap.pd a0))<|bE h fun f h1 h=>cD (dA h1)<|sA Z<|sN ?_
 refine gU Z<|sM Z<|sF h ?_ ?_<;>intro h
 ·refine sN<|cT<|gU Z<|sV (.d (bv.pd (bv.mk 0 0)))<|sM Z<|sS 96 (.var [r0,r0])<|sA Z<|sN<|qR ?_
  exact oI h▸qD
 refine sN<|cF<|qK<|qS<|gU Z<|sV (.d (aq.pd a1))<|bE h fun g b h=>cD (cn b)<|sF h ?_ ?_<;>intro h
 ·refine sN<|cT<|gU Z<|sV (.d (bv.pd (bv.mk 0 0)))<|sS 96 (.var [r0,r0])<|sV (rI 20)<|sN<|qR ?_
  exact oI h▸qD
 refine sN<|cF<|qK<|qS<|gU Z<|sV (.d (aC.pd a2))<|bE h fun i c h=>cD (lA c)<|sF h ?_ ?_<;>intro h
 ·refine sN<|cT<|gU Z<|sV (.d (bv.pd (bv.mk 0 0)))<|sS 96 (.var [r0,r0])<|sV (rI 23)<|sN<|qR ?_
  exact oI h▸qD
 refine sN<|cF<|qK<|gU Z<|sV (.d (ap.pd a0))<|sV (.d (aq.pd a1))<|sV (.ptr 80 0)<|sV (.d (ac.pd a2.aS))<|bE h fun a e h=>cR (.tup [rI a.1,rI a.2.1,rI a.2.2]) [] (mg e)<|sM Z<|sV (rI a.1)<|sV (rI a.2.1)<|sV (rI a.2.2)<|sA Z ?_
 refine sA Z<|sA Z<|sN<|qS<|gU Z<|sM Z<|sF h ?_ ?_<;>intro h
 ·refine sN<|cT<|gU Z<|sV (.d (bv.pd (bv.mk 0 0)))<|sM Z<|sS 96 (.var [r0,r0])<|sA Z<|sN<|qR ?_
  exact oI h▸qD
 refine sN<|cF<|qK<|gU Z<|sV (.ptr 80 3)<|sL Z<|sM Z<|sV (rI (rW (a2.bd-a.2.1)))<|sV (.ptr 80 4)<|sL Z<|sM Z<|sV (rI (rW (a2.bk-a.1)))<|sV (.d (bv.pd (bv.mk (rW (a2.bd-a.2.1)) (rW (a2.bk-a.1)))))<|sS 96 (.var [rI (rW (a2.bd-a.2.1)),rI (rW (a2.bk-a.1))])<|sV (r0) ?_
 refine sN<|qR ?_
 exact oI h▸qD
theorem kC{a0:aJ}{a1:(List aC)}{r:Int}(h:et a0 a1=some r):EvP prog aF ext 46 [.d (aJ.pd a0),rM aC.pd a1] [] (rI r,[]):=by
 refine Ev.body Z Tryz.func46 Z Zk<|gU Z<|sB (.ptr 32 0) 32 (.var (aJ.rc a0))<|sV (r0)<|sN<|qS<|gU Z<|sV (.ptr 32 0)<|sV (.d (aq.pd a0.aU))<|bE h fun J h1 h=>cD (cn h1)<|sF h ?_ ?_<;>intro h
 ·refine sM Z<|k3<|sK<|sT<|sM Z<|k3<|sK<|sT<|sM Z<|sK<|sK ?_
  refine sK<|sK<|sT<|sM Z<|k3<|sK<|sT<|sM Z<|k3<|sK<|sT ?_
  refine sM Z<|k3<|sK<|sT<|sN<|cT<|gU Z<|sV (rI 27)<|sN<|qR ?_
  cases oI h
  exact qG
 refine sM Z<|sV (.ptr 32 6)<|sV (.d (ap.pd a0.bj))<|bE h fun E v h=>cD (dA v)<|sV (rB (E != (0:Int)))<|sF h ?_ ?_<;>intro h
 ·refine sM Z<|k3<|sK<|sT<|sM Z<|k3<|sK<|sT<|sM Z<|sK<|sK ?_
  refine sK<|sK<|sT<|sM Z<|k3<|sK<|sT<|sM Z<|k3<|sK<|sT ?_
  refine sN<|cT<|gU Z<|sV (rI 27)<|sN<|qR ?_
  cases oI h
  exact qG
 refine sM Z<|sV (.ptr 32 9)<|sL Z<|bE h fun F x h=>cD (eD x)<|sV (rB (!F))<|sF h ?_ ?_<;>intro h
 ·refine sM Z<|k3<|sK<|sT<|sM Z<|k3<|sK<|sT<|sM Z<|sK<|sK ?_
  refine sK<|sK<|sT<|sM Z<|k3<|sK<|sT<|sN<|cT<|gU Z<|sV (rI 27)<|sN<|qR ?_
  cases oI h
  exact qG
 refine sM Z<|sV (.ptr 32 10)<|sL Z<|bE h fun G z h=>cD (eD z)<|sV (rB (!G))<|sF h ?_ ?_<;>intro h
 ·refine sM Z<|k3<|sK<|sT<|sM Z<|k3<|sK<|sT<|sM Z<|sK<|sK ?_
  refine sK<|sK<|sT<|sN<|cT<|gU Z<|sV (rI 27)<|sN<|qR ?_
  cases oI h
  exact qG
 refine sM Z<|sV (.ptr 32 12)<|sL Z<|bE h fun H B h=>cD (eD B)<|sV (rB (!H))<|sF h ?_ ?_<;>intro h
 ·refine sM Z<|k3<|sK<|sT<|sM Z<|k3<|sK<|sT<|sN<|cT<|gU Z ?_
  refine sV (rI 27)<|sN<|qR ?_
  cases oI h
  exact qG
 refine sM Z<|sV (.ptr 32 11)<|sL Z<|bE h fun n f h=>cD (eD f)<|sV (rB (!n))<|sF h ?_ ?_<;>intro h
 ·refine sM Z<|k3<|sK<|sT<|sN<|cT<|gU Z<|sV (rI 27)<|sN<|qR ?_
  cases oI h
  exact qG
 refine sM Z<|sV (.ptr 32 13)<|sL Z<|bE h fun p g h=>cD (eD g)<|sV (rB (!p))<|sF h ?_ ?_<;>intro h
 ·refine sN<|cT<|gU Z<|sV (rI 27)<|sN<|qR ?_
  cases oI h
  exact qG
 refine sN<|cF<|qK<|qS<|gU Z<|sM Z<|sE (rI (a1.length:Int)) (mE _ _)<|sF h ?_ ?_<;>intro h
 ·refine sN<|cT<|gU Z<|sV (rI 8)<|sN<|qR ?_
  cases oI h
  exact qG
 refine sN<|cF<|qK<|qS<|gU Z<|sM Z<|sE (rI (a1.length:Int)) (mE _ _)<|sV (r0)<|sN<|bE h fun l c h=>CI (CL (WL.mL c (fun s=>gI 0 46 6 [(2,.ptr 32 0),(52,rM aC.pd a1),(53,rI (a1.length:Int)),(54,rI s)] [(32,.var (aJ.rc a0))]) (fun o=>match o with| .inl y=>gX 0 0 46 12 [] []| .inr r=>gF 46 Tryz.f46 0 (rI r,[])) Z ?_ ?_))
 ·rintro m u t C k h
  refine gS Z k<|sF h ?_ ?_<;>intro h
  ·refine sN<|qS<|cT<|qK<|qS<|qB<|gU Z<|bE h fun b i h=>eG i Z<|sV (.d (aC.pd b))<|sB (.ptr 96 0) 96 (.var zZ1)<|sH 96 (.var (aC.rc b))<|sN<|gU Z<|sV (.ptr 32 6) ?_
   refine sV (.d (ap.pd a0.bj))<|sV (.ptr 32 0)<|sV (.d (aq.pd a0.aU))<|sV (.d (aC.pd b))<|bE h fun a j h=>cR (.tup [.d (bv.pd a.1),rI a.2]) [] (lN j)<|sM Z<|sV (.d (bv.pd a.1))<|sV (rI a.2)<|sB (.ptr 112 0) 112 (.var [r0,r0])<|sS 112 (.var [rI a.1.bC,rI a.1.fTo])<|sA Z<|sN<|gU Z<|sM Z ?_
   refine sF h ?_ ?_<;>intro h
   ·refine sN<|cT<|gU Z<|sM Z<|sA Z<|sN<|qR ?_
    cases oI h
    exact⟨nofun,rfl,rfl⟩
   refine sN<|cF<|qK<|CO Z Z<|sV (rI (rW (m+(1:Int))))<|sM Z<|sN ?_
   cases oI h
   exact⟨rfl,rfl⟩
  refine sN<|qS<|cF<|qX ?_
  cases oI h
  exact⟨nofun,rfl,rfl⟩
 intro e u t he q
 rcases l with I|D
 ·obtain⟨rfl,k⟩:=q
  refine qE<|gS Z k<|sV (r0)<|sN<|qR ?_
  exact oI h▸qD
 obtain⟨rfl,hf⟩:=q
 cases oI h
 exact hf
theorem ge{a0:aM}{r:Bool}(h:bQ a0=some r):EvP prog aF ext 47 [.d (aM.pd a0)] [] (rB r,[]):=by
 refine Ev.body Z Tryz.func47 Z Zk<|gU Z<|sB (.ptr 16 0) 16 (.var (aM.rc a0))<|sU<|sN<|gU Z<|sV (.ptr 16 0)<|sV (.d (ap.pd a0.aV))<|bE h fun a h1 h=>cD (dA h1)<|sF h ?_ ?_<;>intro h
 ·refine sM Z<|sV (.ptr 16 3)<|sL Z<|sV (rB (decide (a0.aQ>=(0:Int))))<|sF h ?_ ?_<;>intro h
  ·refine sM Z<|sV (.ptr 16 3)<|sL Z<|sV (rB (decide (a0.aQ<=(65536:Int))))<|sF h ?_ ?_<;>intro h
   ·refine sM Z<|sV (.ptr 16 4)<|sL Z<|sV (rB (decide (a0.aL>=(1:Int))))<|sF h ?_ ?_<;>intro h
    ·refine sM Z<|sV (.ptr 16 4)<|sL Z<|sV (rB (decide (a0.aL<=(65536:Int))))<|sV (rB (decide (a0.aL<=(65536:Int))))<|sA Z<|sN<|qR ?_
     exact oI h▸qD
    refine sM Z<|k3<|sU<|sA Z<|sN<|qR ?_
    exact oI h▸qD
   refine sM Z<|k3<|sU<|sM Z<|k3<|sU<|sA Z<|sN<|qR ?_
   exact oI h▸qD
  refine sM Z<|k3<|sU<|sM Z<|k3<|sU<|sM Z<|k3<|sU ?_
  refine sA Z<|sN<|qR ?_
  exact oI h▸qD
 refine sM Z<|k3<|sU<|sM Z<|k3<|sU<|sM Z<|k3<|sU ?_
 refine sM Z<|k3<|sU<|sA Z<|sN<|qR ?_
 exact oI h▸qD
theorem lg{a0:ag}{r:Int}(h:cX a0=some r):EvP prog aF ext 20 [.d (ag.pd a0)] [] (rI r,[]):=by
 refine Ev.body Z Tryz.func20 Z Zk<|gU Z<|sB (.ptr 16 0) 16 (.var (ag.rc a0))<|sV (r0)<|sN<|qS<|gU Z<|sV (.ptr 16 0)<|sV (.d (aJ.pd a0.ae))<|bE h fun c h1 h=>cD (kC h1)<|sF h ?_ ?_<;>intro h
 ·refine sM Z<|k3<|sK<|sT<|sM Z<|k3<|sT<|sM Z<|sK<|sK<|sK ?_
  refine sT<|sN<|cT<|gU Z<|sV (rI 27)<|sN<|qR ?_
  cases oI h
  exact qG
 refine sM Z<|sV (.ptr 16 14)<|sV (.d (aM.pd a0.bi))<|bE h fun b a h=>cD (ge a)<|sV (rB (!b))<|sF h ?_ ?_<;>intro h
 ·refine sM Z<|k3<|sT<|sM Z<|k3<|sT<|sN<|cT<|gU Z<|sV (rI 27)<|sN ?_
  refine qR ?_
  cases oI h
  exact qG
 refine sM Z<|sV (.ptr 16 19)<|sL Z<|sV (rB (decide (a0.aK<(0:Int))))<|sF h ?_ ?_<;>intro h
 ·refine sM Z<|k3<|sT<|sN<|cT<|gU Z<|sV (rI 27)<|sN<|qR ?_
  cases oI h
  exact qG
 refine sM Z<|sV (.ptr 16 19)<|sL Z<|sV (rB (decide (a0.aK>(1099511627776:Int))))<|sF h ?_ ?_<;>intro h
 ·refine sN<|cT<|gU Z<|sV (rI 27)<|sN<|qR ?_
  cases oI h
  exact qG
 refine sN<|cF<|qK<|gU Z<|sV (r0)<|sN<|qR ?_
 cases oI h
 exact qG
theorem source_plain_ev{a0:Int}{r:Bool}(h:iI a0=some r):EvP prog aF ext 171 [.d (.int .u8 a0)] [] (rB r,[]):=by
 refine Ev.body Z Tryz.func171 Z Zk<|gU Z<|sU<|sN<|gU Z<|sM Z<|sF h ?_ ?_<;>intro h
 ·refine mM Z<|sV (rB (decide (a0<=(90:Int))))<|sF h ?_ ?_<;>intro h
  ·refine sM Z<|k3<|k3<|sT<|sA Z<|sN<|qR ?_
   exact oI h▸qD
  refine mM Z<|sF h ?_ ?_<;>intro h
  ·refine mM Z<|sV (rB (decide (a0<=(57:Int))))<|sV (rB (decide (a0<=(57:Int))))<|sV (rB (decide (a0<=(57:Int))))<|sA Z<|sN<|qR ?_
   exact oI h▸qD
  refine sM Z<|sK<|sK<|sU<|sU<|sA Z<|sN<|qR ?_
  exact oI h▸qD
 refine sM Z<|sK<|sK<|sU<|mM Z<|sF h ?_ ?_<;>intro h
 ·refine mM Z<|sV (rB (decide (a0<=(57:Int))))<|sV (rB (decide (a0<=(57:Int))))<|sV (rB (decide (a0<=(57:Int))))<|sA Z<|sN<|qR ?_
  exact oI h▸qD
 refine sM Z<|sK<|sK<|sU<|sU<|sA Z<|sN<|qR ?_
 exact oI h▸qD
theorem e8{a0:(List UInt8)}{a1:Int}{a2:Int}{r:Bool}(h:e7 a0 a1 a2=some r):EvP prog aF ext 136 [rS a0,rI a1,rI a2] [] (rB r,[]):=by
 refine Ev.body Z Tryz.func136 Z Zk<|gU Z<|sU<|sN<|qS<|gU Z<|sM Z<|sV (rI (a0.length:Int))<|sV (r0)<|sN<|bE h fun k b h=>CI (CL (WL.mL b (fun s=>gI 0 136 2 [(0,rS a0),(1,rI a1),(2,rI a2),(9,rI (a0.length:Int)),(10,rI s)] []) (fun o=>match o with| .inl y=>gX 0 0 136 7 [(0,rS a0),(1,rI a1),(2,rI a2)] []| .inr r=>gF 136 Tryz.f136 0 (rB r,[])) Z ?_ ?_))
 ·rintro s1 g f m a h
  refine gS Z a<|sF h ?_ ?_<;>intro h
  ·refine sN<|qS<|cT<|qK<|qS<|qB<|gU Z<|sM Z<|sA Z<|sN<|gU Z<|mM Z<|bE h fun n i h=>WO.tI i Z Z Z Z Z Z ?_
   refine bE h fun p j h=>cD (source_plain_ev j)<|sF h ?_ ?_<;>intro h
   ·refine sN<|cT<|gU Z<|sU<|sN<|qR ?_
    cases oI h
    exact⟨nofun,rfl,rfl⟩
   refine sN<|cF<|qK<|CO Z Z<|sV (rI (rW (s1+(1:Int))))<|sM Z<|sN ?_
   cases oI h
   exact⟨rfl,rfl⟩
  refine sN<|qS<|cF<|qX ?_
  cases oI h
  exact⟨nofun,rfl,rfl⟩
 intro e g f he c
 rcases k with q|l
 ·obtain⟨rfl,a⟩:=c
  refine qE<|gS Z a<|sM Z<|sV (rI (a0.length:Int))<|sM Z<|sF h ?_ ?_<;>intro h
  ·refine mM Z<|sV (rI (a0.length:Int))<|sM Z<|sV (rB (decide ((a0.length:Int)<=a2)))<|sV (rB (decide ((a0.length:Int)<=a2)))<|sA Z<|sN<|qR ?_
   exact oI h▸qD
  refine sM Z<|k3<|sK<|sU<|sA Z<|sN<|qR ?_
  exact oI h▸qD
 obtain⟨rfl,hf⟩:=c
 cases oI h
 exact hf
theorem ix{a0:ak}{r:Bool}(h:fm a0=some r):EvP prog aF ext 91 [.d (ak.pd a0)] [] (rB r,[]):=by
 refine Ev.body Z Tryz.func91 Z Zk<|gU Z<|sB (.ptr 16 0) 16 (.var (ak.rc a0))<|sU<|sN<|gU Z<|sV (.ptr 16 0)<|sL Z<|bE h fun i h1 h=>na h (fun a h=>?_) (fun a h=>?_)
 ·refine WO.nL (v:=rB true) (u:=[]) Z Z (fun _=>Z) Z Z Z Z Z (e8 h1) Z Z (congrArg (fun b=>RV.d (.bool b)) a) Z<|sM Z<|sV (.ptr 16 1)<|sL Z<|bE h fun j c h=>cD (e8 c)<|sF h ?_ ?_<;>intro h
  ·refine sM Z<|sV (.ptr 16 2)<|sL Z<|bE h fun k e h=>cD (e8 e)<|sF h ?_ ?_<;>intro h
   ·refine sM Z<|sV (.ptr 16 2)<|sL Z<|sV (rI (a0.aO.length:Int))<|sV (rB ((a0.aO.length:Int) != (1:Int)))<|sF h ?_ ?_<;>intro h
    ·refine sM Z<|sV (.ptr 16 3)<|sL Z<|bE h fun g f h=>cD (e8 f)<|sV (rB g)<|sA Z<|sN<|qR ?_
     exact oI h▸qD
    refine sM Z<|k3<|sU<|sA Z<|sN<|qR ?_
    exact oI h▸qD
   refine sM Z<|k3<|sK<|sU<|sM Z<|k3<|sU<|sA Z<|sN<|qR ?_
   exact oI h▸qD
  refine sM Z<|k3<|sU<|sM Z<|k3<|sK<|sU<|sM Z<|sK<|sK<|sK ?_
  refine sU<|sA Z<|sN<|qR ?_
  exact oI h▸qD
 refine WO.nL (v:=rB false) (u:=[]) Z Z (fun _=>Z) Z Z Z Z Z (e8 h1) Z Z (congrArg (fun b=>RV.d (.bool b)) a) Z<|sM Z<|k3<|sU<|sM Z<|k3<|sU<|sM Z<|sK<|sK<|sK ?_
 refine sK<|sU<|sM Z<|k3<|sU<|sA Z<|sN<|qR ?_
 exact oI h▸qD
theorem lZ{a0:Int}{a1:Int}{a2:Int}{r:Bool}(h:lx a0 a1 a2=some r):EvP prog aF ext 216 [rI a0,rI a1,rI a2] [] (rB r,[]):=by
 refine Ev.body Z Tryz.func216 Z Zk<|gU Z<|sU<|sN<|gU Z<|mM Z<|sF h ?_ ?_<;>intro h
 ·refine mM Z<|sM Z<|sV (rB (decide (a0<=a2)))<|sV (rB (decide (a0<=a2)))<|sA Z<|sN<|qR ?_
  exact oI h▸qD
 refine sM Z<|k3<|sU<|sA Z<|sN<|qR ?_
 exact oI h▸qD
theorem rate_gcd_ev{a0:Int}{a1:Int}{r:Int}(h:jI a0 a1=some r):EvP prog aF ext 217 [rI a0,rI a1] [] (rI r,[]):=by
 refine Ev.body Z Tryz.func217 Z Zk<|gU Z<|sV (r0)<|sN<|qS<|bE h fun j b h=>CI (CL (WL.mL b (fun s=>gI 0 217 1 [(0,rI s.1),(1,rI s.2)] []) (fun o=>gX 0 0 217 3 [(0,rI o)] []) Z ?_ ?_))
 ·rintro⟨s1,s2⟩ f c k a h
  refine qS<|gS Z a<|sM Z<|sF h ?_ ?_<;>intro h
  ·refine sN<|cT<|qK<|qB<|CN Z Z<|mM Z<|sM Z<|bE h fun l g h=>WO.remG g Z Z Z Z Z Z<|sA Z<|sA Z ?_
   refine sN<|sO ?_
   cases oI h
   exact⟨rfl,rfl⟩
  refine sN<|cF<|qX ?_
  cases oI h
  exact⟨nofun,rfl,rfl⟩
 intro e f c he i
 obtain⟨rfl,a⟩:=i
 refine qE<|gS Z a<|sM Z<|sA Z<|sN<|qR ?_
 exact oI h▸qD
theorem rate_Valid_ev{a0:bh}{r:Bool}(h:gW a0=some r):EvP prog aF ext 172 [.d (bh.pd a0)] [] (rB r,[]):=by
 refine Ev.body Z Tryz.func172 Z Zk<|gU Z<|sB (.ptr 16 0) 16 (.var [rI a0.aQ,rI a0.aL])<|sU<|sN<|gU Z<|sV (.ptr 16 0)<|sL Z<|bE h fun g h1 h=>na h (fun a h=>?_) (fun a h=>?_)
 ·refine WO.nL (v:=rB true) (u:=[]) Z Z (fun _=>Z) Z Z Z Z Z (lZ h1) Z Z (congrArg (fun b=>RV.d (.bool b)) a) Z<|sM Z<|sV (.ptr 16 1)<|sL Z<|bE h fun i e h=>cD (lZ e)<|sF h ?_ ?_<;>intro h
  ·refine sM Z<|sV (.ptr 16 0)<|sL Z<|sV (.ptr 16 1)<|sL Z<|bE h fun c f h=>cD (rate_gcd_ev f)<|sV (rB (c==(1:Int)))<|sV (rB (c==(1:Int)))<|sA Z<|sN<|qR ?_
   exact oI h▸qD
  refine sM Z<|k3<|k3<|sU<|sA Z<|sN<|qR ?_
  exact oI h▸qD
 refine WO.nL (v:=rB false) (u:=[]) Z Z (fun _=>Z) Z Z Z Z Z (lZ h1) Z Z (congrArg (fun b=>RV.d (.bool b)) a) Z<|sM Z<|k3<|sU<|sM Z<|k3<|k3<|sU<|sA Z ?_
 refine sN<|qR ?_
 exact oI h▸qD
theorem bF{a0:Int}{a1:Int}{a2:Int}{r:Bool}(h:bA a0 a1 a2=some r):EvP prog aF ext 187 [rI a0,rI a1,rI a2] [] (rB r,[]):=by
 refine Ev.body Z Tryz.func187 Z Zk<|gU Z<|sU<|sN<|gU Z<|mM Z<|sF h ?_ ?_<;>intro h
 ·refine mM Z<|sM Z<|sV (rB (decide (a0<=a2)))<|sV (rB (decide (a0<=a2)))<|sA Z<|sN<|qR ?_
  exact oI h▸qD
 refine sM Z<|k3<|sU<|sA Z<|sN<|qR ?_
 exact oI h▸qD
theorem gH{a0:Int}{r:Bool}(h:dV a0=some r):EvP prog aF ext 258 [rI a0] [] (rB r,[]):=by
 refine Ev.body Z Tryz.func258 Z Zk<|gU Z<|sU<|sN<|gU Z<|sM Z<|bE h fun a h1 h=>cD (bF h1)<|sV (rB (!a))<|sA Z<|sN<|qR ?_
 exact oI h▸qD
theorem iv{a0:(List Int)}{r:Int}(h:cB a0=some r):EvP prog aF ext 260 [rL a0,.d (.raw (.func (.func 258) #[] #[]))] [] (rI r,[]):=by
 refine Ev.body Z Tryz.func260 Z Zk<|gU Z<|sV (r0)<|sN<|qS<|gU Z<|sM Z<|sE (rI (a0.length:Int)) (mE _ _)<|sV (r0)<|sN<|bE h fun m f h=>CI (CL (WL.mL f (fun s=>gI 0 260 2 [(0,rL a0),(1,.d (.raw (.func (.func 258) #[] #[]))),(7,rI (a0.length:Int)),(8,rI s)] []) (fun o=>match o with| .inl y=>gX 0 0 260 7 [] []| .inr r=>gF 260 Tryz.f260 0 (rI r,[])) Z ?_ ?_))
 ·rintro s1 k j p c h
  refine gS Z c<|sF h ?_ ?_<;>intro h
  ·refine sN<|qS<|cT<|qK<|qS<|qB<|gU Z<|sM Z<|sA Z<|sN<|gU Z<|mM Z<|sM Z<|bE h fun q l h=>?_
   refine eG l Z<|sC Z<|bE h fun t g h=>na h (fun a h=>?_) (fun a h=>?_)
   ·refine WO.nL (v:=rB true) (u:=[]) Z Z (fun _=>Z) Z Z Z Z Z (gH g) Z Z (congrArg (fun b=>RV.d (.bool b)) a) Z<|sN<|cT<|gU Z<|sM Z<|sA Z<|sN<|qR ?_
    cases oI h
    exact⟨nofun,rfl,rfl⟩
   refine WO.nL (v:=rB false) (u:=[]) Z Z (fun _=>Z) Z Z Z Z Z (gH g) Z Z (congrArg (fun b=>RV.d (.bool b)) a) Z<|sN<|cF<|qK<|CO Z Z<|sV (rI (rW (s1+(1:Int))))<|sM Z<|sN ?_
   cases oI h
   exact⟨rfl,rfl⟩
  refine sN<|qS<|cF<|qX ?_
  cases oI h
  exact⟨nofun,rfl,rfl⟩
 intro e k j he i
 rcases m with x|n
 ·obtain⟨rfl,c⟩:=i
  refine qE<|gS Z c<|sV (rI (-1))<|sN<|qR ?_
  exact oI h▸qD
 obtain⟨rfl,hf⟩:=i
 cases oI h
 exact hf
theorem gL{a0:(List Int)}{r:Bool}(h:ck a0=some r):EvP prog aF ext 257 [rL a0,.d (.raw (.func (.func 258) #[] #[]))] [] (rB r,[]):=by
 refine Ev.body Z Tryz.func257 Z Zk<|gU Z<|sU<|sN<|gU Z<|mM Z<|bE h fun a h1 h=>cD (iv h1)<|sV (rB (decide (a>=(0:Int))))<|sA Z<|sN<|qR ?_
 exact oI h▸qD
theorem dK{a0:(List Int)}{r:Bool}(h:bI a0=some r):EvP prog aF ext 245 [rL a0] [] (rB r,[]):=by
 refine Ev.body Z Tryz.func245 Z Zk<|gU Z<|sU<|sN<|gU Z<|sM Z<|bE h fun a h1 h=>cD (gL h1)<|sV (rB (!a))<|sA Z<|sN<|qR ?_
 exact oI h▸qD
theorem fT{a0:(List Int)}{r:Int}(h:bV a0=some r):EvP prog aF ext 231 [rL a0] [] (rI r,[]):=by
 refine Ev.body Z Tryz.func231 Z Zk<|gU Z<|sV (r0)<|sN<|gU Z<|sV (r0)<|sN<|qS<|gU Z<|sM Z<|sE (rI (a0.length:Int)) (mE _ _)<|sV (r0)<|sN<|bE h fun k b h=>CI (CL (WL.mL b (fun s=>gI 0 231 3 [(3,rI s.1),(6,rL a0),(7,rI (a0.length:Int)),(8,rI s.2)] []) (fun o=>gX 0 0 231 7 [(3,rI o)] []) Z ?_ ?_))
 ·rintro⟨s1,s2⟩ f c l a h
  refine gS Z a<|sF h ?_ ?_<;>intro h
  ·refine sN<|qS<|cT<|qK<|qS<|qB<|gU Z<|bE h fun j g h=>eG g Z<|sC Z<|sA Z<|sN<|CO Z Z<|sM Z<|sM Z ?_
   refine sV (rI (rW (s1+j)))<|sA Z<|sN<|CO Z Z<|sV (rI (rW (s2+(1:Int))))<|sM Z<|sN ?_
   cases oI h
   exact⟨rfl,rfl⟩
  refine sN<|qS<|cF<|qX ?_
  cases oI h
  exact⟨nofun,rfl,rfl⟩
 intro e f c he i
 obtain⟨rfl,a⟩:=i
 refine qE<|gS Z a<|sM Z<|sA Z<|sN<|qR ?_
 exact oI h▸qD
theorem kk{a0:au}{r:Bool}(h:bT a0=some r):EvP prog aF ext 220 [.d (au.pd a0)] [] (rB r,[]):=by
 refine Ev.body Z Tryz.func220 Z Zk<|gU Z<|sB (.ptr 16 0) 16 (.var (au.rc a0))<|sU<|sN<|gU Z<|sV (.ptr 16 7)<|sL Z<|sE (rI (a0.bp.length:Int)) (mE _ _)<|sF h ?_ ?_<;>intro h
 ·refine sM Z<|sV (.ptr 16 8)<|sL Z<|sV (rB (a0.bc==(0:Int)))<|sF h ?_ ?_<;>intro h
  ·refine sM Z<|sV (.ptr 16 9)<|sL Z<|sV (rB (a0.bq==(0:Int)))<|sV (rB (a0.bq==(0:Int)))<|sA Z<|sN<|qS<|gU Z<|sV (.ptr 16 0)<|sL Z<|sN<|qB<|gU Z<|sF h ?_ ?_<;>intro h
   ·refine sA Z<|sN<|cT<|gU Z<|sF h ?_ ?_<;>intro h
    ·refine sM Z<|sV (.ptr 16 1)<|sV (.d (aP.pd a0.aQ))<|sV (.ptr 16 1)<|sV (.ptr 16 1)<|sL Z<|sV (.d (aP.pd (aP.mk a0.aQ.a0 0 0)))<|WO.bin (cQ a0.aQ (aP.mk a0.aQ.a0 0 0)) Z Z Z Z Z<|sF h ?_ ?_<;>intro h
     ·refine sM Z<|sV (.ptr 16 4)<|sV (.d (aP.pd a0.aL))<|sV (.ptr 16 4)<|sV (.ptr 16 4)<|sL Z<|sV (.d (aP.pd (aP.mk a0.aL.a0 0 0)))<|WO.bin (cQ a0.aL (aP.mk a0.aL.a0 0 0)) Z Z Z Z Z<|sF h ?_ ?_<;>intro h
      ·refine sM Z<|sV (.ptr 16 1)<|sV (.ptr 16 1)<|sL Z<|bE h fun x7 F h=>cD (bF F)<|sF h ?_ ?_<;>intro h
       ·refine sM Z<|sV (.ptr 16 4)<|sV (.ptr 16 4)<|sL Z<|bE h fun Y G h=>cD (bF G)<|sV (rB Y)<|sA Z<|sN<|qR ?_
        cases oI h
        exact qG
       refine sM Z<|k3<|sK<|sU<|sA Z<|sN<|qR ?_
       cases oI h
       exact qG
      refine sM Z<|k3<|sK<|sU<|sM Z<|k3<|sK<|sU<|sA Z<|sN<|qR ?_
      cases oI h
      exact qG
     refine sM Z<|k3<|k3<|sK<|sU<|sM Z<|k3<|sK<|sU ?_
     refine sM Z<|k3<|sK<|sU<|sA Z<|sN<|qR ?_
     cases oI h
     exact qG
    refine sM Z<|k3<|k3<|sK<|sU<|sM Z<|k3<|sK<|sK ?_
    refine sK<|sK<|sU<|sM Z<|k3<|sK<|sU<|sM Z<|k3<|sK<|sU ?_
    refine sA Z<|sN<|qR ?_
    cases oI h
    exact qG
   refine sA Z<|sN<|cF<|gU Z<|sF h ?_ ?_<;>intro h
   ·refine sA Z<|sN<|cT<|CM (R0:=[(1,.cptr [.int .i64 a0.bu,.int .i64 a0.aQ.a0,.int .i64 a0.aQ.a1,.int .i64 a0.aQ.a2,.int .i64 a0.aL.a0,.int .i64 a0.aL.a1,.int .i64 a0.aL.a2,.lst (a0.bp.map (PD.int .i64)),.int .i64 a0.bc,.int .i64 a0.bq]),(3,rB (a0.bq==(0:Int)))]) (B0:=[]) Z Z<|sF h ?_ ?_<;>intro h
    ·refine sM Z<|sV (.cptr [.int .i64 a0.aQ.a0,.int .i64 a0.aQ.a1,.int .i64 a0.aQ.a2,.int .i64 a0.aL.a0,.int .i64 a0.aL.a1,.int .i64 a0.aL.a2,.lst (a0.bp.map (PD.int .i64)),.int .i64 a0.bc,.int .i64 a0.bq])<|sV (.d (.lst ([a0.aQ.a0,a0.aQ.a1,a0.aQ.a2].map (PD.int .i64))))<|bE h fun H e h=>cD (dK e)<|sF h ?_ ?_<;>intro h
     ·refine sM Z<|sV (.cptr [.int .i64 a0.aL.a0,.int .i64 a0.aL.a1,.int .i64 a0.aL.a2,.lst (a0.bp.map (PD.int .i64)),.int .i64 a0.bc,.int .i64 a0.bq])<|sV (.d (.lst ([a0.aL.a0,a0.aL.a1,a0.aL.a2].map (PD.int .i64))))<|bE h fun I f h=>cD (dK f)<|sF h ?_ ?_<;>intro h
      ·refine sM Z<|sV (.cptr [.int .i64 a0.aL.a0,.int .i64 a0.aL.a1,.int .i64 a0.aL.a2,.lst (a0.bp.map (PD.int .i64)),.int .i64 a0.bc,.int .i64 a0.bq])<|sV (.cptr [.int .i64 a0.aL.a0,.int .i64 a0.aL.a1,.int .i64 a0.aL.a2,.lst (a0.bp.map (PD.int .i64)),.int .i64 a0.bc,.int .i64 a0.bq])<|sC Z<|sV (rB (a0.aL.a0 != (0:Int)))<|sV (rB (a0.aL.a0 != (0:Int)))<|sA Z<|sN<|qR ?_
       exact oI h▸qD
      refine sM Z<|k3<|sK<|sU<|sA Z<|sN<|qR ?_
      exact oI h▸qD
     refine sM Z<|k3<|sU<|sM Z<|k3<|sK<|sU<|sA Z<|sN<|qR ?_
     exact oI h▸qD
    refine sM Z<|k3<|sU<|sM Z<|k3<|sU<|sM Z<|k3<|sK ?_
    refine sU<|sA Z<|sN<|qR ?_
    exact oI h▸qD
   refine sA Z<|sN<|cF<|gU Z<|sF h ?_ ?_<;>intro h
   ·refine sA Z<|sN<|cT<|gU Z<|sV (.ptr 16 1)<|sV (.d (aP.pd a0.aQ))<|sV (.d (aP.pd (aP.mk 0 0 0)))<|na h (fun a h=>?_) (fun a h=>?_)
    ·refine WO.pO (cQ a0.aQ (aP.mk 0 0 0)) a Z Z Z Z Z<|sM Z<|sV (.ptr 16 4)<|sV (.d (aP.pd a0.aL))<|sV (.d (aP.pd (aP.mk 0 0 0)))<|WO.bin (cQ a0.aL (aP.mk 0 0 0)) Z Z Z Z Z<|sF h ?_ ?_<;>intro h
     ·refine sM Z<|sV (.ptr 16 7)<|sL Z<|sE (rI (a0.bp.length:Int)) (mE _ _)<|bE h fun J g h=>cD (bF g)<|sF h ?_ ?_<;>intro h
      ·refine sM Z<|sV (.ptr 16 7)<|sL Z<|bE h fun K i h=>cD (dK i)<|sF h ?_ ?_<;>intro h
       ·refine sM Z<|sV (.ptr 16 7)<|sL Z<|bE h fun y j h=>cD (fT j)<|sV (rB (y != (0:Int)))<|sF h ?_ ?_<;>intro h
        ·refine sM Z<|sV (.ptr 16 8)<|sL Z<|bE h fun L k h=>cD (bF k)<|sF h ?_ ?_<;>intro h
         ·refine sM Z<|sV (.ptr 16 9)<|sL Z<|bE h fun z l h=>cD (bF l)<|sV (rB z)<|sA Z<|sN<|qR ?_
          cases oI h
          exact qG
         refine sM Z<|k3<|sU<|sA Z<|sN<|qR ?_
         cases oI h
         exact qG
        refine sM Z<|k3<|sU<|sM Z<|k3<|sU<|sA Z<|sN<|qR ?_
        cases oI h
        exact qG
       refine sM Z<|k3<|sK<|sU<|sM Z<|k3<|sU<|sM Z<|sK<|sK<|sK ?_
       refine sU<|sA Z<|sN<|qR ?_
       cases oI h
       exact qG
      refine sM Z<|k3<|sU<|sM Z<|k3<|sK<|sU<|sM Z<|sK<|sK<|sK ?_
      refine sU<|sM Z<|k3<|sU<|sA Z<|sN<|qR ?_
      cases oI h
      exact qG
     refine sM Z<|k3<|sK<|sU<|sM Z<|k3<|sU<|sM Z<|sK<|sK<|sK ?_
     refine sK<|sU<|sM Z<|k3<|sU<|sM Z<|k3<|sU<|sA Z<|sN<|qR ?_
     cases oI h
     exact qG
    refine WO.pO (cQ a0.aQ (aP.mk 0 0 0)) a Z Z Z Z Z<|sM Z<|k3<|sK<|sU<|sM Z<|k3<|sK<|sU<|sM Z<|sK ?_
    refine sK<|sK<|sU<|sM Z<|k3<|sK<|sU<|sM Z<|k3<|sU<|sM Z ?_
    refine k3<|sU<|sA Z<|sN<|qR ?_
    cases oI h
    exact qG
   refine sA Z<|sN<|cF<|qK<|gU Z<|sU<|sN<|qR ?_
   cases oI h
   exact qG
  refine sM Z<|k3<|sU<|sA Z<|sN<|qS<|gU Z<|sV (.ptr 16 0)<|sL Z<|sN<|qB<|gU Z<|sF h ?_ ?_<;>intro h
  ·refine sA Z<|sN<|cT<|gU Z<|mM Z<|k3<|k3<|sK<|sU<|sM Z ?_
   refine k3<|k3<|sK<|sU<|sM Z<|k3<|sK<|sU<|sM Z ?_
   refine k3<|sK<|sU<|sA Z<|sN<|qR ?_
   cases oI h
   exact qG
  refine sA Z<|sN<|cF<|gU Z<|sF h ?_ ?_<;>intro h
  ·refine sA Z<|sN<|cT<|CM (R0:=[(1,.cptr [.int .i64 a0.bu,.int .i64 a0.aQ.a0,.int .i64 a0.aQ.a1,.int .i64 a0.aQ.a2,.int .i64 a0.aL.a0,.int .i64 a0.aL.a1,.int .i64 a0.aL.a2,.lst (a0.bp.map (PD.int .i64)),.int .i64 a0.bc,.int .i64 a0.bq]),(3,rB false)]) (B0:=[]) Z Z<|mM Z<|k3<|sU<|sM Z<|k3<|sU ?_
   refine sM Z<|k3<|sK<|sU<|sA Z<|sN<|qR ?_
   exact oI h▸qD
  refine sA Z<|sN<|cF<|gU Z<|sF h ?_ ?_<;>intro h
  ·refine sA Z<|sN<|cT<|gU Z<|sV (.ptr 16 1)<|sV (.d (aP.pd a0.aQ))<|sV (.d (aP.pd (aP.mk 0 0 0)))<|na h (fun b h=>?_) (fun b h=>?_)
   ·refine WO.pO (cQ a0.aQ (aP.mk 0 0 0)) b Z Z Z Z Z<|sM Z<|sV (.ptr 16 4)<|sV (.d (aP.pd a0.aL))<|sV (.d (aP.pd (aP.mk 0 0 0)))<|WO.bin (cQ a0.aL (aP.mk 0 0 0)) Z Z Z Z Z<|sF h ?_ ?_<;>intro h
    ·refine sM Z<|sV (.ptr 16 7)<|sL Z<|sE (rI (a0.bp.length:Int)) (mE _ _)<|bE h fun N m h=>cD (bF m)<|sF h ?_ ?_<;>intro h
     ·refine sM Z<|sV (.ptr 16 7)<|sL Z<|bE h fun O n h=>cD (dK n)<|sF h ?_ ?_<;>intro h
      ·refine sM Z<|sV (.ptr 16 7)<|sL Z<|bE h fun B o h=>cD (fT o)<|sV (rB (B != (0:Int)))<|sF h ?_ ?_<;>intro h
       ·refine sM Z<|sV (.ptr 16 8)<|sL Z<|bE h fun Q p h=>cD (bF p)<|sF h ?_ ?_<;>intro h
        ·refine sM Z<|sV (.ptr 16 9)<|sL Z<|bE h fun C q h=>cD (bF q)<|sV (rB C)<|sA Z<|sN<|qR ?_
         cases oI h
         exact qG
        refine sM Z<|k3<|sU<|sA Z<|sN<|qR ?_
        cases oI h
        exact qG
       refine sM Z<|k3<|sU<|sM Z<|k3<|sU<|sA Z<|sN<|qR ?_
       cases oI h
       exact qG
      refine sM Z<|k3<|sK<|sU<|sM Z<|k3<|sU<|sM Z<|sK<|sK<|sK ?_
      refine sU<|sA Z<|sN<|qR ?_
      cases oI h
      exact qG
     refine sM Z<|k3<|sU<|sM Z<|k3<|sK<|sU<|sM Z<|sK<|sK<|sK ?_
     refine sU<|sM Z<|k3<|sU<|sA Z<|sN<|qR ?_
     cases oI h
     exact qG
    refine sM Z<|k3<|sK<|sU<|sM Z<|k3<|sU<|sM Z<|sK<|sK<|sK ?_
    refine sK<|sU<|sM Z<|k3<|sU<|sM Z<|k3<|sU<|sA Z<|sN<|qR ?_
    cases oI h
    exact qG
   refine WO.pO (cQ a0.aQ (aP.mk 0 0 0)) b Z Z Z Z Z<|sM Z<|k3<|sK<|sU<|sM Z<|k3<|sK<|sU<|sM Z<|sK ?_
   refine sK<|sK<|sU<|sM Z<|k3<|sK<|sU<|sM Z<|k3<|sU<|sM Z ?_
   refine k3<|sU<|sA Z<|sN<|qR ?_
   cases oI h
   exact qG
  refine sA Z<|sN<|cF<|qK<|gU Z<|sU<|sN<|qR ?_
  cases oI h
  exact qG
 refine sM Z<|k3<|sU<|sM Z<|k3<|sU<|sA Z<|sN<|qS<|gU Z<|sV (.ptr 16 0) ?_
 refine sL Z<|sN<|qB<|gU Z<|sF h ?_ ?_<;>intro h
 ·refine sA Z<|sN<|cT<|gU Z<|mM Z<|k3<|k3<|sK<|sU<|sM Z ?_
  refine k3<|k3<|sK<|sU<|sM Z<|k3<|sK<|sU<|sM Z ?_
  refine k3<|sK<|sU<|sA Z<|sN<|qR ?_
  cases oI h
  exact qG
 refine sA Z<|sN<|cF<|gU Z<|sF h ?_ ?_<;>intro h
 ·refine sA Z<|sN<|cT<|CM (R0:=[(1,.cptr [.int .i64 a0.bu,.int .i64 a0.aQ.a0,.int .i64 a0.aQ.a1,.int .i64 a0.aQ.a2,.int .i64 a0.aL.a0,.int .i64 a0.aL.a1,.int .i64 a0.aL.a2,.lst (a0.bp.map (PD.int .i64)),.int .i64 a0.bc,.int .i64 a0.bq]),(3,rB false)]) (B0:=[]) Z Z<|mM Z<|k3<|sU<|sM Z<|k3<|sU ?_
  refine sM Z<|k3<|sK<|sU<|sA Z<|sN<|qR ?_
  exact oI h▸qD
 refine sA Z<|sN<|cF<|gU Z<|sF h ?_ ?_<;>intro h
 ·refine sA Z<|sN<|cT<|gU Z<|sV (.ptr 16 1)<|sV (.d (aP.pd a0.aQ))<|sV (.d (aP.pd (aP.mk 0 0 0)))<|na h (fun c h=>?_) (fun c h=>?_)
  ·refine WO.pO (cQ a0.aQ (aP.mk 0 0 0)) c Z Z Z Z Z<|sM Z<|sV (.ptr 16 4)<|sV (.d (aP.pd a0.aL))<|sV (.d (aP.pd (aP.mk 0 0 0)))<|WO.bin (cQ a0.aL (aP.mk 0 0 0)) Z Z Z Z Z<|sF h ?_ ?_<;>intro h
   ·refine sM Z<|sV (.ptr 16 7)<|sL Z<|sE (rI (a0.bp.length:Int)) (mE _ _)<|bE h fun T s h=>cD (bF s)<|sF h ?_ ?_<;>intro h
    ·refine sM Z<|sV (.ptr 16 7)<|sL Z<|bE h fun W t h=>cD (dK t)<|sF h ?_ ?_<;>intro h
     ·refine sM Z<|sV (.ptr 16 7)<|sL Z<|bE h fun D u h=>cD (fT u)<|sV (rB (D != (0:Int)))<|sF h ?_ ?_<;>intro h
      ·refine sM Z<|sV (.ptr 16 8)<|sL Z<|bE h fun X v h=>cD (bF v)<|sF h ?_ ?_<;>intro h
       ·refine sM Z<|sV (.ptr 16 9)<|sL Z<|bE h fun E x h=>cD (bF x)<|sV (rB E)<|sA Z<|sN<|qR ?_
        cases oI h
        exact qG
       refine sM Z<|k3<|sU<|sA Z<|sN<|qR ?_
       cases oI h
       exact qG
      refine sM Z<|k3<|sU<|sM Z<|k3<|sU<|sA Z<|sN<|qR ?_
      cases oI h
      exact qG
     refine sM Z<|k3<|sK<|sU<|sM Z<|k3<|sU<|sM Z<|sK<|sK<|sK ?_
     refine sU<|sA Z<|sN<|qR ?_
     cases oI h
     exact qG
    refine sM Z<|k3<|sU<|sM Z<|k3<|sK<|sU<|sM Z<|sK<|sK<|sK ?_
    refine sU<|sM Z<|k3<|sU<|sA Z<|sN<|qR ?_
    cases oI h
    exact qG
   refine sM Z<|k3<|sK<|sU<|sM Z<|k3<|sU<|sM Z<|sK<|sK<|sK ?_
   refine sK<|sU<|sM Z<|k3<|sU<|sM Z<|k3<|sU<|sA Z<|sN<|qR ?_
   cases oI h
   exact qG
  refine WO.pO (cQ a0.aQ (aP.mk 0 0 0)) c Z Z Z Z Z<|sM Z<|k3<|sK<|sU<|sM Z<|k3<|sK<|sU<|sM Z<|sK ?_
  refine sK<|sK<|sU<|sM Z<|k3<|sK<|sU<|sM Z<|k3<|sU<|sM Z ?_
  refine k3<|sU<|sA Z<|sN<|qR ?_
  cases oI h
  exact qG
 refine sA Z<|sN<|cF<|qK<|gU Z<|sU<|sN<|qR ?_
 cases oI h
 exact qG
theorem gG{a0:au}{r:Bool}(h:dU a0=some r):EvP prog aF ext 219 [.d (au.pd a0)] [] (rB r,[]):=by
 refine Ev.body Z Tryz.func219 Z Zk<|gU Z<|sB (.ptr 16 0) 16 (.var (au.rc a0))<|sU<|sN<|gU Z<|sV (.d (au.pd a0))<|bE h fun a h1 h=>cD (kk h1)<|sV (rB (!a))<|sA Z<|sN<|qR ?_
 cases oI h
 exact qG
theorem hF{a0:(List au)}{r:Int}(h:ct a0=some r):EvP prog aF ext 244 [rM au.pd a0,.d (.raw (.func (.func 219) #[] #[]))] [] (rI r,[]):=by
 refine Ev.body Z Tryz.func244 Z Zk<|gU Z<|sV (r0)<|sN<|qS<|gU Z<|sM Z<|sE (rI (a0.length:Int)) (mE _ _)<|sV (r0)<|sN<|bE h fun m f h=>CI (CL (WL.mL f (fun s=>gI 0 244 2 [(0,rM au.pd a0),(1,.d (.raw (.func (.func 219) #[] #[]))),(7,rI (a0.length:Int)),(8,rI s)] []) (fun o=>match o with| .inl y=>gX 0 0 244 7 [] []| .inr r=>gF 244 Tryz.f244 0 (rI r,[])) Z ?_ ?_))
 ·rintro s1 k j q c h
  refine gS Z c<|sF h ?_ ?_<;>intro h
  ·refine sN<|qS<|cT<|qK<|qS<|qB<|gU Z<|sM Z<|sA Z<|sN<|gU Z<|mM Z<|sM Z<|bE h fun p l h=>?_
   refine eG l Z<|sV (.d (au.pd p))<|bE h fun t g h=>na h (fun a h=>?_) (fun a h=>?_)
   ·refine WO.nL (v:=rB true) (u:=[]) Z Z (fun _=>Z) Z Z Z Z Z (gG g) Z Z (congrArg (fun b=>RV.d (.bool b)) a) Z<|sN<|cT<|gU Z<|sM Z<|sA Z<|sN<|qR ?_
    cases oI h
    exact⟨nofun,rfl,rfl⟩
   refine WO.nL (v:=rB false) (u:=[]) Z Z (fun _=>Z) Z Z Z Z Z (gG g) Z Z (congrArg (fun b=>RV.d (.bool b)) a) Z<|sN<|cF<|qK<|CO Z Z<|sV (rI (rW (s1+(1:Int))))<|sM Z<|sN ?_
   cases oI h
   exact⟨rfl,rfl⟩
  refine sN<|qS<|cF<|qX ?_
  cases oI h
  exact⟨nofun,rfl,rfl⟩
 intro e k j he i
 rcases m with x|n
 ·obtain⟨rfl,c⟩:=i
  refine qE<|gS Z c<|sV (rI (-1))<|sN<|qR ?_
  exact oI h▸qD
 obtain⟨rfl,hf⟩:=i
 cases oI h
 exact hf
theorem gj{a0:(List au)}{r:Bool}(h:bw a0=some r):EvP prog aF ext 218 [rM au.pd a0,.d (.raw (.func (.func 219) #[] #[]))] [] (rB r,[]):=by
 refine Ev.body Z Tryz.func218 Z Zk<|gU Z<|sU<|sN<|gU Z<|mM Z<|bE h fun a h1 h=>cD (hF h1)<|sV (rB (decide (a>=(0:Int))))<|sA Z<|sN<|qR ?_
 exact oI h▸qD
theorem l9{a0:(List au)}{r:Int}(h:dE a0=some r):EvP prog aF ext 221 [rM au.pd a0] [] (rI r,[]):=by
 refine Ev.body Z Tryz.func221 Z Zk<|gU Z<|sV (r0)<|sN<|gU Z<|sV (rI 1)<|sN<|qS<|gU Z<|sM Z<|sE (rI (a0.length:Int)) (mE _ _)<|sV (r0)<|sN<|bE h fun c a h=>CI (CL (WL.mL a (fun s=>gI 0 221 3 [(3,rI s.1),(6,rM au.pd a0),(7,rI (a0.length:Int)),(8,rI s.2)] []) (fun o=>match o with| .inl y=>gX 0 0 221 10 [(3,rI y)] []| .inr r=>gF 221 Tryz.f221 0 (rI r,[])) Z ?_ ?_))
 ·rintro⟨s1,s2⟩ j i n b h
  refine gS Z b<|sF h ?_ ?_<;>intro h
  ·refine sN<|qS<|cT<|qK<|qS<|qB<|gU Z<|bE h fun f k h=>eG k Z<|sV (.d (au.pd f))<|sB (.ptr 80 0) 80 (.var [r0,r0,r0,r0,r0,r0,r0,.cI,r0,r0])<|sH 80 (.var (au.rc f))<|sN<|qS<|gU Z ?_
   refine sV (.ptr 80 0)<|sL Z<|sF h ?_ ?_<;>intro h
   ·refine sN<|cT<|qX<|qE<|CO Z Z<|sV (rI (rW (s2+(1:Int))))<|sM Z<|sN ?_
    cases oI h
    exact⟨rfl,rfl⟩
   refine sN<|cF<|qK<|gU Z<|sM Z<|sV (.ptr 80 8)<|sL Z<|sV (rI (rW (s1*f.bc)))<|sA Z<|sN<|gU Z<|sM Z<|sF h ?_ ?_<;>intro h
   ·refine sN<|cT<|gU Z<|sV (r0)<|sN<|qR ?_
    cases oI h
    exact⟨nofun,rfl,rfl⟩
   refine sN<|cF<|qK<|CO Z Z<|sV (rI (rW (s2+(1:Int))))<|sM Z<|sN ?_
   cases oI h
   exact⟨rfl,rfl⟩
  refine sN<|qS<|cF<|qX ?_
  cases oI h
  exact⟨nofun,rfl,rfl⟩
 intro e j i he g
 rcases c with m|l
 ·obtain⟨rfl,b⟩:=g
  refine qE<|gS Z b<|sM Z<|sA Z<|sN<|qR ?_
  exact oI h▸qD
 obtain⟨rfl,hf⟩:=g
 cases oI h
 exact hf
theorem jq{a0:aA}{r:Bool}(h:dx a0=some r):EvP prog aF ext 173 [.d (aA.pd a0)] [] (rB r,[]):=by
 refine Ev.body Z Tryz.func173 Z Zk<|gU Z<|sB (.ptr 16 0) 16 (.var [rM au.pd a0.aD])<|sU<|sN<|qS<|gU Z<|sV (.ptr 16 0)<|sL Z<|sE (rI (a0.aD.length:Int)) (mE _ _)<|sF h ?_ ?_<;>intro h
 ·refine sM Z<|k3<|sT<|sN<|cT<|gU Z<|sU<|sN<|qR ?_
  exact oI h▸qD
 refine sM Z<|sV (.ptr 16 0)<|sL Z<|bE h fun e a h=>cD (gj a)<|sF h ?_ ?_<;>intro h
 ·refine sN<|cT<|gU Z<|sU<|sN<|qR ?_
  exact oI h▸qD
 refine sN<|cF<|qK<|gU Z<|sV (.ptr 16 0)<|sL Z<|bE h fun c b h=>cD (l9 b)<|sV (rB (decide (c>(0:Int))))<|sA Z<|sN<|qR ?_
 exact oI h▸qD
theorem fK{a0:Int}{a1:Int}{a2:Int}{r:Bool}(h:de a0 a1 a2=some r):EvP prog aF ext 138 [rI a0,rI a1,rI a2] [] (rB r,[]):=by
 refine Ev.body Z Tryz.func138 Z Zk<|gU Z<|sU<|sN<|gU Z<|mM Z<|sF h ?_ ?_<;>intro h
 ·refine mM Z<|sM Z<|sV (rB (decide (a0<=a2)))<|sV (rB (decide (a0<=a2)))<|sA Z<|sN<|qR ?_
  exact oI h▸qD
 refine sM Z<|k3<|sU<|sA Z<|sN<|qR ?_
 exact oI h▸qD
end Go.Dw.Es
