
import Derived.Test.YtfmoipelhfkdkaaGreatDoorReFn
import Derived.Test.YtfmoipelhfkdkaaGreatDoorDwShort
import Derived.Test.YtfmoipelhfkdkaaGreatDoorDwNest
import Derived.Test.YtfmoipelhfkdkaaGreatDoorDwAuto
import Derived.Test.YtfmoipelhfkdkaaGreatDoorProg
import Derived.Test.YtfmoipelhfkdkaaGreatDoorDwHole
import Derived.Test.YtfmoipelhfkdkaaGreatDoorDwClone
import Derived.Test.YtfmoipelhfkdkaaGreatDoorDwSortI
import Derived.Test.YtfmoipelhfkdkaaGreatDoorDwHand
import Derived.Test.YtfmoipelhfkdkaaGreatDoorDwSort
set_option linter.unusedVariables false
set_option linter.unusedSimpArgs false
open Go.Dw.WC renaming block->Fq, loop->Fs, pe->Ft, region->Fu, tu->Fv

set_option maxRecDepth 100000
set_option maxHeartbeats 4000000
namespace Go.Dw.Re
open Go.Proofs Go.Proofs.Tryz Go.Dw
@[reducible] def rW(n:Int):Int:=IntKind.wrap .i64 n
@[reducible] def rI(n:Int):RV:= .d (.int .i64 n)
@[reducible] def r0:RV:= .d (.int .i64 0)
@[reducible] def rS(s:List UInt8):RV:= .d (.str s)
@[reducible] def rB(b:Bool):RV:= .d (.bool b)
@[reducible] def rM{α:Type}(g:α->PD)(l:List α):RV:= .d (.lst (l.map g))
@[reducible] def rL(l:List Int):RV:= .d (.lst (l.map (PD.int .i64)))
@[reducible] def zZ0:List RV:=[.d (.int .i64 0),.d (.int .i64 0),.d (.int .i64 0),.d (.int .i64 0),.d (.int .i64 0),.d (.int .i64 0),.d (.int .i64 0),.rm,.rm,.d (.int .i64 0),.d (.int .i64 0),.d (.int .i64 0),.d (.int .i64 0),.d (.int .i64 0),.d (.int .i64 0),.rm,.rm,.d (.int .i64 0),.d (.int .i64 0),.d (.int .i64 0),.rm,.rm]
@[reducible] def zZ1:List RV:=[.d (.int .i64 0),.d (.int .i64 0),.d (.int .i64 0),.d (.int .i64 0),.d (.int .i64 0),.d (.int .i64 0),.d (.int .i64 0),.d (.int .i64 0),.d (.int .i64 0),.d (.int .i64 0),.d (.int .i64 0),.d (.int .i64 0)]
@[reducible] def bh.rc(x:bh):List RV:=[.d (.int .i64 x.kk),.d (.int .i64 x.cg.a0),.d (.int .i64 x.cg.a1),.d (.int .i64 x.cg.a2),.d (.int .i64 x.b9.a0),.d (.int .i64 x.b9.a1),.d (.int .i64 x.b9.a2),.d (.lst (x.eC.map (PD.int .i64))),.d (.int .i64 x.eJ),.d (.int .i64 x.fc)]
@[reducible] def aa.rc(x:aa):List RV:=[.d (.str x.a7.bI),.d (.str x.a7.bw),.d (.str x.a7.bc),.d (.str x.a7.bL),.d (.int .i64 x.bT),.d (.int .i64 x.bu),.d (.int .i64 x.co),.d (.int .i64 x.bH),.d (.int .i64 x.bN)]
@[reducible] def ah.rc(x:ah):List RV:=[.d (.int .i64 x.ac.bj.bt.fX),.d (.int .i64 x.ac.bj.bt.fY),.d (.int .i64 x.ac.bj.bt.fZ),.d (.int .i64 x.ac.bj.bd.fX),.d (.int .i64 x.ac.bj.bd.fY),.d (.int .i64 x.ac.bj.bd.fZ),.d (.int .i64 x.ac.bG.bQ),.d (.lst (x.ac.bG.bt.map (PD.int .i64))),.d (.lst (x.ac.bG.bd.map (PD.int .i64))),.d (.int .i64 x.ac.dv),.d (.int .i64 x.ac.bA),.d (.int .i64 x.ac.ch),.d (.int .i64 x.ac.dJ),.d (.int .i64 x.ac.cn),.d (.int .i64 x.bK.bB.bQ),.d (.lst (x.bK.bB.bt.map (PD.int .i64))),.d (.lst (x.bK.bB.bd.map (PD.int .i64))),.d (.int .i64 x.bK.cg),.d (.int .i64 x.bK.b9),.d (.int .i64 x.bA)]
@[reducible] def bi.rc(x:bi):List RV:=[.d (.int .i64 x.bj.bt.fX),.d (.int .i64 x.bj.bt.fY),.d (.int .i64 x.bj.bt.fZ),.d (.int .i64 x.bj.bd.fX),.d (.int .i64 x.bj.bd.fY),.d (.int .i64 x.bj.bd.fZ),.d (.int .i64 x.bG.bQ),.d (.lst (x.bG.bt.map (PD.int .i64))),.d (.lst (x.bG.bd.map (PD.int .i64))),.d (.int .i64 x.dv),.d (.int .i64 x.bA),.d (.int .i64 x.ch),.d (.int .i64 x.dJ),.d (.int .i64 x.cn)]
@[reducible] def al.rc(x:al):List RV:=[.d (.int .i64 x.bt.fX),.d (.int .i64 x.bt.fY),.d (.int .i64 x.bt.fZ),.d (.int .i64 x.bd.fX),.d (.int .i64 x.bd.fY),.d (.int .i64 x.bd.fZ)]
@[reducible] def aj.rc(x:aj):List RV:=[.d (.str x.a7.bI),.d (.str x.a7.bw),.d (.str x.a7.bc),.d (.str x.a7.bL),.d (.lst (x.ct.map az.pd))]
@[reducible] def cr.rc(x:cr):List RV:=[.d (.int .i64 x.fp.bj.bt.fX),.d (.int .i64 x.fp.bj.bt.fY),.d (.int .i64 x.fp.bj.bt.fZ),.d (.int .i64 x.fp.bj.bd.fX),.d (.int .i64 x.fp.bj.bd.fY),.d (.int .i64 x.fp.bj.bd.fZ),.d (.int .i64 x.fp.bG.bQ),.d (.lst (x.fp.bG.bt.map (PD.int .i64))),.d (.lst (x.fp.bG.bd.map (PD.int .i64))),.d (.lst (x.fp.bM.map aw.pd)),.d (.int .i64 x.fp.dv),.d (.lst (x.mB.map ar.pd)),.d (.int .i64 x.mA),.d (.int .i64 x.ftaken),.d (.bool x.ffound),.d (.int .i64 x.cx.bO.fX),.d (.int .i64 x.cx.bO.fY),.d (.int .i64 x.cx.bO.fZ),.d (.int .i64 x.cx.bT),.d (.int .i64 x.cx.cb),.d (.int .i64 x.cx.mz),.d (.int .i64 x.cx.cp.bt.fX),.d (.int .i64 x.cx.cp.bt.fY),.d (.int .i64 x.cx.cp.bt.fZ),.d (.int .i64 x.cx.cp.bd.fX),.d (.int .i64 x.cx.cp.bd.fY),.d (.int .i64 x.cx.cp.bd.fZ)]
@[reducible] def bJ.rc(x:bJ):List RV:=[.d (.lst (x.da.map aa.pd)),.d (.int .i64 x.bc.bO.fX),.d (.int .i64 x.bc.bO.fY),.d (.int .i64 x.bc.bO.fZ),.d (.int .i64 x.bc.bT),.d (.int .i64 x.bc.cb),.d (.int .i64 x.bc.mz),.d (.int .i64 x.bc.cp.bt.fX),.d (.int .i64 x.bc.cp.bt.fY),.d (.int .i64 x.bc.cp.bt.fZ),.d (.int .i64 x.bc.cp.bd.fX),.d (.int .i64 x.bc.cp.bd.fY),.d (.int .i64 x.bc.cp.bd.fZ),.d (.int .i64 x.fh.bt),.d (.int .i64 x.fh.bd),.d (.int .i64 x.qN)]
@[reducible] def ap.rc(x:ap):List RV:=[.d (.int .i64 x.bO.fX),.d (.int .i64 x.bO.fY),.d (.int .i64 x.bO.fZ),.d (.int .i64 x.bT),.d (.int .i64 x.cb),.d (.int .i64 x.mz),.d (.int .i64 x.cp.bt.fX),.d (.int .i64 x.cp.bt.fY),.d (.int .i64 x.cp.bt.fZ),.d (.int .i64 x.cp.bd.fX),.d (.int .i64 x.cp.bd.fY),.d (.int .i64 x.cp.bd.fZ)]
@[reducible] def ak.rc(x:ak):List RV:=[.d (.int .i64 x.bj.bt.fX),.d (.int .i64 x.bj.bt.fY),.d (.int .i64 x.bj.bt.fZ),.d (.int .i64 x.bj.bd.fX),.d (.int .i64 x.bj.bd.fY),.d (.int .i64 x.bj.bd.fZ),.d (.int .i64 x.bG.bQ),.d (.lst (x.bG.bt.map (PD.int .i64))),.d (.lst (x.bG.bd.map (PD.int .i64))),.d (.lst (x.bM.map aw.pd)),.d (.int .i64 x.dv)]
@[reducible] def ar.rc(x:ar):List RV:=[.d (.int .i64 x.mT.bt.fX),.d (.int .i64 x.mT.bt.fY),.d (.int .i64 x.mT.bt.fZ),.d (.int .i64 x.mT.bd.fX),.d (.int .i64 x.mT.bd.fY),.d (.int .i64 x.mT.bd.fZ),.d (.int .i64 x.dF),.d (.int .i64 x.mA)]
@[reducible] def bC.rc(x:bC):List RV:=[.d (.lst (x.dj.map (PD.int .i64))),.d (.int .i64 x.bO.fX),.d (.int .i64 x.bO.fY),.d (.int .i64 x.bO.fZ),.d (.int .i64 x.bT)]
@[reducible] def av.rc(x:av):List RV:=[.d (.int .i64 x.ba.ac.bj.bt.fX),.d (.int .i64 x.ba.ac.bj.bt.fY),.d (.int .i64 x.ba.ac.bj.bt.fZ),.d (.int .i64 x.ba.ac.bj.bd.fX),.d (.int .i64 x.ba.ac.bj.bd.fY),.d (.int .i64 x.ba.ac.bj.bd.fZ),.d (.int .i64 x.ba.ac.bG.bQ),.d (.lst (x.ba.ac.bG.bt.map (PD.int .i64))),.d (.lst (x.ba.ac.bG.bd.map (PD.int .i64))),.d (.int .i64 x.ba.ac.dv),.d (.int .i64 x.ba.ac.bA),.d (.int .i64 x.ba.ac.ch),.d (.int .i64 x.ba.ac.dJ),.d (.int .i64 x.ba.ac.cn),.d (.int .i64 x.ba.bK.bB.bQ),.d (.lst (x.ba.bK.bB.bt.map (PD.int .i64))),.d (.lst (x.ba.bK.bB.bd.map (PD.int .i64))),.d (.int .i64 x.ba.bK.cg),.d (.int .i64 x.ba.bK.b9),.d (.int .i64 x.ba.bA),.d (.lst (x.cm.a8.map aj.pd)),.d (.lst (x.bU.map bq.pd))]
@[reducible] def bn.rc(x:bn):List RV:=[.d (.str x.bI),.d (.str x.bw),.d (.str x.bc),.d (.str x.bL)]
@[reducible] def ai.rc(x:ai):List RV:=[.d (.lst (x.fL.map (PD.int .i64))),.d (.int .i64 x.fAt)]
@[reducible] def bg.rc(x:bg):List RV:=[.d (.int .i64 x.bQ),.d (.lst (x.bt.map (PD.int .i64))),.d (.lst (x.bd.map (PD.int .i64)))]
@[reducible] def bS.rc(x:bS):List RV:=[.d (.int .i64 x.bB.bQ),.d (.lst (x.bB.bt.map (PD.int .i64))),.d (.lst (x.bB.bd.map (PD.int .i64))),.d (.int .i64 x.cg),.d (.int .i64 x.b9)]
@[reducible] def ag.rc(x:ag):List RV:=[.d (.int .i64 x.fX),.d (.int .i64 x.fY),.d (.int .i64 x.fZ)]
@[reducible] def bq.rc(x:bq):List RV:=[.d (.lst (x.da.map aa.pd)),.d (.lst (x.gH.map aq.pd)),.d (.lst (x.pL.map aa.pd))]
theorem Z{α:Sort _}{a:α}:a=a:=rfl
theorem Zk{α:Sort _}{a b:α}(h:a=b:=by kernel_rfl):a=b:=h
theorem gU{P:Program}{H:Hints}{ext:FuncId->Option rO}{f:FuncId}{g:Nat}{R:List (Nat×RV)}{B:List (Nat×Box)}{Q:Ex->List (Nat×RV)->List (Nat×Box)->Prop}{id:Nat}{ops:Array Oper}{l:List Oper}{R0:List (Nat×RV)}{B0:List (Nat×Box)}{b:Code}(hl:(ops.toList,rJ P g (A R B) (H.at_ f g id))=(l,some (A R0 B0)))
    (h:WO P H ext (H.hf f) ops l R0 B0 fun k j _=>WC P H ext f g b k j Q):WC P H ext f g (.seq (.region id ops false) b) R B Q:=gS (congrArg Prod.fst hl) (congrArg Prod.snd hl) h
theorem mM{P:Program}{H:Hints}{ext:FuncId->Option rO}{mt:Hf}{ops:Array Oper}{l:List Oper}{R:List (Nat×RV)}{B:List (Nat×Box)}{K:List (Nat×RV)->List (Nat×Box)->List Tr->Prop}{d e:Nat}{ty u:TypeId}{p q:String}{f j:Array Edge}{g k:Option (Nat×Bool)}{x y:Operand}{v w:RV}(r:((A R B).opd x,(A ((d,v)::R) B).opd y)=(some v,some w))(h:WO P H ext mt ops l ((e,w)::(d,v)::R) B fun D C ts=>K D C (⟨[],[]⟩::⟨[],[]⟩::ts))(hw:og ops (A R B) ⟨some d,.move x,ty,p,f,g⟩=some true:=by exact rfl)(hu:og ops (A ((d,v)::R) B) ⟨some e,.move y,u,q,j,k⟩=some true:=by exact rfl):WO P H ext mt ops (⟨some d,.move x,ty,p,f,g⟩::⟨some e,.move y,u,q,j,k⟩::l) R B K:=
  sM (congrArg Prod.fst r) (sM (congrArg Prod.snd r) h hu) hw
def hintAt:FuncId->Nat->Nat->List w6:=fun f g id=>
  if f<127 then(if f<51 then(if f<22 then(if f<13 then(if f<9 then(if f<8 then(if f=5 then(if g=0 then(if id=8 then [.dE [3,4,5,6,7,9] [64,80,112,304]]else if id=13 then [.dE [3,4,5,6,7,9] [64,80,112,304]]else if id=17 then [.dE [4,5,6,7] [64,80,112]]else [])else [])else [])else(if f=8 then(if g=1 then(if id=3 then [.ownp (.cell 80 0) 1104 93,.dE [0,1,4,5,6] [0,64,80,1104]]else if id=16 then [.dE [4,5] [0,64,80,1104]]else [])else [])else []))else(if f<10 then(if f=9 then(if g=1 then(if id=4 then [.own 9 2192 70,.dE [0,5,6,9,10,11,12] [0,80,96,160,2192]]else if id=12 then [.dE [0,5,6,9,10,11,12,13,14,16] [0,80,96,160,208,224,2192]]else if id=14 then [.dE [0,5,6,9,10,11,12,13,16] [0,80,96,160,208,2192]]else if id=18 then [.dE [0,5,6,9,10,11,12,13] [0,80,96,160,208,2192]]else if id=21 then [.dE [9] [0,2192]]else [])else [])else [])else(if f<12 then(if f=10 then(if g=1 then(if id=3 then [.own 7 368 70,.dE [0,1,2,7,10,11] [0,368]]else if id=8 then [.dE [0,2,7] [0,368]]else [])else [])else [])else(if f=12 then(if g=1 then(if id=3 then [.ownp (.cell 80 0) 1536 93,.dE [0,4,5,10,11,12] [0,64,80,1536]]else if id=20 then [.dE [4,5] [0,64,80,1536]]else [])else [])else []))))else(if f<16 then(if f<14 then(if f=13 then(if g=0 then(if id=6 then [.ownp (.cell 160 21) 800 61,.dE [3,4,6,10,29,30,31] [48,64,96,160,800]]else if id=13 then [.dE [6,10] [96,160,800]]else [])else [])else [])else(if f<15 then(if f=14 then(if g=0 then(if id=9 then [.dE [3,4,6,9,11,12,52,53,54] [48,64,96,800]]else if id=13 then [.dE [3,4,6,9,11,12] [48,64,96,800]]else if id=15 then [.mv (.cell 240 21) 90240,.ownp (.cell 240 21) 90240 61,.dE [3,4,6,11,12,15,68,69,70] [48,64,96,240,800,90240]]else if id=24 then [.dE [6,11,15] [96,240,90240]]else [])else [])else [])else(if f=15 then(if g=0 then(if id=8 then [.dE [0,2,8,9,12,13,53,54,55] [128,144,208,832]]else if id=11 then [.dE [0,2,8,9,12,13,14,53,54,55,60,61,62] [128,144,208,832]]else if id=15 then [.dE [0,2,8,9,12,13,53,54,55] [128,144,208,832]]else if id=16 then [.dE [0,2,8,9,12,13] [128,144,208,832]]else if id=18 then [.own 18 1728 3,.dE [8,9,12,13,18,74,75,76] [128,144,208,832,1728]]else if id=25 then [.dE [18] [1728]]else [])else [])else [])))else(if f<18 then(if f=16 then(if g=0 then(if id=4 then [.dE [0,1,12,13] []]else if id=9 then [.dE [] []]else [])else [])else [])else(if f<19 then(if f=18 then(if g=0 then(if id=4 then [.dE [0,1,5] []]else if id=8 then [.dE [] []]else [])else [])else [])else(if f=19 then(if g=0 then(if id=4 then [.dE [0,1,5] []]else if id=8 then [.dE [] []]else [])else [])else [])))))else(if f<32 then(if f<24 then(if f<23 then(if f=22 then(if g=0 then(if id=9 then [.own 14 1360 122,.dE [3,4,9,13,14,47,48,49] [48,64,1360]]else if id=13 then [.own 17 1056 70,.dE [3,4,9,13,14,17,47,48,49,54,55,56] [48,64,1056,1360]]else if id=17 then [.dE [3,4,9,13,14,17,47,48,49] [48,64,1056,1360]]else if id=22 then [.dE [9,13,14] [1360]]else if id=25 then [.own 22 1648 70,.dE [9,14,22,91,92,93] [1360,1648]]else if id=29 then [.dE [14,22] [1360,1648]]else [])else [])else [])else(if f=23 then(if g=0 then(if id=4 then [.dE [2,3,5] [32,48]]else if id=9 then [.dE [] []]else [])else [])else []))else(if f<27 then(if f=24 then(if g=0 then(if id=3 then [.own 3 272 122,.dE [3,7,8,9] [272]]else if id=7 then [.dE [3] [272]]else [])else [])else [])else(if f<29 then(if f=27 then(if g=0 then(if id=3 then [.own 3 816 70,.dE [0,3,4] [816]]else if id=6 then [.dE [0,3,4,5] [816]]else if id=8 then [.dE [0,3,4,5] [816]]else if id=9 then [.dE [0,3,4,5] [816]]else if id=12 then [.dE [3] [816]]else [])else [])else [])else(if f=29 then(if g=1 then(if id=3 then [.dE [2,3,16,17] [0,32,48,96,97]]else if id=7 then [.dE [2,3] [0,32,48,96,97]]else [])else [])else []))))else(if f<43 then(if f<34 then(if f=32 then(if g=1 then(if id=3 then [.ownp (.cell 48 0) 1040 149,.dE [0,2,3,4] [0,32,48,1040]]else if id=13 then [.dE [2,3] [0,32,48,1040]]else [])else [])else [])else(if f<39 then(if f=34 then(if g=0 then(if id=2 then [.dE [2,4,6,13,14,15] [64,96]]else if id=5 then [.dE [2,4,6,9,13,14,15,20,21,22] [64,96,144]]else if id=10 then [.dE [2,4,6,13,14,15] [64,96]]else if id=11 then [.dE [6] [96]]else [])else [])else [])else(if f=39 then(if g=0 then(if id=2 then [.frz (.cell 32 15),.frz (.cell 32 16),.frz (.cell 32 7),.frz (.cell 32 8),.dE [2,3,4,17,18,19] [32,48,64]]else if id=8 then [.ownp (.cell 112 0) 1648 93,.dE [2,4,7,41,42,43] [32,64,112,1648]]else if id=12 then [.cls 784,.dE [2,4,7,9,41,42,43,53,54] [32,64,112,144,784,1648]]else if id=14 then [.opn 784 10 7]else if id=16 then [.cls 1072,.dE [2,4,7,9,10,41,42,43,53,54,77,78,79] [32,64,112,144,784,1072,1648]]else if id=18 then [.opn 1072 11 7]else if id=20 then [.dE [2,4,7,9,41,42,43,53,54] [32,64,112,144,784,1072,1648]]else if id=21 then [.dE [2,4,7,9,41,42,43] [32,64,112,144,784,1648]]else if id=23 then [.frz (.cell 112 0),.dE [2,4,7] [32,64,112]]else [])else [])else [])))else(if f<45 then(if f=43 then(if g=0 then(if id=3 then [.dE [1,2,18,19] [16,32,96,144,192]]else if id=7 then [.dE [1,2] [16,32,96,144,192]]else [])else [])else [])else(if f<46 then(if f=45 then(if g=0 then(if id=2 then [.dE [1,6,7,8] [16]]else if id=7 then [.dE [1] [16]]else [])else [])else [])else(if f=46 then(if g=0 then(if id=5 then [.give 624,.ownn (.reg 6) 624 42 70,.dE [0,5,6,15,16,17] [192,624]]else if id=8 then [.give 624,.ownn (.reg 6) 624 42 70,.dE [0,5,6,8,15,16,17] [128,192,624]]else if id=9 then [.lend 624 none 784]else if id=11 then [.give 624,.dE [6] [624]]else if id=12 then [.give 624,.dE [6,55,56,57] [624]]else if id=13 then [.lend 624 (some 57) 960]else if id=16 then [.give 624,.frzn (.reg 6),.dE [6] []]else [])else [])else []))))))else(if f<98 then(if f<66 then(if f<57 then(if f<52 then(if f=51 then(if g=0 then(if id=8 then [.own 9 656 70,.own 10 720 180,.dE [3,4,9,10,24,25,26] [48,64,384,656,720]]else if id=14 then [.dE [9,10] [656,720]]else [])else [])else [])else(if f=52 then(if g=0 then(if id=8 then [.own 8 2432 132,.own 9 2576 3,.dE [1,2,8,9,10,11] [32,176,560,561,2432,2576]]else if id=13 then [.own 13 1120 180,.dE [1,2,8,9,10,11,12,13,55,56,57] [32,176,560,561,1120,2432,2576]]else if id=17 then [.frz (.reg 13),.dE [1,2,8,9,10,11,12,13] [32,176,560,561,2432,2576]]else if id=25 then [.own 19 1840 3,.dE [1,2,8,9,10,11,12,16,18,19,98,99,100] [32,176,256,560,561,1840,2432,2576]]else if id=30 then [.dE [1,2,8,9,10,11,12,16,19] [32,176,256,560,561,1840,2432,2576]]else if id=33 then [.ownp (.cell 352 0) 2288 3,.dE [1,2,8,9,10,11,22,127,128,129] [32,176,352,560,561,1840,2288,2432,2576]]else if id=38 then [.dE [1,2,8,9,10,11,22] [32,176,352,560,561,2288,2432,2576]]else if id=40 then [.dE [1,2,8,9,10,11,12] [32,176,560,561,2432,2576]]else if id=42 then [.dE [8,9] [2432,2576]]else [])else [])else []))else(if f<61 then(if f=57 then(if g=0 then(if id=4 then [.dE [2,3,5] [32,48]]else if id=5 then [.dE [2,3,5] [32,48]]else if id=10 then [.dE [2,3,5,6,7,8] [32,48,96,112]]else if id=14 then [.dE [] []]else [])else [])else [])else(if f<64 then(if f=61 then(if g=0 then(if id=3 then [.own 5 304 70,.dE [1,5,9,10,11] [304]]else if id=7 then [.dE [5] [304]]else [])else [])else [])else(if f=64 then(if g=0 then(if id=5 then [.dE [41,42] []]else [])else [])else []))))else(if f<94 then(if f<79 then(if f=66 then(if g=1 then(if id=4 then [.ownp (.cell 48 1) 432 3,.ownp (.cell 48 2) 512 3,.dE [0,2,3,4,5,6] [0,32,48,432,512]]else if id=9 then [.dE [2,3] [0,32,48,432,512]]else [])else [])else [])else(if f<84 then(if f=79 then(if g=0 then(if id=2 then [.dE [0,1,7,8] []]else if id=7 then [.dE [] []]else [])else [])else [])else(if f=84 then(if g=0 then(if id=2 then [.dE [0,5,6,7] []]else if id=7 then [.dE [0] []]else [])else [])else [])))else(if f<96 then(if f=94 then(if g=0 then(if id=2 then [.dE [0,1,7,8] []]else if id=7 then [.dE [] []]else [])else if g=5 then(if id=2 then [.dE [0,1,7,8] [0,1,2,3,4]]else if id=7 then [.dE [] [0,1,2,3,4]]else [])else [])else [])else(if f<97 then(if f=96 then(if g=0 then(if id=6 then [.dE [2,52,53,54] [32]]else if id=12 then [.dE [] []]else [])else [])else [])else(if f=97 then(if g=0 then(if id=3 then [.dE [1,3,9,10] [16,112]]else if id=7 then [.dE [1,3] [16,112]]else [])else [])else [])))))else(if f<108 then(if f<101 then(if f<100 then(if f=98 then(if g=0 then(if id=3 then [.dE [0,2,3,13,14] [32,48,112,160]]else if id=7 then [.dE [2,3] [32,48,112,160]]else [])else [])else [])else(if f=100 then(if g=2 then(if id=4 then [.own 9 928 3,.dE [2,3,4,5,9,10,11] [0,1,64,80,928]]else if id=7 then [.dE [9] [0,1,928]]else [])else [])else []))else(if f<103 then(if f=101 then(if g=0 then(if id=7 then [.dE [4,8,37,38,39] [64,128]]else if id=13 then [.dE [4,8] [64,128]]else [])else [])else [])else(if f<106 then(if f=103 then(if g=0 then(if id=8 then [.dE [2,10,33,34,35] [512]]else if id=12 then [.dE [10] [512]]else [])else [])else [])else(if f=106 then(if g=0 then(if id=7 then [.ownp (.cell 128 0) 704 70,.ownp (.cell 128 1) 784 180,.ownp (.cell 128 2) 864 90,.dE [3,4,6,8,25,26,27] [48,64,96,128,400,704,784,864]]else if id=13 then [.dE [6,8] [96,128,704,784,864]]else [])else [])else []))))else(if f<115 then(if f<110 then(if f=108 then(if g=0 then(if id=3 then [.own 7 816 118,.dE [3,4,5,7,13,14,15] [48,64,80,816]]else if id=9 then [.dE [7] [816]]else [])else [])else [])else(if f<111 then(if f=110 then(if g=0 then(if id=5 then [.dE [0,1,4,5,6] [64,80]]else if id=9 then [.dE [4,5] [64,80]]else [])else [])else [])else(if f=111 then(if g=1 then(if id=2 then [.dE [0,1,2,3,4,10,11] [0]]else [])else [])else [])))else(if f<122 then(if f=115 then(if g=0 then(if id=3 then [.dE [3,6,7,8] []]else if id=8 then [.dE [3] []]else [])else [])else [])else(if f<126 then(if f=122 then(if g=0 then(if id=2 then [.dE [0,1,2,9,10] []]else if id=7 then [.dE [0,1,2] []]else [])else [])else [])else(if f=126 then(if g=1 then(if id=2 then [.bumpp (.reg 0),.dE [0] [0]]else if id=4 then [.dE [0,3] [0]]else if id=9 then [.dE [0,3,4,5] [0]]else if id=14 then [.dE [0,3] [0]]else if id=16 then [.bumpp (.reg 0),.dE [0] [0]]else [])else [])else [])))))))else(if f<222 then(if f<166 then(if f<137 then(if f<131 then(if f<130 then(if f=127 then(if g=1 then(if id=2 then [.dE [0,1,2,6,7,8] [0]]else if id=6 then [.dE [0,1,2,6,7] [0]]else if id=7 then [.dE [0,1,2,6] [0]]else if id=9 then [.dE [0,1,2,6,7,8] [0]]else if id=13 then [.dE [0,1,2,6,7] [0]]else [])else [])else [])else(if f=130 then(if g=0 then(if id=2 then [.dE [3,4,9,10,11] [48,64]]else if id=7 then [.dE [4] [64]]else [])else [])else []))else(if f<132 then(if f=131 then(if g=0 then(if id=2 then [.dE [1,4,9,10,11] [64]]else if id=7 then [.dE [4] [64]]else [])else [])else [])else(if f<134 then(if f=132 then(if g=0 then(if id=4 then [.dE [1,2,15,16,17] []]else if id=10 then [.dE [] []]else [])else [])else [])else(if f=134 then(if g=0 then(if id=4 then [.dE [0,1,12,13] []]else if id=9 then [.dE [] []]else [])else [])else []))))else(if f<153 then(if f<143 then(if f=137 then(if g=0 then(if id=6 then [.dE [1,4,5,33,34] [16]]else if id=12 then [.dE [] []]else [])else [])else [])else(if f<144 then(if f=143 then(if g=0 then(if id=10 then [.dE [1,7] [304,368]]else if id=14 then [.frz (.cell 304 11),.dE [7] [304]]else [])else [])else [])else(if f=144 then(if g=0 then(if id=5 then [.dE [4,5,6,7,8,31] [64,80,96,112,128]]else [])else [])else [])))else(if f<156 then(if f=153 then(if g=0 then(if id=3 then [.own 5 304 3,.dE [1,5,8,9,10] [304]]else if id=7 then [.dE [5] [304]]else [])else [])else [])else(if f<165 then(if f=156 then(if g=1 then(if id=1 then [.dE [0,1,2,3,8] [0]]else if id=2 then [.dE [0,1,2,3,8] [0]]else if id=4 then [.dE [0,1,2,3,8,9] [0]]else [])else [])else [])else(if f=165 then(if g=0 then(if id=4 then [.dE [0,2] []]else if id=7 then [.dE [0,2] []]else [])else [])else [])))))else(if f<192 then(if f<176 then(if f<167 then(if f=166 then(if g=0 then(if id=4 then [.dE [2,3,5] [32,48]]else if id=8 then [.dE [] []]else [])else [])else [])else(if f=167 then(if g=0 then(if id=4 then [.dE [0,1,5] []]else if id=8 then [.dE [] []]else [])else [])else []))else(if f<185 then(if f=176 then(if g=1 then(if id=1 then [.dE [0,1,2,3,8] [0]]else if id=2 then [.dE [0,1,2,3,8] [0]]else if id=4 then [.dE [0,1,2,3,8,9] [0]]else [])else [])else [])else(if f<190 then(if f=185 then(if g=0 then(if id=3 then [.dE [1,2,10,11,12] [16,32,112]]else if id=7 then [.dE [1,2] [16,32,112]]else [])else [])else [])else(if f=190 then(if g=2 then(if id=2 then [.dE [0,1,2,6,7,8] [0,1]]else if id=6 then [.dE [0,1,2,6,7] [0,1]]else if id=7 then [.dE [0,1,2,6] [0,1]]else if id=9 then [.dE [0,1,2,6,7,8] [0,1]]else if id=13 then [.dE [0,1,2,6,7] [0,1]]else [])else [])else []))))else(if f<198 then(if f<193 then(if f=192 then(if g=0 then(if id=14 then [.dE [1,38,39,40] [16]]else if id=20 then [.dE [] []]else [])else [])else [])else(if f<195 then(if f=193 then(if g=1 then(if id=5 then [.ownp (.cell 0 11) 80176 249,.mv (.cell 0 11) 90081,.dE [6] [0,90081]]else [])else if g=2 then(if id=5 then [.ownp (.cell 0 11) 80176 249,.bumpp (.cell 0 11),.dE [6] [0,1]]else [])else [])else [])else(if f=195 then(if g=2 then(if id=2 then [.bumpp (.cell 0 11),.dE [] [0,1]]else [])else [])else [])))else(if f<213 then(if f=198 then(if g=0 then(if id=3 then [.dE [2,3,6,16,17,18] [32,48,224]]else if id=10 then [.dE [6] [224]]else [])else [])else [])else(if f<216 then(if f=213 then(if g=0 then(if id=5 then [.dE [2,7,8,9,28,29] [128,144]]else [])else [])else [])else(if f=216 then(if g=0 then(if id=2 then [.dE [0,1,7,8] []]else if id=7 then [.dE [] []]else [])else [])else []))))))else(if f<272 then(if f<240 then(if f<232 then(if f<229 then(if f=222 then(if g=0 then(if id=4 then [.dE [2,3,5] [32,48]]else if id=8 then [.dE [] []]else [])else [])else [])else(if f=229 then(if g=0 then(if id=1 then [.dE [0,1] []]else if id=3 then [.dE [0] []]else [])else [])else []))else(if f<233 then(if f=232 then(if g=0 then(if id=6 then [.fixv 16,.dE [1,3] []]else [])else [])else [])else(if f<238 then(if f=233 then(if g=0 then(if id=3 then [.dE [3,6,7,8] []]else if id=10 then [.dE [3] []]else [])else [])else [])else(if f=238 then(if g=0 then(if id=3 then [.dE [1,2,13,14] [16,32,112]]else if id=7 then [.dE [1,2] [16,32,112]]else [])else [])else []))))else(if f<258 then(if f<251 then(if f=240 then(if g=2 then(if id=1 then [.dE [0,1,2,3,8] [0,1]]else if id=2 then [.dE [0,1,2,3,8] [0,1]]else if id=4 then [.dE [0,1,2,3,8,9] [0,1]]else [])else [])else [])else(if f<256 then(if f=251 then(if g=0 then(if id=7 then [.dE [1,2,6,8,31,32,33] [96,128]]else if id=17 then [.dE [6,8] [96,128]]else [])else [])else [])else(if f=256 then(if g=2 then(if id=2 then [.dE [1,5,6] [0,1]]else if id=7 then [.dE [5] [0,1]]else [])else [])else [])))else(if f<265 then(if f=258 then(if g=0 then(if id=5 then [.dE [0,3,4] []]else if id=10 then [.dE [3] []]else [])else [])else [])else(if f<268 then(if f=265 then(if g=0 then(if id=2 then [.dE [0,1,7,8] []]else if id=7 then [.dE [] []]else [])else [])else [])else(if f=268 then(if g=0 then(if id=3 then [.dE [3,6,7,8] []]else if id=7 then [.dE [3] []]else [])else [])else [])))))else(if f<294 then(if f<275 then(if f<273 then(if f=272 then(if g=0 then(if id=3 then [.dE [1,2,6,18,19,20] [32,272]]else if id=7 then [.dE [1,2,6] [32,272]]else if id=11 then [.dE [1,2,9,10,45,46,47] [32,272]]else if id=17 then [.dE [9,10] []]else [])else [])else [])else(if f<274 then(if f=273 then(if g=2 then(if id=0 then [.dE [0,1] [0,1]]else [])else [])else [])else(if f=274 then(if g=2 then(if id=2 then [.dE [0,1,2,7] [0,1]]else if id=8 then [.dE [0,1,2,7,9] [0,1]]else if id=11 then [.dE [1,7] [0,1]]else [])else [])else [])))else(if f<283 then(if f=275 then(if g=0 then(if id=5 then [.dE [2,3,4,16] [32,48,64]]else [])else [])else [])else(if f<289 then(if f=283 then(if g=0 then(if id=9 then [.dE [0,1,5,6] []]else [])else [])else [])else(if f=289 then(if g=0 then(if id=3 then [.dE [1,2,3,7,11,12,13] [48]]else if id=8 then [.dE [7] []]else [])else [])else []))))else(if f<300 then(if f<297 then(if f=294 then(if g=0 then(if id=3 then [.dE [1,5,16,17,18] [240]]else if id=7 then [.dE [1,5,6,7,8,16,17,18,25,26] [240]]else if id=14 then [.dE [1,5,16,17,18] [240]]else if id=15 then [.dE [5] [240]]else [])else [])else [])else(if f<298 then(if f=297 then(if g=0 then(if id=2 then [.dE [0,1,7,8] []]else if id=7 then [.dE [] []]else [])else [])else [])else(if f=298 then(if g=0 then(if id=4 then [.own 4 240 3,.dE [0,4] [240]]else if id=7 then [.dE [4] [240]]else [])else [])else [])))else(if f<301 then(if f=300 then(if g=0 then(if id=6 then [.own 6 560 3,.dE [0,1,6,7,18,19] [560]]else if id=12 then [.dE [6] [560]]else [])else [])else [])else(if f<303 then(if f=301 then(if g=0 then(if id=1 then [.dE [0] []]else if id=3 then [.dE [0] []]else [])else [])else [])else(if f=303 then(if g=0 then(if id=2 then [.dE [0,1,7,8] []]else if id=7 then [.dE [] []]else [])else [])else [])))))))
instance :EN ai ai.pd:=⟨⟩
instance :EN ag ag.pd:=⟨⟩
instance :EN al al.pd:=⟨⟩
instance :EN bg bg.pd:=⟨⟩
instance :EN bi bi.pd:=⟨⟩
instance :EN bS bS.pd:=⟨⟩
instance :EN ah ah.pd:=⟨⟩
instance :EN bn bn.pd:=⟨⟩
instance :EN cG cG.pd:=⟨⟩
instance :EN bR bR.pd:=⟨⟩
instance :EN bh bh.pd:=⟨⟩
instance :EN bv bv.pd:=⟨⟩
instance :EN az az.pd:=⟨⟩
instance :EN aj aj.pd:=⟨⟩
instance :EN ae ae.pd:=⟨⟩
instance :EN aa aa.pd:=⟨⟩
instance :EN ap ap.pd:=⟨⟩
instance :EN bp bp.pd:=⟨⟩
instance :EN bJ bJ.pd:=⟨⟩
instance :EN aq aq.pd:=⟨⟩
instance :EN bq bq.pd:=⟨⟩
instance :EN av av.pd:=⟨⟩
instance :EN aw aw.pd:=⟨⟩
instance :EN bz bz.pd:=⟨⟩
instance :EN bC bC.pd:=⟨⟩
instance :EN cz cz.pd:=⟨⟩
instance :EN ak ak.pd:=⟨⟩
instance :EN ar ar.pd:=⟨⟩
instance :EN cr cr.pd:=⟨⟩
instance :EN bF bF.pd:=⟨⟩
instance :EN bD bD.pd:=⟨⟩
instance :EN eE eE.pd:=⟨⟩
instance :EN A4_Int A4_Int.pd:=⟨⟩
instance :EN o0 o0.pd:=⟨⟩
instance :EN qq qq.pd:=⟨⟩
def bo:Hints:={ at_:=hintAt,mt:=fun f i=>(f==8&&i==28)||(f==12&&i==16)||(f==39&&i==17)||(f==46&&i==38)||(f==126&&i==59)||(f==327&&i==19),by_:=fun f i=>(f==55&&i==0)||(f==87&&i==0)||(f==90&&i==0)||(f==100&&i==0)||(f==104&&i==0)||(f==105&&i==0)||(f==111&&i==0)||(f==126&&i==0)||(f==127&&i==0)||(f==140&&i==0)||(f==156&&i==0)||(f==176&&i==0)||(f==190&&i==0)||(f==240&&i==0)||(f==326&&i==0),own:=fun f i=>(f==39&&i==0)||(f==66&&i==0)||(f==70&&i==0)||(f==71&&i==0)||(f==72&&i==0)||(f==73&&i==0)||(f==80&&i==0)||(f==86&&i==0)||(f==98&&i==0)||(f==126&&i==0)||(f==185&&i==0) }
@[reducible] def gI(g f id:Nat)(R:List (Nat×RV))(B:List (Nat×Box))(k:List (Nat×RV))(j:List (Nat×Box)):Prop:=rJ prog g (A k j) (bo.at_ f g id)=some (A R B)
@[reducible] def gX(x k f id:Nat)(R:List (Nat×RV))(B:List (Nat×Box))(e:Ex)(j:List (Nat×RV))(g:List (Nat×Box)):Prop:=e= .exit x∧gI k f id R B j g
@[reducible] def gF(f:Nat)(fn:Func)(k:Nat)(x:RV×List Box)(e:Ex)(j:List (Nat×RV))(g:List (Nat×Box)):Prop:=e= .ret∧finish prog (bo.own f) fn k (A j g)=some x
theorem eqE_70(a b:aa):xV prog .eql 70 (.d a.pd) (.d b.pd)=some (.bool (((a.a7.bI==b.a7.bI)&&((a.a7.bw==b.a7.bw)&&((a.a7.bc==b.a7.bc)&&((a.a7.bL==b.a7.bL)&&true))))&&((a.bT==b.bT)&&((a.bu==b.bu)&&((a.co==b.co)&&((a.bH==b.bH)&&((a.bN==b.bN)&&true)))))),true):=by kernel_rfl
theorem eqN_70(a b:aa):xV prog .neq 70 (.d a.pd) (.d b.pd)=some (.bool (!(((a.a7.bI==b.a7.bI)&&((a.a7.bw==b.a7.bw)&&((a.a7.bc==b.a7.bc)&&((a.a7.bL==b.a7.bL)&&true))))&&((a.bT==b.bT)&&((a.bu==b.bu)&&((a.co==b.co)&&((a.bH==b.bH)&&((a.bN==b.bN)&&true))))))),true):=by kernel_rfl
theorem mr(a b:bR):xV prog .eql 147 (.d a.pd) (.d b.pd)=some (.bool ((a.a0==b.a0)&&((a.a1==b.a1)&&((a.a2==b.a2)&&true))),true):=by kernel_rfl
theorem keyT_70 : KeyT prog 70 aa.pd oS := ⟨fun a b => by kernel_rfl, fun a => by kernel_rfl, fun a b h => by
  simp only [oS,Bool.and_eq_true,beq_iff_eq]at h
  simp [aa.pd,xx,wQ,wP,h]⟩
theorem pQ:∀x y:aa,x.pd=y.pd->x=y:=by
  rintro⟨⟨C,z2,z3,z4⟩,z5,D,E,F,z9⟩ ⟨⟨f,g,z12,j⟩,k,q,r,z17,u⟩ h
  cases h;rfl
def ext0:FuncId->Option rO:=fun _=>none
theorem ny{a0:(List UInt8)}{r:Bool}(h:iR a0=some r):EvP prog bo ext0 175 [rS a0] [] (rB r,[]):=by
 refine Ev.body Z Tryz.func175 Z Zk<|gU Z<|sU<|sN<|gU Z<|mM Z<|sV (rB (!(a0==a0)))<|sA Z<|sN<|qR ?_
 exact oI h▸qD
theorem f8{a0:(List UInt8)}{a1:(List UInt8)}{r:Int}(h:dH a0 a1=some r):EvP prog bo ext0 125 [rS a0,rS a1] [] (rI r,[]):=by
 refine Ev.body Z Tryz.func125 Z Zk<|gU Z<|sV (r0)<|sN<|gU Z<|sM Z<|bE h fun g h1 h=>cD (ny h1)<|sA Z<|sN<|gU Z<|sM Z<|bE h fun j f h=>cD (ny f)<|sA Z ?_
 refine sN<|qS<|gU Z<|sF h ?_ ?_<;>intro h
 ·refine sN<|cT<|qS<|gU Z<|sF h ?_ ?_<;>intro h
  ·refine sN<|cT<|gU Z<|sV (r0)<|sN<|qR ?_
   exact oI h▸qD
  refine sN<|cF<|qK<|gU Z<|sV (rI (-1))<|sN<|qR ?_
  exact oI h▸qD
 refine sN<|cF<|qK<|qS<|gU Z<|sF h ?_ ?_<;>intro h
 ·refine sN<|cT<|gU Z<|sV (rI 1)<|sN<|qR ?_
  exact oI h▸qD
 refine sN<|cF<|qK<|qS<|gU Z<|mM Z<|sF h ?_ ?_<;>intro h
 ·refine sN<|cT<|gU Z<|sV (rI (-1))<|sN<|qR ?_
  exact oI h▸qD
 refine sN<|cF<|qK<|qS<|gU Z<|mM Z<|sF h ?_ ?_<;>intro h
 ·refine sN<|cT<|gU Z<|sV (rI 1)<|sN<|qR ?_
  exact oI h▸qD
 refine sN<|cF<|qK<|gU Z<|sV (r0)<|sN<|qR ?_
 exact oI h▸qD
theorem pR{a0:(List Int)}{r:Int}(h:dI a0=some r):EvP prog bo ext0 115 [rL a0] [] (rI r,[]):=by
 refine Ev.body Z Tryz.func115 Z Zk<|gU Z<|sV (r0)<|sN<|gU Z<|sV (r0)<|sN<|qS<|gU Z<|sM Z<|sE (rI (a0.length:Int)) (sx _ _)<|sV (r0)<|sN<|bE h fun C g h=>Fq (Fs (WL.rU g (fun s=>gI 0 115 3 [(3,r0),(6,rL a0),(7,rI (a0.length:Int)),(8,rI s)] []) (fun o=>match o with| .inl y=>gX 0 0 115 8 [(3,r0)] []| .inr r=>gF 115 Tryz.f115 0 (rI r,[])) Z ?_ ?_))
 ·rintro s1 q k D f h
  refine gS Z f<|sF h ?_ ?_<;>intro h
  ·refine sN<|qS<|cT<|qK<|qS<|qB<|gU Z<|bE h fun F u h=>eG u Z<|sC Z<|sA Z<|sN<|gU Z<|sM Z<|sM Z ?_
   refine sF h ?_ ?_<;>intro h
   ·refine sN<|cT<|gU Z<|sM Z<|sA Z<|sN<|qR ?_
    cases oI h
    exact⟨nofun,rfl,rfl⟩
   refine sN<|cF<|qK<|Fu Z Z<|sV (rI (rW (s1+(1:Int))))<|sM Z<|sN ?_
   cases oI h
   exact⟨rfl,rfl⟩
  refine sN<|qS<|cF<|qX ?_
  cases oI h
  exact⟨nofun,rfl,rfl⟩
 intro e q k he j
 rcases C with G|E
 ·obtain⟨rfl,f⟩:=j
  refine qE<|gS Z f<|sM Z<|sA Z<|sN<|qR ?_
  exact oI h▸qD
 obtain⟨rfl,hf⟩:=j
 cases oI h
 exact hf
theorem rb{a0:bn}{a1:bn}{r:Int}(h:jj a0 a1=some r):EvP prog bo ext0 85 [.d (bn.pd a0),.d (bn.pd a1)] [] (rI r,[]):=by
 refine Ev.body Z Tryz.func85 Z Zk<|gU Z<|sB (.ptr 32 0) 32 (.var (bn.rc a0))<|sB (.ptr 48 0) 48 (.var (bn.rc a1))<|sV (r0)<|sN<|Ft Z Z<|sV (.ptr 32 0)<|sL Z<|sV (.ptr 48 0)<|sL Z<|bE h fun q h1 h=>cD (f8 h1)<|sV (.ptr 32 1)<|sL Z ?_
 refine sV (.ptr 48 1)<|sL Z<|bE h fun u f h=>cD (f8 f)<|sV (.ptr 32 2)<|sL Z<|sV (.ptr 48 2)<|sL Z<|bE h fun C g h=>cD (f8 g)<|sV (.ptr 32 3)<|sL Z<|sV (.ptr 48 3)<|sL Z<|bE h fun D j h=>?_
 refine cD (f8 j)<|sV (.d (.lst ([q,u,C,D].map (PD.int .i64))))<|bE h fun E k h=>cD (pR k)<|sA Z ?_
 refine sN<|sO<|qR ?_
 exact oI h▸qD
theorem oB{a0:Int}{r:Bool}(h:lF a0=some r):EvP prog bo ext0 128 [rI a0] [] (rB r,[]):=by
 refine Ev.body Z Tryz.func128 Z Zk<|gU Z<|sU<|sN<|gU Z<|mM Z<|sV (rB (a0 != a0))<|sA Z<|sN<|qR ?_
 exact oI h▸qD
theorem fW{a0:Int}{a1:Int}{r:Int}(h:cj a0 a1=some r):EvP prog bo ext0 89 [rI a0,rI a1] [] (rI r,[]):=by
 refine Ev.body Z Tryz.func89 Z Zk<|gU Z<|sV (r0)<|sN<|gU Z<|sM Z<|bE h fun g h1 h=>cD (oB h1)<|sA Z<|sN<|gU Z<|sM Z<|bE h fun j f h=>cD (oB f)<|sA Z ?_
 refine sN<|qS<|gU Z<|sF h ?_ ?_<;>intro h
 ·refine sN<|cT<|qS<|gU Z<|sF h ?_ ?_<;>intro h
  ·refine sN<|cT<|gU Z<|sV (r0)<|sN<|qR ?_
   exact oI h▸qD
  refine sN<|cF<|qK<|gU Z<|sV (rI (-1))<|sN<|qR ?_
  exact oI h▸qD
 refine sN<|cF<|qK<|qS<|gU Z<|sF h ?_ ?_<;>intro h
 ·refine sN<|cT<|gU Z<|sV (rI 1)<|sN<|qR ?_
  exact oI h▸qD
 refine sN<|cF<|qK<|qS<|gU Z<|mM Z<|sF h ?_ ?_<;>intro h
 ·refine sN<|cT<|gU Z<|sV (rI (-1))<|sN<|qR ?_
  exact oI h▸qD
 refine sN<|cF<|qK<|qS<|gU Z<|mM Z<|sF h ?_ ?_<;>intro h
 ·refine sN<|cT<|gU Z<|sV (rI 1)<|sN<|qR ?_
  exact oI h▸qD
 refine sN<|cF<|qK<|gU Z<|sV (r0)<|sN<|qR ?_
 exact oI h▸qD
theorem qV{a0:aa}{a1:aa}{r:Int}(h:cS a0 a1=some r):EvP prog bo ext0 91 [.d (aa.pd a0),.d (aa.pd a1)] [] (rI r,[]):=by
 refine Ev.body Z Tryz.func91 Z Zk<|gU Z<|sB (.ptr 32 0) 32 (.var (aa.rc a0))<|sB (.ptr 48 0) 48 (.var (aa.rc a1))<|sV (r0)<|sN<|Ft Z Z<|sV (.ptr 32 0)<|sV (.d (bn.pd a0.a7))<|sV (.ptr 48 0)<|sV (.d (bn.pd a1.a7))<|bE h fun C h1 h=>cD (rb h1)<|sV (.ptr 32 4)<|sL Z ?_
 refine sV (.ptr 48 4)<|sL Z<|bE h fun D f h=>cD (fW f)<|sV (.ptr 32 5)<|sL Z<|sV (.ptr 48 5)<|sL Z<|bE h fun E g h=>cD (fW g)<|sV (.ptr 32 6)<|sL Z<|sV (.ptr 48 6)<|sL Z<|bE h fun F j h=>?_
 refine cD (fW j)<|sV (.ptr 32 7)<|sL Z<|sV (.ptr 48 7)<|sL Z<|bE h fun G k h=>cD (fW k)<|sV (.ptr 32 8)<|sL Z<|sV (.ptr 48 8)<|sL Z<|bE h fun H q h=>cD (fW q)<|sV (.d (.lst ([C,D,E,F,G,H].map (PD.int .i64))))<|bE h fun I u h=>?_
 refine cD (pR u)<|sA Z ?_
 refine sN<|sO<|qR ?_
 cases oI h
 exact qG
noncomputable def ext:FuncId->Option rO:=fun f=>if f=90 then some (Cp 91 70 aa.pd cS)else if f=73 then some (wB 70 9 104)else if f=70 then some (wB 3 1 8)else if f=71 then some (wB 90 8 80)else if f=72 then some (wB 149 10 96)else if f=80 then some (wB 122 25 248)else if f=105 then some (zk 3)else if f=41 then some (yR (fun l=>.lst (l.map aa.pd)) keyO)else none
theorem sort_90_91{l r:List aa}(h:w3 cS l=some r):EvP prog bo ext 90 [.ref 0 0,.d (.raw (.func (.func 91) #[] #[]))] [.arr 0 70 (l.map aa.pd)] (.tup [],[.arr 0 70 (r.map aa.pd)]):=sort_ev rfl (sortD_of pQ h)
instance {l:List aa}:CE prog bo ext (w3 cS l) 90 [.ref 0 0,.d (.raw (.func (.func 91) #[] #[]))] [.arr 0 70 (l.map aa.pd)] fun r=>(.tup [],[.arr 0 70 (r.map aa.pd)]):=⟨fun h=>sort_90_91 h⟩
theorem sortI_105{l r:List Int}(h:ud l=some r):EvP prog bo ext 105 [.ref 0 0] [.arr 0 3 (l.map (PD.int .i64))] (.tup [],[.arr 0 3 (r.map (PD.int .i64))]):=sortI_ev rfl h
instance {l:List Int}:CE prog bo ext (ud l) 105 [.ref 0 0] [.arr 0 3 (l.map (PD.int .i64))] fun r=>(.tup [],[.arr 0 3 (r.map (PD.int .i64))]):=⟨fun h=>sortI_105 h⟩
theorem clone_73{l r:List aa}(h:sg 104 l=some r):EvP prog bo ext 73 [rM aa.pd l] [] (.ref 0 0,[.arr 0 70 (r.map aa.pd)]):=xe (g:=aa.pd) rfl (fun _=>rfl) h
instance {l:List aa}:CE prog bo ext (sg 104 l) 73 [rM aa.pd l] [] fun r=>(.ref 0 0,[.arr 0 70 (r.map aa.pd)]):=⟨fun h=>clone_73 h⟩
theorem oR{l r:List Int}(h:sg 8 l=some r):EvP prog bo ext 70 [rL l] [] (.ref 0 0,[.arr 0 3 (r.map (PD.int .i64))]):=xe (g:=(PD.int .i64)) rfl (fun _=>rfl) h
instance {l:List Int}:CE prog bo ext (sg 8 l) 70 [rL l] [] fun r=>(.ref 0 0,[.arr 0 3 (r.map (PD.int .i64))]):=⟨fun h=>oR h⟩
theorem clone_71{l r:List az}(h:sg 80 l=some r):EvP prog bo ext 71 [rM az.pd l] [] (.ref 0 0,[.arr 0 90 (r.map az.pd)]):=xe (g:=az.pd) rfl (fun _=>rfl) h
instance {l:List az}:CE prog bo ext (sg 80 l) 71 [rM az.pd l] [] fun r=>(.ref 0 0,[.arr 0 90 (r.map az.pd)]):=⟨fun h=>clone_71 h⟩
theorem clone_72{l r:List bh}(h:sg 96 l=some r):EvP prog bo ext 72 [rM bh.pd l] [] (.ref 0 0,[.arr 0 149 (r.map bh.pd)]):=xe (g:=bh.pd) rfl (fun _=>rfl) h
instance {l:List bh}:CE prog bo ext (sg 96 l) 72 [rM bh.pd l] [] fun r=>(.ref 0 0,[.arr 0 149 (r.map bh.pd)]):=⟨fun h=>clone_72 h⟩
theorem clone_80{l r:List aq}(h:sg 248 l=some r):EvP prog bo ext 80 [rM aq.pd l] [] (.ref 0 0,[.arr 0 122 (r.map aq.pd)]):=xe (g:=aq.pd) rfl (fun _=>rfl) h
instance {l:List aq}:CE prog bo ext (sg 248 l) 80 [rM aq.pd l] [] fun r=>(.ref 0 0,[.arr 0 122 (r.map aq.pd)]):=⟨fun h=>clone_80 h⟩
section
attribute [local irreducible] HM HU HF HB WO WC QS QB tZ
instance {a0:(List Int)}:CE prog bo ext (kB a0) 6 [rL a0] [] fun r=>(.ptr 0 0,[.var (ai.rc r)]):=⟨fun h=>Ev.au h Tryz.func6⟩
instance {d0:ai}:CE prog bo ext (Src_Raw d0) 37 [.ptr 0 0] [.var (ai.rc d0)] fun r=>(rI r.1,[.var (ai.rc r.2)]):=⟨fun h=>Ev.au h Tryz.func37⟩
instance {a0:Int}{a1:Int}:CE prog bo ext (pX a0 a1) 36 [rI a0,rI a1] [] fun r=>(rI r,[]):=⟨fun h=>Ev.au h Tryz.func36⟩
instance {a1:Int}{d0:ai}:CE prog bo ext (du a1 d0) 11 [.ptr 0 0,rI a1] [.var (ai.rc d0)] fun r=>(rI r.1,[.var (ai.rc r.2)]):=⟨fun h=>Ev.au h Tryz.func11⟩
instance {a1:Int}{d0:ai}:CE prog bo ext (mW a1 d0) 31 [.ptr 0 0,rI a1] [.var (ai.rc d0)] fun r=>(.d (ag.pd r.1),[.var (ai.rc r.2)]):=⟨fun h=>Ev.au h Tryz.func31⟩
instance {a1:Int}{a2:Int}{d0:ai}:CE prog bo ext (pg a1 a2 d0) 65 [.ptr 0 0,rI a1,rI a2] [.var (ai.rc d0)] fun r=>(.d (al.pd r.1),[.var (ai.rc r.2)]):=⟨fun h=>Ev.au h Tryz.func65⟩
instance {a1:(List Int)}{d0:ai}:CE prog bo ext (ei a1 d0) 30 [.ptr 0 0,rL a1] [.var (ai.rc d0)] fun r=>(rI r.1,[.var (ai.rc r.2)]):=⟨fun h=>Ev.au h Tryz.func30⟩
instance {f:Int×ai}:LI (lD f) 4 (fun s=>[(4,rI s.1),(5,rI s.2.1),(6,rI s.2.2.1)]) (fun s=>[(0,.var [rL s.2.2.2.1,rI s.2.2.2.2.1]),(432,.arr 0 3 (s.2.2.2.2.2.1.map (PD.int .i64))),(512,.arr 0 3 (s.2.2.2.2.2.2.map (PD.int .i64)))]) (jX 9 (fun o=>[]) fun o=>[(0,.var [rL o.1,rI o.2.1]),(432,.arr 0 3 (o.2.2.1.map (PD.int .i64))),(512,.arr 0 3 (o.2.2.2.map (PD.int .i64)))]):=⟨⟩
instance {d0:ai}:CE prog bo ext (k8 d0) 66 [.ptr 0 0] [.var (ai.rc d0)] fun r=>(.agg [rI r.1.bQ,.ref 1 0,.ref 2 0],[.var (ai.rc r.2),.arr 0 3 (r.1.bt.map (PD.int .i64)),.arr 0 3 (r.1.bd.map (PD.int .i64))]):=⟨fun h=>Ev.au h Tryz.func66⟩
instance {a1:Int}{d0:ai}:CE prog bo ext (eZ a1 d0) 28 [.ptr 0 0,rI a1] [.var (ai.rc d0)] fun r=>(.d (bi.pd r.1),[.var (ai.rc r.2)]):=⟨fun h=>Ev.au h Tryz.func28⟩
instance {f:bg×ai}:LI (lB f) 3 (fun s=>[(17,rI s.1)]) (fun s=>[(96,.arr 0 3 (s.2.1.map (PD.int .i64))),(97,.arr 0 3 (s.2.2.map (PD.int .i64)))]) (jX 7 (fun o=>[]) fun o=>[(96,.arr 0 3 (o.1.map (PD.int .i64))),(97,.arr 0 3 (o.2.map (PD.int .i64)))]):=⟨⟩
instance {d0:ai}:CE prog bo ext (l7 d0) 29 [.ptr 0 0] [.var (ai.rc d0)] fun r=>(.d (bS.pd r.1),[.var (ai.rc r.2)]):=⟨fun h=>Ev.au h Tryz.func29⟩
instance {a1:Int}{d0:ai}:CE prog bo ext (dP a1 d0) 7 [.ptr 0 0,rI a1] [.var (ai.rc d0)] fun r=>(.d (ah.pd r.1),[.var (ai.rc r.2)]):=⟨fun h=>Ev.au h Tryz.func7⟩
instance :LI (k7) 3 (fun s=>[(4,rI s.1)]) (fun s=>[(0,.var [rL s.2.1,rI s.2.2.1]),(1040,.arr 0 149 (s.2.2.2.map bh.pd))]) (jX 13 (fun o=>[]) fun o=>[(0,.var [rL o.1,rI o.2.1]),(1040,.arr 0 149 (o.2.2.map bh.pd))]):=⟨⟩
instance {d0:ai}:CE prog bo ext (gZ d0) 32 [.ptr 0 0] [.var (ai.rc d0)] fun r=>(.d (bv.pd r.1),[.var (ai.rc r.2)]):=⟨fun h=>Ev.au h Tryz.func32⟩
instance {a0:Int}:CE prog bo ext (gj a0) 21 [rI a0] [] fun r=>(.d (bn.pd r),[]):=⟨fun h=>Ev.au h Tryz.func21⟩
instance {a1:Int}:LI (lC a1) 3 (fun s=>[(6,rI s.1)]) (fun s=>[(0,.var [rL s.2.1,rI s.2.2.1]),(1104,.arr 0 93 (s.2.2.2.map aj.pd))]) (jX 16 (fun o=>[]) fun o=>[(0,.var [rL o.1,rI o.2.1]),(1104,.arr 0 93 (o.2.2.map aj.pd))]):=⟨⟩
instance {a1:Int}{d0:ai}:CE prog bo ext (gP a1 d0) 8 [.ptr 0 0,rI a1] [.var (ai.rc d0)] fun r=>(.d (ae.pd r.1),[.var (ai.rc r.2)]):=⟨fun h=>Ev.au h Tryz.func8⟩
instance {a1:Int}{a2:Int}{d0:ai}:CE prog bo ext (nW a1 a2 d0) 67 [.ptr 0 0,rI a1,rI a2] [.var (ai.rc d0)] fun r=>(rI r.1,[.var (ai.rc r.2)]):=⟨fun h=>Ev.au h Tryz.func67⟩
instance {a1:al}{d0:ai}:CE prog bo ext (oQ a1 d0) 33 [.ptr 0 0,.d (al.pd a1)] [.var (ai.rc d0)] fun r=>(.d (ag.pd r.1),[.var (ai.rc r.2)]):=⟨fun h=>Ev.au h Tryz.func33⟩
instance {a0:ae}{a1:bn}{a2:Int}:LI (oe a0 a1 a2) 2 (fun s=>[(15,rI s)]) (fun s=>[]) (jY 11 (fun y=>[]) (fun y=>[]) Tryz.f34 fun r=>(.tup [.d (ag.pd r.1),rB r.2],[])):=⟨⟩
instance {f:aj}{a1:bn}{a2:Int}{s1:Int}:LI (od f a1 a2 s1) 5 (fun s=>[(22,rI s)]) (fun s=>[]) (jY 10 (fun y=>[(15,rI y)]) (fun y=>[]) Tryz.f34 fun r=>(.tup [.d (ag.pd r.1),rB r.2],[])):=⟨⟩
instance {a0:ae}{a1:bn}{a2:Int}:CE prog bo ext (px a0 a1 a2) 34 [.d (ae.pd a0),.d (bn.pd a1),rI a2] [] fun r=>(.tup [.d (ag.pd r.1),rB r.2],[]):=⟨fun h=>Ev.au h Tryz.func34⟩
instance {a0:Int}:CE prog bo ext (qu a0) 35 [rI a0] [] fun r=>(rI r,[]):=⟨fun h=>Ev.au h Tryz.func35⟩
instance {a1:ah}{a2:ae}:LI (oH a1 a2) 4 (fun s=>[(11,rI s.1),(12,rI s.2.1)]) (fun s=>[(0,.var [rL s.2.2.1,rI s.2.2.2.1]),(160,.var [rI s.2.2.2.2.2.1,rI s.2.2.2.2.2.2.1,rI s.2.2.2.2.2.2.2]),(2192,.arr 0 70 (s.2.2.2.2.1.map aa.pd))]) (jX 21 (fun o=>[]) fun o=>[(0,.var [rL o.2.1,rI o.2.2]),(2192,.arr 0 70 (o.1.map aa.pd))]):=⟨⟩
instance {j:ag×Bool}{u:Int}{f:Int}{g:Int}{k:Int}{q:Int}{r:(List aa)}:LI (ni j u f g k q r) 12 (fun s=>[(16,rI s)]) (fun s=>[]) (jX 14 (fun o=>[(11,rI o.1),(12,rI o.2.1),(16,rI o.2.2.1)]) fun o=>[(160,.var [rI o.2.2.2.2.1,rI o.2.2.2.2.2.1,rI o.2.2.2.2.2.2]),(2192,.arr 0 70 (o.2.2.2.1.map aa.pd))]):=⟨⟩
instance {a1:ah}{a2:ae}{a3:Int}{d0:ai}:CE prog bo ext (k6 a1 a2 a3 d0) 9 [.ptr 0 0,.d (ah.pd a1),.d (ae.pd a2),rI a3] [.var (ai.rc d0)] fun r=>(rM aa.pd r.1,[.var (ai.rc r.2)]):=⟨fun h=>Ev.au h Tryz.func9⟩
instance {a0:ag}:CE prog bo ext (b8 a0) 187 [.d (ag.pd a0)] [] fun r=>(.d (bR.pd r),[]):=⟨fun h=>Ev.au h Tryz.func187⟩
instance {a0:ag}:CE prog bo ext (ej a0) 186 [.d (ag.pd a0)] [] fun r=>(rB r,[]):=⟨fun h=>Ev.au h Tryz.func186⟩
instance {a0:al}:CE prog bo ext (cu a0) 136 [.d (al.pd a0)] [] fun r=>(rB r,[]):=⟨fun h=>Ev.au h Tryz.func136⟩
instance {a0:bg}:LI (lz a0) 6 (fun s=>[(4,rI s.1),(5,rI s.2.1),(34,rI s.2.2)]) (fun s=>[]) (jY 12 (fun y=>[]) (fun y=>[]) Tryz.f137 fun r=>(rI r,[])):=⟨⟩
instance {a0:bg}:CE prog bo ext (er a0) 137 [.d (bg.pd a0)] [] fun r=>(rI r,[]):=⟨fun h=>Ev.au h Tryz.func137⟩
instance {a0:Int}{a1:Int}{a2:Int}:CE prog bo ext (fr a0 a1 a2) 138 [rI a0,rI a1,rI a2] [] fun r=>(rB r,[]):=⟨fun h=>Ev.au h Tryz.func138⟩
instance {a0:aw}:CE prog bo ext (gq a0) 188 [.d (aw.pd a0)] [] fun r=>(rB r,[]):=⟨fun h=>Ev.au h Tryz.func188⟩
instance {a0:Int}{a1:Int}{a2:Int}:CE prog bo ext (gu a0 a1 a2) 214 [rI a0,rI a1,rI a2] [] fun r=>(rI r,[]):=⟨fun h=>Ev.au h Tryz.func214⟩
instance {a0:al}{a1:ag}:CE prog bo ext (jt a0 a1) 213 [.d (al.pd a0),.d (ag.pd a1),.d (.raw (.func (.func 214) #[] #[]))] [] fun r=>(rI r,[]):=⟨fun h=>Ev.au h Tryz.func213⟩
instance {a0:al}{a1:ag}:CE prog bo ext (gh a0 a1) 149 [.d (al.pd a0),.d (ag.pd a1)] [] fun r=>(rI r,[]):=⟨fun h=>Ev.au h Tryz.func149⟩
instance {a0:Int}{a1:Int}{a2:Int}:CE prog bo ext (fQ a0 a1 a2) 215 [rI a0,rI a1,rI a2] [] fun r=>(rI r,[]):=⟨fun h=>Ev.au h Tryz.func215⟩
instance {a0:al}{a1:ag}:CE prog bo ext (iT a0 a1) 213 [.d (al.pd a0),.d (ag.pd a1),.d (.raw (.func (.func 215) #[] #[]))] [] fun r=>(rI r,[]):=⟨fun h=>Ev.au h Tryz.func213⟩
instance {a0:al}{a1:ag}:CE prog bo ext (jr a0 a1) 150 [.d (al.pd a0),.d (ag.pd a1)] [] fun r=>(rI r,[]):=⟨fun h=>Ev.au h Tryz.func150⟩
instance {a0:bg}{a1:al}{a2:ag}:CE prog bo ext (nj a0 a1 a2) 239 [.d (bg.pd a0),.d (al.pd a1),.d (ag.pd a2)] [] fun r=>(.tup [.d (bg.pd r.1),rI r.2.1,rI r.2.2],[]):=⟨fun h=>Ev.au h Tryz.func239⟩
instance {a0:Int}:CE prog bo ext (n7 a0) 165 [.d (.int .u64 a0)] [] fun r=>(rI r,[]):=⟨fun h=>Ev.au h Tryz.func165⟩
instance {a0:Int}:CE prog bo ext (ia a0) 112 [.d (.int .u64 a0)] [] fun r=>(rI r,[]):=⟨fun h=>Ev.au h Tryz.func112⟩
instance {a0:Int}:LI (js a0) 5 (fun s=>[(3,rI s.1),(4,rI s.2)]) (fun s=>[]) (jX 10 (fun o=>[(3,rI o)]) fun o=>[]):=⟨⟩
instance {a0:Int}:CE prog bo ext (kA a0) 258 [rI a0] [] fun r=>(rI r,[]):=⟨fun h=>Ev.au h Tryz.func258⟩
instance {a0:Int}:CE prog bo ext (nk a0) 254 [rI a0] [] fun r=>(rI r,[]):=⟨fun h=>Ev.au h Tryz.func254⟩
instance {a0:bg}:CE prog bo ext (nU a0) 255 [.d (bg.pd a0)] [] fun r=>(rI r,[]):=⟨fun h=>Ev.au h Tryz.func255⟩
instance {a0:Int}{d0:bg}{d1:Int}:CE prog bo ext (iP a0 d0 d1) 257 [rI a0,.ptr 0 0,.ptr 1 0] [.var (bg.rc d0),.var [rI d1]] fun r=>(rB r,[.var (bg.rc d0),.var [rI d1]]):=⟨fun h=>Ev.au h Tryz.func257⟩
instance {d0:bg}{d1:Int}:LI (iN d0 d1) 2 (fun s=>[(5,rI s.1),(6,rI s.2)]) (fun s=>[]) (jX 7 (fun o=>[(5,rI o)]) fun o=>[]):=⟨⟩
instance {a0:Int}{d0:bg}{d1:Int}:CE prog bo ext (gy a0 d0 d1) 256 [rI a0,.clo 257 [.ptr 0 0,.ptr 1 0]] [.var (bg.rc d0),.var [rI d1]] fun r=>(rI r,[.var (bg.rc d0),.var [rI d1]]):=⟨fun h=>Ev.au h Tryz.func256⟩
instance {a0:bg}{a1:Int}{a2:Int}:CE prog bo ext (dp a0 a1 a2) 209 [.d (bg.pd a0),rI a1,rI a2] [] fun r=>(.tup [rI r.1,rI r.2.1,rI r.2.2],[]):=⟨fun h=>Ev.au h Tryz.func209⟩
instance {a0:bg}{a1:al}{a2:ag}:CE prog bo ext (mo a0 a1 a2) 189 [.d (bg.pd a0),.d (al.pd a1),.d (ag.pd a2)] [] fun r=>(.tup [rI r.1,rI r.2.1,rI r.2.2],[]):=⟨fun h=>Ev.au h Tryz.func189⟩
instance {a0:bg}{a1:al}{a2:aw}:CE prog bo ext (eI a0 a1 a2) 139 [.d (bg.pd a0),.d (al.pd a1),.d (aw.pd a2)] [] fun r=>(.tup [.d (bz.pd r.1),rI r.2],[]):=⟨fun h=>Ev.au h Tryz.func139⟩
instance {a1:(List aw)}{a0:bi}:LI (dt a1 a0) 6 (fun s=>[(54,rI s)]) (fun s=>[]) (jY 12 (fun y=>[]) (fun y=>[]) Tryz.f96 fun r=>(rI r,[])):=⟨⟩
instance {a0:bi}{a1:(List aw)}:CE prog bo ext (et a0 a1) 96 [.d (bi.pd a0),rM aw.pd a1] [] fun r=>(rI r,[]):=⟨fun h=>Ev.au h Tryz.func96⟩
instance {a0:bS}:CE prog bo ext (dK a0) 117 [.d (bS.pd a0)] [] fun r=>(rB r,[]):=⟨fun h=>Ev.au h Tryz.func117⟩
instance {a0:ah}:CE prog bo ext (eM a0) 68 [.d (ah.pd a0)] [] fun r=>(rI r,[]):=⟨fun h=>Ev.au h Tryz.func68⟩
instance {a0:Int}:CE prog bo ext (nT a0) 172 [.d (.int .u8 a0)] [] fun r=>(rB r,[]):=⟨fun h=>Ev.au h Tryz.func172⟩
instance {a0:(List UInt8)}:LI (kZ a0) 2 (fun s=>[(10,rI s)]) (fun s=>[]) (jY 7 (fun y=>[]) (fun y=>[]) Tryz.f122 fun r=>(rB r,[])):=⟨⟩
instance {a0:(List UInt8)}{a1:Int}{a2:Int}:CE prog bo ext (kY a0 a1 a2) 122 [rS a0,rI a1,rI a2] [] fun r=>(rB r,[]):=⟨fun h=>Ev.au h Tryz.func122⟩
instance {a0:bn}:CE prog bo ext (mQ a0) 83 [.d (bn.pd a0)] [] fun r=>(rB r,[]):=⟨fun h=>Ev.au h Tryz.func83⟩
instance {a0:Int}{a1:Int}{a2:Int}:CE prog bo ext (rate_in a0 a1 a2) 228 [rI a0,rI a1,rI a2] [] fun r=>(rB r,[]):=⟨fun h=>Ev.au h Tryz.func228⟩
instance :LI (rate_gcd_l7) 1 (fun s=>[(0,rI s.1),(1,rI s.2)]) (fun s=>[]) (jX 3 (fun o=>[(0,rI o)]) fun o=>[]):=⟨⟩
instance {a0:Int}{a1:Int}:CE prog bo ext (rate_gcd a0 a1) 229 [rI a0,rI a1] [] fun r=>(rI r,[]):=⟨fun h=>Ev.au h Tryz.func229⟩
instance {a0:cG}:CE prog bo ext (pC a0) 173 [.d (cG.pd a0)] [] fun r=>(rB r,[]):=⟨fun h=>Ev.au h Tryz.func173⟩
instance {a0:Int}{a1:Int}{a2:Int}:CE prog bo ext (cU a0 a1 a2) 266 [rI a0,rI a1,rI a2] [] fun r=>(rB r,[]):=⟨fun h=>Ev.au h Tryz.func266⟩
instance {a0:Int}:CE prog bo ext (lw a0) 287 [rI a0] [] fun r=>(rB r,[]):=⟨fun h=>Ev.au h Tryz.func287⟩
instance {a0:(List Int)}:LI (ep a0) 2 (fun s=>[(8,rI s)]) (fun s=>[]) (jY 7 (fun y=>[]) (fun y=>[]) Tryz.f297 fun r=>(rI r,[])):=⟨⟩
instance {a0:(List Int)}:CE prog bo ext (gO a0) 297 [rL a0,.d (.raw (.func (.func 287) #[] #[]))] [] fun r=>(rI r,[]):=⟨fun h=>Ev.au h Tryz.func297⟩
instance {a0:(List Int)}:CE prog bo ext (fU a0) 286 [rL a0,.d (.raw (.func (.func 287) #[] #[]))] [] fun r=>(rB r,[]):=⟨fun h=>Ev.au h Tryz.func286⟩
instance {a0:(List Int)}:CE prog bo ext (dM a0) 267 [rL a0] [] fun r=>(rB r,[]):=⟨fun h=>Ev.au h Tryz.func267⟩
instance {a0:(List Int)}:LI (nH a0) 3 (fun s=>[(3,rI s.1),(8,rI s.2)]) (fun s=>[]) (jX 7 (fun o=>[(3,rI o)]) fun o=>[]):=⟨⟩
instance {a0:(List Int)}:CE prog bo ext (gc a0) 268 [rL a0] [] fun r=>(rI r,[]):=⟨fun h=>Ev.au h Tryz.func268⟩
end
theorem pH{a0:bh}{r:Bool}(h:d9 a0=some r):EvP prog bo ext 232 [.d (bh.pd a0)] [] (rB r,[]):=by
 refine Ev.body Z Tryz.func232 Z Zk<|gU Z<|sB (.ptr 16 0) 16 (.var (bh.rc a0))<|sU<|sN<|gU Z<|sV (.ptr 16 7)<|sL Z<|sE (rI (a0.eC.length:Int)) (sx _ _)<|sF h ?_ ?_<;>intro h
 ·refine sM Z<|sV (.ptr 16 8)<|sL Z<|sV (rB (a0.eJ==(0:Int)))<|sF h ?_ ?_<;>intro h
  ·refine sM Z<|sV (.ptr 16 9)<|sL Z<|sV (rB (a0.fc==(0:Int)))<|sV (rB (a0.fc==(0:Int)))<|sA Z<|sN<|qS<|gU Z<|sV (.ptr 16 0)<|sL Z<|sN<|qB<|gU Z<|sF h ?_ ?_<;>intro h
   ·refine sA Z<|sN<|cT<|gU Z<|sF h ?_ ?_<;>intro h
    ·refine sM Z<|sV (.ptr 16 1)<|sV (.d (bR.pd a0.cg))<|sV (.ptr 16 1)<|sV (.ptr 16 1)<|sL Z<|sV (.d (bR.pd (bR.mk a0.cg.a0 0 0)))<|WO.bin (mr a0.cg (bR.mk a0.cg.a0 0 0)) Z Z Z Z Z<|sF h ?_ ?_<;>intro h
     ·refine sM Z<|sV (.ptr 16 4)<|sV (.d (bR.pd a0.b9))<|sV (.ptr 16 4)<|sV (.ptr 16 4)<|sL Z<|sV (.d (bR.pd (bR.mk a0.b9.a0 0 0)))<|WO.bin (mr a0.b9 (bR.mk a0.b9.a0 0 0)) Z Z Z Z Z<|sF h ?_ ?_<;>intro h
      ·refine sM Z<|sV (.ptr 16 1)<|sV (.ptr 16 1)<|sL Z<|bE h fun x7 h7 h=>cD (ce h7)<|sF h ?_ ?_<;>intro h
       ·refine sM Z<|sV (.ptr 16 4)<|sV (.ptr 16 4)<|sL Z<|bE h fun x9 h9 h=>cD (ce h9)<|sV (rB x9)<|sA Z<|sN<|qR ?_
        cases oI h
        exact qG
       refine sM Z<|k3<|sK<|sU<|sA Z<|sN<|qR ?_
       cases oI h
       exact qG
      refine sM Z<|k3<|sK<|sU<|sM Z<|k3<|sK<|sU<|sA Z<|sN<|qR ?_
      cases oI h
      exact qG
     refine sM Z<|k3<|k3<|sK<|sU<|sM Z<|k3<|sK<|sU ?_
     refine sM Z<|k3<|sK<|sU<|sA Z<|sN<|qR ?_
     cases oI h
     exact qG
    refine sM Z<|k3<|k3<|sK<|sU<|sM Z<|k3<|sK<|sK ?_
    refine sK<|sK<|sU<|sM Z<|k3<|sK<|sU<|sM Z<|k3<|sK<|sU ?_
    refine sA Z<|sN<|qR ?_
    cases oI h
    exact qG
   refine sA Z<|sN<|cF<|gU Z<|sF h ?_ ?_<;>intro h
   ·refine sA Z<|sN<|cT<|Fv (R0:=[(1,.cptr [.int .i64 a0.kk,.int .i64 a0.cg.a0,.int .i64 a0.cg.a1,.int .i64 a0.cg.a2,.int .i64 a0.b9.a0,.int .i64 a0.b9.a1,.int .i64 a0.b9.a2,.lst (a0.eC.map (PD.int .i64)),.int .i64 a0.eJ,.int .i64 a0.fc]),(3,rB (a0.fc==(0:Int)))]) (B0:=[]) Z Z<|sF h ?_ ?_<;>intro h
    ·refine sM Z<|sV (.cptr [.int .i64 a0.cg.a0,.int .i64 a0.cg.a1,.int .i64 a0.cg.a2,.int .i64 a0.b9.a0,.int .i64 a0.b9.a1,.int .i64 a0.b9.a2,.lst (a0.eC.map (PD.int .i64)),.int .i64 a0.eJ,.int .i64 a0.fc])<|sV (.d (.lst ([a0.cg.a0,a0.cg.a1,a0.cg.a2].map (PD.int .i64))))<|bE h fun a9 k h=>cD (ce k)<|sF h ?_ ?_<;>intro h
     ·refine sM Z<|sV (.cptr [.int .i64 a0.b9.a0,.int .i64 a0.b9.a1,.int .i64 a0.b9.a2,.lst (a0.eC.map (PD.int .i64)),.int .i64 a0.eJ,.int .i64 a0.fc])<|sV (.d (.lst ([a0.b9.a0,a0.b9.a1,a0.b9.a2].map (PD.int .i64))))<|bE h fun b0 q h=>cD (ce q)<|sF h ?_ ?_<;>intro h
      ·refine sM Z<|sV (.cptr [.int .i64 a0.b9.a0,.int .i64 a0.b9.a1,.int .i64 a0.b9.a2,.lst (a0.eC.map (PD.int .i64)),.int .i64 a0.eJ,.int .i64 a0.fc])<|sV (.cptr [.int .i64 a0.b9.a0,.int .i64 a0.b9.a1,.int .i64 a0.b9.a2,.lst (a0.eC.map (PD.int .i64)),.int .i64 a0.eJ,.int .i64 a0.fc])<|sC Z<|sV (rB (a0.b9.a0 != (0:Int)))<|sV (rB (a0.b9.a0 != (0:Int)))<|sA Z<|sN<|qR ?_
       exact oI h▸qD
      refine sM Z<|k3<|sK<|sU<|sA Z<|sN<|qR ?_
      exact oI h▸qD
     refine sM Z<|k3<|sU<|sM Z<|k3<|sK<|sU<|sA Z<|sN<|qR ?_
     exact oI h▸qD
    refine sM Z<|k3<|sU<|sM Z<|k3<|sU<|sM Z<|k3<|sK ?_
    refine sU<|sA Z<|sN<|qR ?_
    exact oI h▸qD
   refine sA Z<|sN<|cF<|gU Z<|sF h ?_ ?_<;>intro h
   ·refine sA Z<|sN<|cT<|gU Z<|sV (.ptr 16 1)<|sV (.d (bR.pd a0.cg))<|sV (.d (bR.pd (bR.mk 0 0 0)))<|u4 h (fun f h=>?_) (fun f h=>?_)
    ·refine WO.zJ (mr a0.cg (bR.mk 0 0 0)) f Z Z Z Z Z<|sM Z<|sV (.ptr 16 4)<|sV (.d (bR.pd a0.b9))<|sV (.d (bR.pd (bR.mk 0 0 0)))<|WO.bin (mr a0.b9 (bR.mk 0 0 0)) Z Z Z Z Z<|sF h ?_ ?_<;>intro h
     ·refine sM Z<|sV (.ptr 16 7)<|sL Z<|sE (rI (a0.eC.length:Int)) (sx _ _)<|bE h fun b1 u h=>cD (ce u)<|sF h ?_ ?_<;>intro h
      ·refine sM Z<|sV (.ptr 16 7)<|sL Z<|bE h fun b2 C h=>cD (ce C)<|sF h ?_ ?_<;>intro h
       ·refine sM Z<|sV (.ptr 16 7)<|sL Z<|bE h fun U D h=>cD (ce D)<|sV (rB (U != (0:Int)))<|sF h ?_ ?_<;>intro h
        ·refine sM Z<|sV (.ptr 16 8)<|sL Z<|bE h fun b3 E h=>cD (ce E)<|sF h ?_ ?_<;>intro h
         ·refine sM Z<|sV (.ptr 16 9)<|sL Z<|bE h fun W F h=>cD (ce F)<|sV (rB W)<|sA Z<|sN<|qR ?_
          cases oI h
          exact qG
         refine sM Z<|k3<|sU<|sA Z<|sN<|qR ?_
         cases oI h
         exact qG
        refine sM Z<|k3<|sU<|sM Z<|k3<|sU<|sA Z<|sN<|qR ?_
        cases oI h
        exact qG
       refine sM Z<|k3<|sK<|sU<|sM Z<|k3<|sU<|sM Z<|sK<|sK<|sK ?_
       refine sU<|sA Z<|sN<|qR ?_
       cases oI h
       exact qG
      refine sM Z<|k3<|sU<|sM Z<|k3<|sK<|sU<|sM Z<|sK<|sK<|sK ?_
      refine sU<|sM Z<|k3<|sU<|sA Z<|sN<|qR ?_
      cases oI h
      exact qG
     refine sM Z<|k3<|sK<|sU<|sM Z<|k3<|sU<|sM Z<|sK<|sK<|sK ?_
     refine sK<|sU<|sM Z<|k3<|sU<|sM Z<|k3<|sU<|sA Z<|sN<|qR ?_
     cases oI h
     exact qG
    refine WO.zJ (mr a0.cg (bR.mk 0 0 0)) f Z Z Z Z Z<|sM Z<|k3<|sK<|sU<|sM Z<|k3<|sK<|sU<|sM Z<|sK ?_
    refine sK<|sK<|sU<|sM Z<|k3<|sK<|sU<|sM Z<|k3<|sU<|sM Z ?_
    refine k3<|sU<|sA Z<|sN<|qR ?_
    cases oI h
    exact qG
   refine sA Z<|sN<|cF<|qK<|gU Z<|sU<|sN<|qR ?_
   cases oI h
   exact qG
  refine sM Z<|k3<|sU<|sA Z<|sN<|qS<|gU Z<|sV (.ptr 16 0)<|sL Z<|sN<|qB<|gU Z<|sF h ?_ ?_<;>intro h
  ·refine sA Z<|sN<|cT<|gU Z<|mM Z<|k3<|k3<|sK<|sU<|sM Z ?_
   refine k3<|k3<|sK<|sU<|sM Z<|k3<|sK<|sU<|sM Z ?_
   refine k3<|sK<|sU<|sA Z<|sN<|qR ?_
   cases oI h
   exact qG
  refine sA Z<|sN<|cF<|gU Z<|sF h ?_ ?_<;>intro h
  ·refine sA Z<|sN<|cT<|Fv (R0:=[(1,.cptr [.int .i64 a0.kk,.int .i64 a0.cg.a0,.int .i64 a0.cg.a1,.int .i64 a0.cg.a2,.int .i64 a0.b9.a0,.int .i64 a0.b9.a1,.int .i64 a0.b9.a2,.lst (a0.eC.map (PD.int .i64)),.int .i64 a0.eJ,.int .i64 a0.fc]),(3,rB false)]) (B0:=[]) Z Z<|mM Z<|k3<|sU<|sM Z<|k3<|sU ?_
   refine sM Z<|k3<|sK<|sU<|sA Z<|sN<|qR ?_
   exact oI h▸qD
  refine sA Z<|sN<|cF<|gU Z<|sF h ?_ ?_<;>intro h
  ·refine sA Z<|sN<|cT<|gU Z<|sV (.ptr 16 1)<|sV (.d (bR.pd a0.cg))<|sV (.d (bR.pd (bR.mk 0 0 0)))<|u4 h (fun g h=>?_) (fun g h=>?_)
   ·refine WO.zJ (mr a0.cg (bR.mk 0 0 0)) g Z Z Z Z Z<|sM Z<|sV (.ptr 16 4)<|sV (.d (bR.pd a0.b9))<|sV (.d (bR.pd (bR.mk 0 0 0)))<|WO.bin (mr a0.b9 (bR.mk 0 0 0)) Z Z Z Z Z<|sF h ?_ ?_<;>intro h
    ·refine sM Z<|sV (.ptr 16 7)<|sL Z<|sE (rI (a0.eC.length:Int)) (sx _ _)<|bE h fun b4 G h=>cD (ce G)<|sF h ?_ ?_<;>intro h
     ·refine sM Z<|sV (.ptr 16 7)<|sL Z<|bE h fun b5 H h=>cD (ce H)<|sF h ?_ ?_<;>intro h
      ·refine sM Z<|sV (.ptr 16 7)<|sL Z<|bE h fun X I h=>cD (ce I)<|sV (rB (X != (0:Int)))<|sF h ?_ ?_<;>intro h
       ·refine sM Z<|sV (.ptr 16 8)<|sL Z<|bE h fun b6 J h=>cD (ce J)<|sF h ?_ ?_<;>intro h
        ·refine sM Z<|sV (.ptr 16 9)<|sL Z<|bE h fun Y K h=>cD (ce K)<|sV (rB Y)<|sA Z<|sN<|qR ?_
         cases oI h
         exact qG
        refine sM Z<|k3<|sU<|sA Z<|sN<|qR ?_
        cases oI h
        exact qG
       refine sM Z<|k3<|sU<|sM Z<|k3<|sU<|sA Z<|sN<|qR ?_
       cases oI h
       exact qG
      refine sM Z<|k3<|sK<|sU<|sM Z<|k3<|sU<|sM Z<|sK<|sK<|sK ?_
      refine sU<|sA Z<|sN<|qR ?_
      cases oI h
      exact qG
     refine sM Z<|k3<|sU<|sM Z<|k3<|sK<|sU<|sM Z<|sK<|sK<|sK ?_
     refine sU<|sM Z<|k3<|sU<|sA Z<|sN<|qR ?_
     cases oI h
     exact qG
    refine sM Z<|k3<|sK<|sU<|sM Z<|k3<|sU<|sM Z<|sK<|sK<|sK ?_
    refine sK<|sU<|sM Z<|k3<|sU<|sM Z<|k3<|sU<|sA Z<|sN<|qR ?_
    cases oI h
    exact qG
   refine WO.zJ (mr a0.cg (bR.mk 0 0 0)) g Z Z Z Z Z<|sM Z<|k3<|sK<|sU<|sM Z<|k3<|sK<|sU<|sM Z<|sK ?_
   refine sK<|sK<|sU<|sM Z<|k3<|sK<|sU<|sM Z<|k3<|sU<|sM Z ?_
   refine k3<|sU<|sA Z<|sN<|qR ?_
   cases oI h
   exact qG
  refine sA Z<|sN<|cF<|qK<|gU Z<|sU<|sN<|qR ?_
  cases oI h
  exact qG
 refine sM Z<|k3<|sU<|sM Z<|k3<|sU<|sA Z<|sN<|qS<|gU Z<|sV (.ptr 16 0) ?_
 refine sL Z<|sN<|qB<|gU Z<|sF h ?_ ?_<;>intro h
 ·refine sA Z<|sN<|cT<|gU Z<|mM Z<|k3<|k3<|sK<|sU<|sM Z ?_
  refine k3<|k3<|sK<|sU<|sM Z<|k3<|sK<|sU<|sM Z ?_
  refine k3<|sK<|sU<|sA Z<|sN<|qR ?_
  cases oI h
  exact qG
 refine sA Z<|sN<|cF<|gU Z<|sF h ?_ ?_<;>intro h
 ·refine sA Z<|sN<|cT<|Fv (R0:=[(1,.cptr [.int .i64 a0.kk,.int .i64 a0.cg.a0,.int .i64 a0.cg.a1,.int .i64 a0.cg.a2,.int .i64 a0.b9.a0,.int .i64 a0.b9.a1,.int .i64 a0.b9.a2,.lst (a0.eC.map (PD.int .i64)),.int .i64 a0.eJ,.int .i64 a0.fc]),(3,rB false)]) (B0:=[]) Z Z<|mM Z<|k3<|sU<|sM Z<|k3<|sU ?_
  refine sM Z<|k3<|sK<|sU<|sA Z<|sN<|qR ?_
  exact oI h▸qD
 refine sA Z<|sN<|cF<|gU Z<|sF h ?_ ?_<;>intro h
 ·refine sA Z<|sN<|cT<|gU Z<|sV (.ptr 16 1)<|sV (.d (bR.pd a0.cg))<|sV (.d (bR.pd (bR.mk 0 0 0)))<|u4 h (fun j h=>?_) (fun j h=>?_)
  ·refine WO.zJ (mr a0.cg (bR.mk 0 0 0)) j Z Z Z Z Z<|sM Z<|sV (.ptr 16 4)<|sV (.d (bR.pd a0.b9))<|sV (.d (bR.pd (bR.mk 0 0 0)))<|WO.bin (mr a0.b9 (bR.mk 0 0 0)) Z Z Z Z Z<|sF h ?_ ?_<;>intro h
   ·refine sM Z<|sV (.ptr 16 7)<|sL Z<|sE (rI (a0.eC.length:Int)) (sx _ _)<|bE h fun c0 L h=>cD (ce L)<|sF h ?_ ?_<;>intro h
    ·refine sM Z<|sV (.ptr 16 7)<|sL Z<|bE h fun c1 N h=>cD (ce N)<|sF h ?_ ?_<;>intro h
     ·refine sM Z<|sV (.ptr 16 7)<|sL Z<|bE h fun a5 O h=>cD (ce O)<|sV (rB (a5 != (0:Int)))<|sF h ?_ ?_<;>intro h
      ·refine sM Z<|sV (.ptr 16 8)<|sL Z<|bE h fun c2 Q h=>cD (ce Q)<|sF h ?_ ?_<;>intro h
       ·refine sM Z<|sV (.ptr 16 9)<|sL Z<|bE h fun a6 T h=>cD (ce T)<|sV (rB a6)<|sA Z<|sN<|qR ?_
        cases oI h
        exact qG
       refine sM Z<|k3<|sU<|sA Z<|sN<|qR ?_
       cases oI h
       exact qG
      refine sM Z<|k3<|sU<|sM Z<|k3<|sU<|sA Z<|sN<|qR ?_
      cases oI h
      exact qG
     refine sM Z<|k3<|sK<|sU<|sM Z<|k3<|sU<|sM Z<|sK<|sK<|sK ?_
     refine sU<|sA Z<|sN<|qR ?_
     cases oI h
     exact qG
    refine sM Z<|k3<|sU<|sM Z<|k3<|sK<|sU<|sM Z<|sK<|sK<|sK ?_
    refine sU<|sM Z<|k3<|sU<|sA Z<|sN<|qR ?_
    cases oI h
    exact qG
   refine sM Z<|k3<|sK<|sU<|sM Z<|k3<|sU<|sM Z<|sK<|sK<|sK ?_
   refine sK<|sU<|sM Z<|k3<|sU<|sM Z<|k3<|sU<|sA Z<|sN<|qR ?_
   cases oI h
   exact qG
  refine WO.zJ (mr a0.cg (bR.mk 0 0 0)) j Z Z Z Z Z<|sM Z<|k3<|sK<|sU<|sM Z<|k3<|sK<|sU<|sM Z<|sK ?_
  refine sK<|sK<|sU<|sM Z<|k3<|sK<|sU<|sM Z<|k3<|sU<|sM Z ?_
  refine k3<|sU<|sA Z<|sN<|qR ?_
  cases oI h
  exact qG
 refine sA Z<|sN<|cF<|qK<|gU Z<|sU<|sN<|qR ?_
 cases oI h
 exact qG
instance {a0:bh}:CE prog bo ext (d9 a0) 232 [.d (bh.pd a0)] [] fun r=>(rB r,[]):=⟨fun h=>pH h⟩
section
attribute [local irreducible] HM HU HF HB WO WC QS QB tZ
instance {a0:bh}:CE prog bo ext (lv a0) 231 [.d (bh.pd a0)] [] fun r=>(rB r,[]):=⟨fun h=>Ev.au h Tryz.func231⟩
instance {a0:(List bh)}:LI (dT a0) 2 (fun s=>[(8,rI s)]) (fun s=>[]) (jY 7 (fun y=>[]) (fun y=>[]) Tryz.f265 fun r=>(rI r,[])):=⟨⟩
instance {a0:(List bh)}:CE prog bo ext (gf a0) 265 [rM bh.pd a0,.d (.raw (.func (.func 231) #[] #[]))] [] fun r=>(rI r,[]):=⟨fun h=>Ev.au h Tryz.func265⟩
instance {a0:(List bh)}:CE prog bo ext (dS a0) 230 [rM bh.pd a0,.d (.raw (.func (.func 231) #[] #[]))] [] fun r=>(rB r,[]):=⟨fun h=>Ev.au h Tryz.func230⟩
instance {a0:(List bh)}:LI (jD a0) 3 (fun s=>[(3,rI s.1),(8,rI s.2)]) (fun s=>[]) (jY 10 (fun y=>[(3,rI y)]) (fun y=>[]) Tryz.f233 fun r=>(rI r,[])):=⟨⟩
instance {a0:(List bh)}:CE prog bo ext (lU a0) 233 [rM bh.pd a0] [] fun r=>(rI r,[]):=⟨fun h=>Ev.au h Tryz.func233⟩
instance {a0:bv}:CE prog bo ext (kU a0) 174 [.d (bv.pd a0)] [] fun r=>(rB r,[]):=⟨fun h=>Ev.au h Tryz.func174⟩
instance {a0:Int}{a1:Int}{a2:Int}:CE prog bo ext (ik a0 a1 a2) 124 [rI a0,rI a1,rI a2] [] fun r=>(rB r,[]):=⟨fun h=>Ev.au h Tryz.func124⟩
instance {a0:az}:CE prog bo ext (ie a0) 123 [.d (az.pd a0)] [] fun r=>(rB r,[]):=⟨fun h=>Ev.au h Tryz.func123⟩
instance {a0:(List az)}:LI (ij a0) 2 (fun s=>[(7,rI s)]) (fun s=>[]) (jY 7 (fun y=>[]) (fun y=>[]) Tryz.f84 fun r=>(rB r,[])):=⟨⟩
instance {a0:(List az)}:CE prog bo ext (ld a0) 84 [rM az.pd a0] [] fun r=>(rB r,[]):=⟨fun h=>Ev.au h Tryz.func84⟩
instance {a0:(List UInt8)}:CE prog bo ext (iR a0) 175 [rS a0] [] fun r=>(rB r,[]):=⟨fun h=>Ev.au h Tryz.func175⟩
instance {a0:(List UInt8)}{a1:(List UInt8)}:CE prog bo ext (dH a0 a1) 125 [rS a0,rS a1] [] fun r=>(rI r,[]):=⟨fun h=>Ev.au h Tryz.func125⟩
instance {a0:(List Int)}:LI (eF a0) 3 (fun s=>[(8,rI s)]) (fun s=>[]) (jY 8 (fun y=>[]) (fun y=>[]) Tryz.f115 fun r=>(rI r,[])):=⟨⟩
instance {a0:(List Int)}:CE prog bo ext (dI a0) 115 [rL a0] [] fun r=>(rI r,[]):=⟨fun h=>Ev.au h Tryz.func115⟩
instance {a0:bn}{a1:bn}:CE prog bo ext (jj a0 a1) 85 [.d (bn.pd a0),.d (bn.pd a1)] [] fun r=>(rI r,[]):=⟨fun h=>Ev.au h Tryz.func85⟩
instance {a0:ae}:LI (iF a0) 2 (fun s=>[(8,rI s)]) (fun s=>[]) (jY 7 (fun y=>[]) (fun y=>[]) Tryz.f45 fun r=>(rB r,[])):=⟨⟩
instance {a0:ae}:CE prog bo ext (cO a0) 45 [.d (ae.pd a0)] [] fun r=>(rB r,[]):=⟨fun h=>Ev.au h Tryz.func45⟩
instance {a0:Int}{a1:Int}{a2:Int}:CE prog bo ext (m9 a0 a1 a2) 121 [rI a0,rI a1,rI a2] [] fun r=>(rB r,[]):=⟨fun h=>Ev.au h Tryz.func121⟩
instance {a0:aa}:CE prog bo ext (iW a0) 82 [.d (aa.pd a0)] [] fun r=>(rB r,[]):=⟨fun h=>Ev.au h Tryz.func82⟩
instance {a0:aa}:CE prog bo ext (kc a0) 81 [.d (aa.pd a0)] [] fun r=>(rB r,[]):=⟨fun h=>Ev.au h Tryz.func81⟩
instance {a0:(List aa)}:LI (ed a0) 2 (fun s=>[(8,rI s)]) (fun s=>[]) (jY 7 (fun y=>[]) (fun y=>[]) Tryz.f94 fun r=>(rI r,[])):=⟨⟩
instance {a0:(List aa)}:CE prog bo ext (gD a0) 94 [rM aa.pd a0,.d (.raw (.func (.func 81) #[] #[]))] [] fun r=>(rI r,[]):=⟨fun h=>Ev.au h Tryz.func94⟩
instance {a0:(List aa)}:CE prog bo ext (fK a0) 49 [rM aa.pd a0,.d (.raw (.func (.func 81) #[] #[]))] [] fun r=>(rB r,[]):=⟨fun h=>Ev.au h Tryz.func49⟩
instance {a0:(List aa)}:CE prog bo ext (gt a0) 44 [rM aa.pd a0] [] fun r=>(rB r,[]):=⟨fun h=>Ev.au h Tryz.func44⟩
instance {a0:Int}:CE prog bo ext (lF a0) 128 [rI a0] [] fun r=>(rB r,[]):=⟨fun h=>Ev.au h Tryz.func128⟩
instance {a0:Int}{a1:Int}:CE prog bo ext (cj a0 a1) 89 [rI a0,rI a1] [] fun r=>(rI r,[]):=⟨fun h=>Ev.au h Tryz.func89⟩
instance {a0:aa}{a1:aa}:CE prog bo ext (cS a0 a1) 91 [.d (aa.pd a0),.d (aa.pd a1)] [] fun r=>(rI r,[]):=⟨fun h=>Ev.au h Tryz.func91⟩
end
theorem pJ{d0:(List aa)}{r:(List aa)}(h:eT d0=some r):EvP prog bo ext 126 [.ref 0 0] [.arr 0 70 (d0.map aa.pd)] (.ref 0 1,[.arr 1 70 (r.map aa.pd)]):=by
 refine Ev.body Z Tryz.func126 Z Zk<|gU Z<|sV .rm<|sN<|qS<|gU Z<|sM Z<|WO.lenR Z Z Z Z Z Z Z Z Z<|sF h ?_ ?_<;>intro h
 ·refine sN<|cT<|Fv (R0:=[(0,.ref 0 1)]) (B0:=[(0,.arr 1 70 (d0.map aa.pd))]) Z Z<|sM Z<|sA Z<|sN<|qR ?_
  exact oI h▸qD
 refine sN<|cF<|qK<|qS<|gU Z<|sV (rI 1)<|sN<|bE h fun b0 C h=>Fq (Fs (WL.rU C (fun s=>gI 1 126 4 [(0,.ref 0 0),(3,rI s)] [(0,.arr 0 70 (d0.map aa.pd))]) (fun o=>match o with| .inl y=>gX 0 1 126 16 [(0,.ref 0 1)] [(0,.arr 1 70 (d0.map aa.pd))]| .inr r=>gF 126 Tryz.f126 1 (.ref 0 1,[.arr 1 70 (r.map aa.pd)])) Z ?_ ?_))
 ·rintro s2 I H q3 k h
  refine qS<|gS Z k<|mM Z<|WO.lenR Z Z Z Z Z Z Z Z Z<|sF h ?_ ?_<;>intro h
  ·refine sN<|cT<|qK<|qS<|qB<|Ft Z Z<|mM Z<|bE h fun x6 h6 h=>WO.tF h6 Z Z Z Z Z Z Z Z<|bE h fun x7 h7 h=>WO.tg h7 Z Z Z Z Z Z<|mM Z<|sV (rI (rW (s2-(1:Int)))) ?_
   refine bE h fun x9 h9 h=>WO.tF h9 Z Z Z Z Z Z Z Z<|bE h fun D J h=>WO.tg J Z Z Z Z Z Z<|u4 h (fun f h=>?_) (fun f h=>?_)
   ·refine WO.zJ (eqE_70 x7 D) f Z Z Z Z Z ?_
    refine sN<|sO<|cT<|gU Z<|mM Z<|bE h fun c0 K h=>WO.subR K Z Z Z Z Z Z Z Z Z Z Z Z<|sA Z<|sN<|qS<|gU Z<|sV (rI 1)<|sN<|bE h fun b3 u h=>Fq (Fs (WL.rU u (fun s=>gI 1 126 9 [(0,.ref 0 0),(3,rI s.1),(4,.view 0 0 (0+(s2:Int).toNat) (0+((d0.length:Int):Int).toNat)),(5,rI s.2.1)] [(0,.arr 0 70 (s.2.2.map aa.pd))]) (fun o=>gX 2 1 126 14 [(0,.ref 0 0),(3,rI o.1)] [(0,.arr 0 70 (o.2.map aa.pd))]) Z ?_ ?_))
    ·rintro⟨b1,q,b6⟩ I H b4 k h
     unfold jf at h
     refine qS<|gS Z k<|mM Z<|bE h fun c1 L h=>WO.lenVw L Z Z Z Z Z Z Z Z Z<|sF h ?_ ?_<;>intro h
     ·refine sN<|cT<|qK<|qS<|qB<|Ft Z Z<|mM Z<|bE h fun c2 N h=>WO.eltV N Z Z Z Z Z Z Z Z<|bE h fun E O h=>WO.tg O Z Z Z Z Z Z<|mM Z<|sV (rI (rW (q-(1:Int)))) ?_
      refine bE h fun c3 Q h=>WO.eltV Q Z Z Z Z Z Z Z Z<|bE h fun F T h=>WO.tg T Z Z Z Z Z Z<|u4 h (fun j h=>?_) (fun j h=>?_)
      ·refine WO.zJ (eqN_70 E F) j Z Z Z Z Z ?_
       refine sN<|sO<|cT<|gU Z<|mM Z<|mM Z<|bE h fun c4 U h=>WO.eltV U Z Z Z Z Z Z Z Z<|bE h fun b2 W h=>WO.tg W Z Z Z Z Z Z<|bE h fun c5 X h=>WO.tF X Z Z Z Z Z Z Z Z<|bE h fun c6 Y h=>WO.vj (g:=aa.pd) (sz:=9) (p:=aa.pd b2) Y (by intro _;kernel_rfl) (by intro _;kernel_rfl) Z Z Z Z Z Z Z Z Z ?_
       refine sN<|Fu Z Z<|sM Z<|sV (rI (rW (b1+(1:Int))))<|sA Z<|sN<|Fu Z Z<|sM Z<|sV (rI (rW (q+(1:Int))))<|sA Z<|sN ?_
       cases oI h
       exact⟨rfl,rfl⟩
      refine WO.zJ (eqN_70 E F) j Z Z Z Z Z ?_
      refine sN<|sO<|cF<|qK<|Fu Z Z<|sM Z<|sV (rI (rW (q+(1:Int))))<|sA Z<|sN ?_
      cases oI h
      exact⟨rfl,rfl⟩
     refine sN<|cF<|qX ?_
     cases oI h
     exact⟨nofun,rfl,rfl⟩
    intro e I H he G
    obtain⟨rfl,k⟩:=G
    refine qE<|gS Z k<|mM Z<|bE h fun c7 a5 h=>WO.subR a5 Z Z Z Z Z Z Z Z Z Z Z Z<|bE h fun c8 a6 h=>WO.clearN (z:=(aa.mk (bn.mk [] [] [] []) 0 0 0 0 0)) (g:=aa.pd) Z Z Z Z Z Z Z (B5 a6 Z) Z Z Z Z<|sN<|gU Z<|mM Z<|bE h fun d1 a9 h=>WO.resl a9 Z Z Z Z Z Z Z Z Z Z Z Z<|sA Z ?_
    refine sN<|qR ?_
    cases oI h
    exact⟨nofun,rfl,rfl⟩
   refine WO.zJ (eqE_70 x7 D) f Z Z Z Z Z ?_
   refine sN<|sO<|cF<|qK<|Fu Z Z<|sM Z<|sV (rI (rW (s2+(1:Int))))<|sA Z<|sN ?_
   cases oI h
   exact⟨rfl,rfl⟩
  refine sN<|cF<|qX ?_
  cases oI h
  exact⟨nofun,rfl,rfl⟩
 intro e I H he G
 rcases b0 with d2|b5
 ·obtain⟨rfl,k⟩:=G
  refine qE<|gS Z k<|sM Z<|sA Z<|sN<|qR ?_
  exact oI h▸qD
 obtain⟨rfl,hf⟩:=G
 cases oI h
 exact hf
instance {d0:(List aa)}:CE prog bo ext (eT d0) 126 [.ref 0 0] [.arr 0 70 (d0.map aa.pd)] fun r=>(.ref 0 1,[.arr 1 70 (r.map aa.pd)]):=⟨fun h=>pJ h⟩
section
attribute [local irreducible] HM HU HF HB WO WC QS QB tZ
instance {a0:(List aa)}:CE prog bo ext (de a0) 86 [rM aa.pd a0] [] fun r=>(.ref 0 0,[.arr 0 70 (r.map aa.pd)]):=⟨fun h=>Ev.au h Tryz.func86⟩
instance {a0:aa}{a1:aa}:CE prog bo ext (fP a0 a1) 88 [.d (aa.pd a0),.d (aa.pd a1)] [] fun r=>(rI r,[]):=⟨fun h=>Ev.au h Tryz.func88⟩
end
theorem fg{a1:Int}{a2:Int}{d0:(List aa)}{r:(List aa)}(h:bX a1 a2 d0=some r):EvP prog bo ext 176 [.ref 0 0,rI a1,rI a2,.d (.raw (.func (.func 88) #[] #[]))] [.arr 0 70 (d0.map aa.pd)] (.tup [],[.arr 0 70 (r.map aa.pd)]):=by
 refine Ev.body Z Tryz.func176 Z Zk<|gU Z<|sM Z<|sV (rI (rW (a1+(1:Int))))<|sA Z<|sN<|bE h fun a5 q h=>?_
 cases oI h
 refine Fq (Fs (WL.uQ q (fun s=>gI 1 176 1 [(0,.ref 0 0),(1,rI a1),(2,rI a2),(3,.d (.raw (.func (.func 88) #[] #[]))),(8,rI s.1)] [(0,.arr 0 70 (s.2.map aa.pd))]) Z ?_))
 rintro⟨s1,s2⟩ R' B' q3 j h
 refine qS<|gS Z j<|mM Z<|sF h ?_ ?_<;>intro h
 ·refine sN<|cT<|qK<|qS<|qB<|gU Z<|sM Z<|sA Z<|sN<|bE h fun U k h=>Fq (Fs (WL.rU k (fun s=>gI 1 176 4 [(0,.ref 0 0),(1,rI a1),(2,rI a2),(3,.d (.raw (.func (.func 88) #[] #[]))),(8,rI s1),(9,rI s.1)] [(0,.arr 0 70 (s.2.map aa.pd))]) (fun o=>gX 2 1 176 2 [(0,.ref 0 0),(1,rI a1),(2,rI a2),(3,.d (.raw (.func (.func 88) #[] #[]))),(8,rI o.1)] [(0,.arr 0 70 (o.2.map aa.pd))]) Z ?_ ?_))
  ·rintro⟨u,s6⟩ R' B' q9 j h
   refine qS<|Ft j Z<|mM Z<|sF h ?_ ?_<;>intro h
   ·refine mM Z<|mM Z<|bE h fun a6 C h=>WO.tF C Z Z Z Z Z Z Z Z<|bE h fun a9 D h=>WO.tg D Z Z Z Z Z Z<|mM Z<|sV (rI (rW (u-(1:Int))))<|bE h fun b0 E h=>WO.tF E Z Z Z Z Z Z Z Z<|bE h fun b1 F h=>WO.tg F Z Z Z Z Z Z ?_
    refine bE h fun W G h=>cD (ce G)<|sV (rB (decide (W<(0:Int))))<|sF h ?_ ?_<;>intro h
    ·refine sN<|sO<|cT<|qK<|qS<|qB<|WC.tn Z Z<|mM Z<|mM Z<|sV (rI (rW (u-(1:Int))))<|mM Z<|sV (rI (rW (u-(1:Int))))<|bE h fun b2 H h=>?_
     refine WO.tF H Z Z Z Z Z Z Z Z<|bE h fun X I h=>WO.tg I Z Z Z Z Z Z<|mM Z<|bE h fun b3 J h=>WO.tF J Z Z Z Z Z Z Z Z<|bE h fun Y K h=>WO.tg K Z Z Z Z Z Z<|bE h fun b4 L h=>WO.tF L Z Z Z Z Z Z Z Z<|bE h fun b5 N h=>WO.vj (g:=aa.pd) (sz:=9) (p:=aa.pd X) N (by intro _;kernel_rfl) (by intro _;kernel_rfl) Z Z Z Z Z Z Z Z Z<|bE h fun b6 O h=>WO.tF O Z Z Z Z Z Z Z Z ?_
     refine bE h fun c0 Q h=>WO.vj (g:=aa.pd) (sz:=9) (p:=aa.pd Y) Q (by intro _;kernel_rfl) (by intro _;kernel_rfl) Z Z Z Z Z Z Z Z Z ?_
     refine sN<|sO<|Fu Z Z<|sM Z<|sV (rI (rW (u-(1:Int))))<|sA Z<|sN ?_
     cases oI h
     exact⟨rfl,rfl⟩
    refine sN<|sO<|cF<|qX ?_
    cases oI h
    exact⟨nofun,rfl,rfl⟩
   refine sM Z<|k3<|k3<|k3<|k3<|sU ?_
   refine sN<|sO<|cF<|qX ?_
   cases oI h
   exact⟨nofun,rfl,rfl⟩
  intro e R' B' he hq
  obtain⟨rfl,j⟩:=hq
  refine qE<|Fu j Z<|sM Z<|sV (rI (rW (U.1+(1:Int))))<|sA Z<|sN ?_
  cases oI h
  exact⟨rfl,rfl⟩
 refine sN<|cF<|qX<|oh h (fun z33 f hz=>?_)
 obtain rfl:=Option.some.inj hz
 refine⟨(fun he=>by cases he),fun T=>?_⟩
 subst T
 have h:=f
 refine qE ?_
 exact oI h▸qD
end Go.Dw.Re
