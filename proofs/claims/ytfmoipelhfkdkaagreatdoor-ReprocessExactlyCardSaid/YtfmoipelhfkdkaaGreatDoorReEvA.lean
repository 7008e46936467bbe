
import Derived.Test.YtfmoipelhfkdkaaGreatDoorReFn
import Derived.Test.YtfmoipelhfkdkaaGreatDoorDwShort
import Derived.Test.YtfmoipelhfkdkaaGreatDoorDwNest
import Derived.Test.YtfmoipelhfkdkaaGreatDoorDwAuto
import Derived.Test.YtfmoipelhfkdkaaGreatDoorProg
import Derived.Test.YtfmoipelhfkdkaaGreatDoorDwHole
import Derived.Test.YtfmoipelhfkdkaaGreatDoorDwClone
import Derived.Test.YtfmoipelhfkdkaaGreatDoorDwSortI
import Derived.Test.YtfmoipelhfkdkaaGreatDoorDwHand
import Derived.Test.YtfmoipelhfkdkaaGreatDoorDwSort
set_option linter.unusedVariables false
set_option linter.unusedSimpArgs false
open Go.Dw.WC renaming block->F1, loop->F2, py->F3, region->F4, tc->F5

set_option maxRecDepth 100000
set_option maxHeartbeats 4000000
namespace Go.Dw.Re
open Go.Proofs Go.Proofs.Tryz Go.Dw
@[reducible] def rW(n:Int):Int:=IntKind.wrap .i64 n
@[reducible] def rI(n:Int):RV:= .d (.int .i64 n)
@[reducible] def r0:RV:= .d (.int .i64 0)
@[reducible] def rS(s:List UInt8):RV:= .d (.str s)
@[reducible] def rB(b:Bool):RV:= .d (.bool b)
@[reducible] def rM{α:Type}(g:α->PD)(l:List α):RV:= .d (.lst (l.map g))
@[reducible] def rL(l:List Int):RV:= .d (.lst (l.map (PD.int .i64)))
@[reducible] def zZ0:List RV:=[.d (.int .i64 0),.d (.int .i64 0),.d (.int .i64 0),.d (.int .i64 0),.d (.int .i64 0),.d (.int .i64 0),.d (.int .i64 0),.pY,.pY,.d (.int .i64 0),.d (.int .i64 0),.d (.int .i64 0),.d (.int .i64 0),.d (.int .i64 0),.d (.int .i64 0),.pY,.pY,.d (.int .i64 0),.d (.int .i64 0),.d (.int .i64 0),.pY,.pY]
@[reducible] def zZ1:List RV:=[.d (.int .i64 0),.d (.int .i64 0),.d (.int .i64 0),.d (.int .i64 0),.d (.int .i64 0),.d (.int .i64 0),.d (.int .i64 0),.d (.int .i64 0),.d (.int .i64 0),.d (.int .i64 0),.d (.int .i64 0),.d (.int .i64 0)]
@[reducible] def bg.rc(x:bg):List RV:=[.d (.int .i64 x.jZ),.d (.int .i64 x.cf.a0),.d (.int .i64 x.cf.a1),.d (.int .i64 x.cf.a2),.d (.int .i64 x.bY.a0),.d (.int .i64 x.bY.a1),.d (.int .i64 x.bY.a2),.d (.lst (x.ep.map (PD.int .i64))),.d (.int .i64 x.eE),.d (.int .i64 x.eT)]
@[reducible] def aa.rc(x:aa):List RV:=[.d (.str x.a7.bI),.d (.str x.a7.bw),.d (.str x.a7.ba),.d (.str x.a7.bL),.d (.int .i64 x.bS),.d (.int .i64 x.bv),.d (.int .i64 x.cg),.d (.int .i64 x.bG),.d (.int .i64 x.bT)]
@[reducible] def ah.rc(x:ah):List RV:=[.d (.int .i64 x.ac.bn.bt.fX),.d (.int .i64 x.ac.bn.bt.fY),.d (.int .i64 x.ac.bn.bt.fZ),.d (.int .i64 x.ac.bn.bd.fX),.d (.int .i64 x.ac.bn.bd.fY),.d (.int .i64 x.ac.bn.bd.fZ),.d (.int .i64 x.ac.bJ.bR),.d (.lst (x.ac.bJ.bt.map (PD.int .i64))),.d (.lst (x.ac.bJ.bd.map (PD.int .i64))),.d (.int .i64 x.ac.dw),.d (.int .i64 x.ac.bA),.d (.int .i64 x.ac.cw),.d (.int .i64 x.ac.dT),.d (.int .i64 x.ac.cq),.d (.int .i64 x.bQ.bF.bR),.d (.lst (x.bQ.bF.bt.map (PD.int .i64))),.d (.lst (x.bQ.bF.bd.map (PD.int .i64))),.d (.int .i64 x.bQ.cf),.d (.int .i64 x.bQ.bY),.d (.int .i64 x.bA)]
@[reducible] def bh.rc(x:bh):List RV:=[.d (.int .i64 x.bn.bt.fX),.d (.int .i64 x.bn.bt.fY),.d (.int .i64 x.bn.bt.fZ),.d (.int .i64 x.bn.bd.fX),.d (.int .i64 x.bn.bd.fY),.d (.int .i64 x.bn.bd.fZ),.d (.int .i64 x.bJ.bR),.d (.lst (x.bJ.bt.map (PD.int .i64))),.d (.lst (x.bJ.bd.map (PD.int .i64))),.d (.int .i64 x.dw),.d (.int .i64 x.bA),.d (.int .i64 x.cw),.d (.int .i64 x.dT),.d (.int .i64 x.cq)]
@[reducible] def al.rc(x:al):List RV:=[.d (.int .i64 x.bt.fX),.d (.int .i64 x.bt.fY),.d (.int .i64 x.bt.fZ),.d (.int .i64 x.bd.fX),.d (.int .i64 x.bd.fY),.d (.int .i64 x.bd.fZ)]
@[reducible] def aj.rc(x:aj):List RV:=[.d (.str x.a7.bI),.d (.str x.a7.bw),.d (.str x.a7.ba),.d (.str x.a7.bL),.d (.lst (x.cn.map az.pd))]
@[reducible] def cm.rc(x:cm):List RV:=[.d (.int .i64 x.fp.bn.bt.fX),.d (.int .i64 x.fp.bn.bt.fY),.d (.int .i64 x.fp.bn.bt.fZ),.d (.int .i64 x.fp.bn.bd.fX),.d (.int .i64 x.fp.bn.bd.fY),.d (.int .i64 x.fp.bn.bd.fZ),.d (.int .i64 x.fp.bJ.bR),.d (.lst (x.fp.bJ.bt.map (PD.int .i64))),.d (.lst (x.fp.bJ.bd.map (PD.int .i64))),.d (.lst (x.fp.bK.map aw.pd)),.d (.int .i64 x.fp.dw),.d (.lst (x.mp.map aq.pd)),.d (.int .i64 x.mo),.d (.int .i64 x.ftaken),.d (.bool x.ffound),.d (.int .i64 x.cu.bM.fX),.d (.int .i64 x.cu.bM.fY),.d (.int .i64 x.cu.bM.fZ),.d (.int .i64 x.cu.bS),.d (.int .i64 x.cu.b8),.d (.int .i64 x.cu.mn),.d (.int .i64 x.cu.ch.bt.fX),.d (.int .i64 x.cu.ch.bt.fY),.d (.int .i64 x.cu.ch.bt.fZ),.d (.int .i64 x.cu.ch.bd.fX),.d (.int .i64 x.cu.ch.bd.fY),.d (.int .i64 x.cu.ch.bd.fZ)]
@[reducible] def bH.rc(x:bH):List RV:=[.d (.lst (x.ew.map aa.pd)),.d (.int .i64 x.ba.bM.fX),.d (.int .i64 x.ba.bM.fY),.d (.int .i64 x.ba.bM.fZ),.d (.int .i64 x.ba.bS),.d (.int .i64 x.ba.b8),.d (.int .i64 x.ba.mn),.d (.int .i64 x.ba.ch.bt.fX),.d (.int .i64 x.ba.ch.bt.fY),.d (.int .i64 x.ba.ch.bt.fZ),.d (.int .i64 x.ba.ch.bd.fX),.d (.int .i64 x.ba.ch.bd.fY),.d (.int .i64 x.ba.ch.bd.fZ),.d (.int .i64 x.fc.bt),.d (.int .i64 x.fc.bd),.d (.int .i64 x.qA)]
@[reducible] def ap.rc(x:ap):List RV:=[.d (.int .i64 x.bM.fX),.d (.int .i64 x.bM.fY),.d (.int .i64 x.bM.fZ),.d (.int .i64 x.bS),.d (.int .i64 x.b8),.d (.int .i64 x.mn),.d (.int .i64 x.ch.bt.fX),.d (.int .i64 x.ch.bt.fY),.d (.int .i64 x.ch.bt.fZ),.d (.int .i64 x.ch.bd.fX),.d (.int .i64 x.ch.bd.fY),.d (.int .i64 x.ch.bd.fZ)]
@[reducible] def ak.rc(x:ak):List RV:=[.d (.int .i64 x.bn.bt.fX),.d (.int .i64 x.bn.bt.fY),.d (.int .i64 x.bn.bt.fZ),.d (.int .i64 x.bn.bd.fX),.d (.int .i64 x.bn.bd.fY),.d (.int .i64 x.bn.bd.fZ),.d (.int .i64 x.bJ.bR),.d (.lst (x.bJ.bt.map (PD.int .i64))),.d (.lst (x.bJ.bd.map (PD.int .i64))),.d (.lst (x.bK.map aw.pd)),.d (.int .i64 x.dw)]
@[reducible] def aq.rc(x:aq):List RV:=[.d (.int .i64 x.mI.bt.fX),.d (.int .i64 x.mI.bt.fY),.d (.int .i64 x.mI.bt.fZ),.d (.int .i64 x.mI.bd.fX),.d (.int .i64 x.mI.bd.fY),.d (.int .i64 x.mI.bd.fZ),.d (.int .i64 x.dx),.d (.int .i64 x.mo)]
@[reducible] def bB.rc(x:bB):List RV:=[.d (.lst (x.dg.map (PD.int .i64))),.d (.int .i64 x.bM.fX),.d (.int .i64 x.bM.fY),.d (.int .i64 x.bM.fZ),.d (.int .i64 x.bS)]
@[reducible] def av.rc(x:av):List RV:=[.d (.int .i64 x.bp.ac.bn.bt.fX),.d (.int .i64 x.bp.ac.bn.bt.fY),.d (.int .i64 x.bp.ac.bn.bt.fZ),.d (.int .i64 x.bp.ac.bn.bd.fX),.d (.int .i64 x.bp.ac.bn.bd.fY),.d (.int .i64 x.bp.ac.bn.bd.fZ),.d (.int .i64 x.bp.ac.bJ.bR),.d (.lst (x.bp.ac.bJ.bt.map (PD.int .i64))),.d (.lst (x.bp.ac.bJ.bd.map (PD.int .i64))),.d (.int .i64 x.bp.ac.dw),.d (.int .i64 x.bp.ac.bA),.d (.int .i64 x.bp.ac.cw),.d (.int .i64 x.bp.ac.dT),.d (.int .i64 x.bp.ac.cq),.d (.int .i64 x.bp.bQ.bF.bR),.d (.lst (x.bp.bQ.bF.bt.map (PD.int .i64))),.d (.lst (x.bp.bQ.bF.bd.map (PD.int .i64))),.d (.int .i64 x.bp.bQ.cf),.d (.int .i64 x.bp.bQ.bY),.d (.int .i64 x.bp.bA),.d (.lst (x.co.a8.map aj.pd)),.d (.lst (x.bP.map bq.pd))]
@[reducible] def bi.rc(x:bi):List RV:=[.d (.str x.bI),.d (.str x.bw),.d (.str x.ba),.d (.str x.bL)]
@[reducible] def ai.rc(x:ai):List RV:=[.d (.lst (x.fL.map (PD.int .i64))),.d (.int .i64 x.fAt)]
@[reducible] def bc.rc(x:bc):List RV:=[.d (.int .i64 x.bR),.d (.lst (x.bt.map (PD.int .i64))),.d (.lst (x.bd.map (PD.int .i64)))]
@[reducible] def bO.rc(x:bO):List RV:=[.d (.int .i64 x.bF.bR),.d (.lst (x.bF.bt.map (PD.int .i64))),.d (.lst (x.bF.bd.map (PD.int .i64))),.d (.int .i64 x.cf),.d (.int .i64 x.bY)]
@[reducible] def ag.rc(x:ag):List RV:=[.d (.int .i64 x.fX),.d (.int .i64 x.fY),.d (.int .i64 x.fZ)]
@[reducible] def bq.rc(x:bq):List RV:=[.d (.lst (x.ew.map aa.pd)),.d (.lst (x.gx.map ar.pd)),.d (.lst (x.pp.map aa.pd))]
theorem Z{α:Sort _}{a:α}:a=a:=rfl
theorem Zk{α:Sort _}{a b:α}(h:a=b:=by kernel_rfl):a=b:=h
theorem gU{P:Program}{H:Hints}{ext:FuncId->Option rA}{f:FuncId}{g:Nat}{R:List (Nat×RV)}{B:List (Nat×Box)}{Q:Ex->List (Nat×RV)->List (Nat×Box)->Prop}{id:Nat}{ops:Array Oper}{l:List Oper}{R0:List (Nat×RV)}{B0:List (Nat×Box)}{b:Code}(hl:(ops.toList,ry P g (A R B) (H.at_ f g id))=(l,some (A R0 B0)))
    (h:WO P H ext (H.hf f) ops l R0 B0 fun k j _=>WC P H ext f g b k j Q):WC P H ext f g (.seq (.region id ops false) b) R B Q:=gS (congrArg Prod.fst hl) (congrArg Prod.snd hl) h
theorem mM{P:Program}{H:Hints}{ext:FuncId->Option rA}{mt:Hf}{ops:Array Oper}{l:List Oper}{R:List (Nat×RV)}{B:List (Nat×Box)}{K:List (Nat×RV)->List (Nat×Box)->List Tr->Prop}{d e:Nat}{ty u:TypeId}{p q:String}{f j:Array Edge}{g k:Option (Nat×Bool)}{x y:Operand}{v w:RV}(r:((A R B).opd x,(A ((d,v)::R) B).opd y)=(some v,some w))(h:WO P H ext mt ops l ((e,w)::(d,v)::R) B fun D C ts=>K D C (⟨[],[]⟩::⟨[],[]⟩::ts))(hw:ou ops (A R B) ⟨some d,.move x,ty,p,f,g⟩=some true:=by exact rfl)(hu:ou ops (A ((d,v)::R) B) ⟨some e,.move y,u,q,j,k⟩=some true:=by exact rfl):WO P H ext mt ops (⟨some d,.move x,ty,p,f,g⟩::⟨some e,.move y,u,q,j,k⟩::l) R B K:=
  sM (congrArg Prod.fst r) (sM (congrArg Prod.snd r) h hu) hw
def hintAt:FuncId->Nat->Nat->List wR:=fun f g id=>
  if f<127 then(if f<51 then(if f<19 then(if f<13 then(if f<9 then(if f<8 then(if f=3 then(if g=0 then(if id=8 then [.dE [4,5,6,7,8] [64,80,128]]else if id=14 then [.dE [9,11,12,88,89] [144,176]]else if id=19 then [.dE [9,11,12,16,17,88,89,96,97,98] [144,176]]else if id=23 then [.dE [9,11,12,17,88,89] [144,176]]else if id=26 then [.dE [] []]else [])else [])else [])else(if f=8 then(if g=1 then(if id=3 then [.ownp (.cell 80 0) 1104 93,.dE [0,1,4,5,6] [0,64,80,1104]]else if id=16 then [.dE [4,5] [0,64,80,1104]]else [])else [])else []))else(if f<10 then(if f=9 then(if g=1 then(if id=4 then [.own 9 2192 70,.dE [0,5,6,9,10,11,12] [0,80,96,160,2192]]else if id=12 then [.dE [0,5,6,9,10,11,12,13,14,16] [0,80,96,160,208,224,2192]]else if id=14 then [.dE [0,5,6,9,10,11,12,13,16] [0,80,96,160,208,2192]]else if id=18 then [.dE [0,5,6,9,10,11,12,13] [0,80,96,160,208,2192]]else if id=21 then [.dE [9] [0,2192]]else [])else [])else [])else(if f<12 then(if f=10 then(if g=1 then(if id=3 then [.own 7 368 70,.dE [0,1,2,7,10,11] [0,368]]else if id=8 then [.dE [0,2,7] [0,368]]else [])else [])else [])else(if f=12 then(if g=1 then(if id=3 then [.ownp (.cell 80 0) 1536 93,.dE [0,4,5,10,11,12] [0,64,80,1536]]else if id=20 then [.dE [4,5] [0,64,80,1536]]else [])else [])else []))))else(if f<16 then(if f<14 then(if f=13 then(if g=0 then(if id=6 then [.ownp (.cell 160 21) 800 61,.dE [3,4,6,10,29,30,31] [48,64,96,160,800]]else if id=13 then [.dE [6,10] [96,160,800]]else [])else [])else [])else(if f<15 then(if f=14 then(if g=0 then(if id=9 then [.dE [3,4,6,9,11,12,52,53,54] [48,64,96,800]]else if id=13 then [.dE [3,4,6,9,11,12] [48,64,96,800]]else if id=15 then [.mv (.cell 240 21) 90240,.ownp (.cell 240 21) 90240 61,.dE [3,4,6,11,12,15,68,69,70] [48,64,96,240,800,90240]]else if id=24 then [.dE [6,11,15] [96,240,90240]]else [])else [])else [])else(if f=15 then(if g=0 then(if id=8 then [.dE [0,2,8,9,12,13,53,54,55] [128,144,208,832]]else if id=11 then [.dE [0,2,8,9,12,13,14,53,54,55,60,61,62] [128,144,208,832]]else if id=15 then [.dE [0,2,8,9,12,13,53,54,55] [128,144,208,832]]else if id=16 then [.dE [0,2,8,9,12,13] [128,144,208,832]]else if id=18 then [.own 18 1728 3,.dE [8,9,12,13,18,74,75,76] [128,144,208,832,1728]]else if id=25 then [.dE [18] [1728]]else [])else [])else [])))else(if f<17 then(if f=16 then(if g=0 then(if id=4 then [.dE [0,1,12,13] []]else if id=9 then [.dE [] []]else [])else [])else [])else(if f<18 then(if f=17 then(if g=0 then(if id=2 then [.dE [0,1,7,8] []]else if id=7 then [.dE [] []]else [])else [])else [])else(if f=18 then(if g=0 then(if id=4 then [.dE [0,1,5] []]else if id=8 then [.dE [] []]else [])else [])else [])))))else(if f<32 then(if f<23 then(if f<22 then(if f=19 then(if g=0 then(if id=4 then [.dE [0,1,5] []]else if id=8 then [.dE [] []]else [])else [])else [])else(if f=22 then(if g=0 then(if id=9 then [.own 14 1360 122,.dE [3,4,9,13,14,47,48,49] [48,64,1360]]else if id=13 then [.own 17 1056 70,.dE [3,4,9,13,14,17,47,48,49,54,55,56] [48,64,1056,1360]]else if id=17 then [.dE [3,4,9,13,14,17,47,48,49] [48,64,1056,1360]]else if id=22 then [.dE [9,13,14] [1360]]else if id=25 then [.own 22 1648 70,.dE [9,14,22,91,92,93] [1360,1648]]else if id=29 then [.dE [14,22] [1360,1648]]else [])else [])else []))else(if f<24 then(if f=23 then(if g=0 then(if id=4 then [.dE [2,3,5] [32,48]]else if id=9 then [.dE [] []]else [])else [])else [])else(if f<29 then(if f=24 then(if g=0 then(if id=3 then [.own 3 272 122,.dE [3,7,8,9] [272]]else if id=7 then [.dE [3] [272]]else [])else [])else [])else(if f=29 then(if g=1 then(if id=3 then [.dE [2,3,16,17] [0,32,48,96,97]]else if id=7 then [.dE [2,3] [0,32,48,96,97]]else [])else [])else []))))else(if f<43 then(if f<34 then(if f=32 then(if g=1 then(if id=3 then [.ownp (.cell 48 0) 1040 149,.dE [0,2,3,4] [0,32,48,1040]]else if id=13 then [.dE [2,3] [0,32,48,1040]]else [])else [])else [])else(if f<39 then(if f=34 then(if g=0 then(if id=2 then [.dE [2,4,6,13,14,15] [64,96]]else if id=5 then [.dE [2,4,6,9,13,14,15,20,21,22] [64,96,144]]else if id=10 then [.dE [2,4,6,13,14,15] [64,96]]else if id=11 then [.dE [6] [96]]else [])else [])else [])else(if f=39 then(if g=0 then(if id=2 then [.frz (.cell 32 15),.frz (.cell 32 16),.frz (.cell 32 7),.frz (.cell 32 8),.dE [2,3,4,17,18,19] [32,48,64]]else if id=8 then [.ownp (.cell 112 0) 1648 93,.dE [2,4,7,41,42,43] [32,64,112,1648]]else if id=12 then [.cls 784,.dE [2,4,7,9,41,42,43,53,54] [32,64,112,144,784,1648]]else if id=14 then [.opn 784 10 7]else if id=16 then [.cls 1072,.dE [2,4,7,9,10,41,42,43,53,54,77,78,79] [32,64,112,144,784,1072,1648]]else if id=18 then [.opn 1072 11 7]else if id=20 then [.dE [2,4,7,9,41,42,43,53,54] [32,64,112,144,784,1072,1648]]else if id=21 then [.dE [2,4,7,9,41,42,43] [32,64,112,144,784,1648]]else if id=23 then [.frz (.cell 112 0),.dE [2,4,7] [32,64,112]]else [])else [])else [])))else(if f<45 then(if f=43 then(if g=0 then(if id=3 then [.dE [1,2,18,19] [16,32,96,144,192]]else if id=7 then [.dE [1,2] [16,32,96,144,192]]else [])else [])else [])else(if f<46 then(if f=45 then(if g=0 then(if id=2 then [.dE [1,6,7,8] [16]]else if id=7 then [.dE [1] [16]]else [])else [])else [])else(if f=46 then(if g=0 then(if id=5 then [.give 624,.ownn (.reg 6) 624 42 70,.dE [0,5,6,15,16,17] [192,624]]else if id=8 then [.give 624,.ownn (.reg 6) 624 42 70,.dE [0,5,6,8,15,16,17] [128,192,624]]else if id=9 then [.lend 624 none 784]else if id=11 then [.give 624,.dE [6] [624]]else if id=12 then [.give 624,.dE [6,55,56,57] [624]]else if id=13 then [.lend 624 (some 57) 960]else if id=16 then [.give 624,.frzn (.reg 6),.dE [6] []]else [])else [])else []))))))else(if f<98 then(if f<66 then(if f<57 then(if f<52 then(if f=51 then(if g=0 then(if id=8 then [.own 9 656 70,.own 10 720 180,.dE [3,4,9,10,24,25,26] [48,64,384,656,720]]else if id=14 then [.dE [9,10] [656,720]]else [])else [])else [])else(if f=52 then(if g=0 then(if id=8 then [.own 8 2432 132,.own 9 2576 3,.dE [1,2,8,9,10,11] [32,176,560,561,2432,2576]]else if id=13 then [.own 13 1120 180,.dE [1,2,8,9,10,11,12,13,55,56,57] [32,176,560,561,1120,2432,2576]]else if id=17 then [.frz (.reg 13),.dE [1,2,8,9,10,11,12,13] [32,176,560,561,2432,2576]]else if id=25 then [.own 19 1840 3,.dE [1,2,8,9,10,11,12,16,18,19,98,99,100] [32,176,256,560,561,1840,2432,2576]]else if id=30 then [.dE [1,2,8,9,10,11,12,16,19] [32,176,256,560,561,1840,2432,2576]]else if id=33 then [.ownp (.cell 352 0) 2288 3,.dE [1,2,8,9,10,11,22,127,128,129] [32,176,352,560,561,1840,2288,2432,2576]]else if id=38 then [.dE [1,2,8,9,10,11,22] [32,176,352,560,561,2288,2432,2576]]else if id=40 then [.dE [1,2,8,9,10,11,12] [32,176,560,561,2432,2576]]else if id=42 then [.dE [8,9] [2432,2576]]else [])else [])else []))else(if f<61 then(if f=57 then(if g=0 then(if id=4 then [.dE [2,3,5] [32,48]]else if id=5 then [.dE [2,3,5] [32,48]]else if id=10 then [.dE [2,3,5,6,7,8] [32,48,96,112]]else if id=14 then [.dE [] []]else [])else [])else [])else(if f<64 then(if f=61 then(if g=0 then(if id=3 then [.own 5 304 70,.dE [1,5,9,10,11] [304]]else if id=7 then [.dE [5] [304]]else [])else [])else [])else(if f=64 then(if g=0 then(if id=5 then [.dE [41,42] []]else [])else [])else []))))else(if f<94 then(if f<79 then(if f=66 then(if g=1 then(if id=4 then [.ownp (.cell 48 1) 432 3,.ownp (.cell 48 2) 512 3,.dE [0,2,3,4,5,6] [0,32,48,432,512]]else if id=9 then [.dE [2,3] [0,32,48,432,512]]else [])else [])else [])else(if f<84 then(if f=79 then(if g=0 then(if id=2 then [.dE [0,1,7,8] []]else if id=7 then [.dE [] []]else [])else [])else [])else(if f=84 then(if g=0 then(if id=2 then [.dE [0,5,6,7] []]else if id=7 then [.dE [0] []]else [])else [])else [])))else(if f<96 then(if f=94 then(if g=0 then(if id=2 then [.dE [0,1,7,8] []]else if id=7 then [.dE [] []]else [])else if g=5 then(if id=2 then [.dE [0,1,7,8] [0,1,2,3,4]]else if id=7 then [.dE [] [0,1,2,3,4]]else [])else [])else [])else(if f<97 then(if f=96 then(if g=0 then(if id=6 then [.dE [2,52,53,54] [32]]else if id=12 then [.dE [] []]else [])else [])else [])else(if f=97 then(if g=0 then(if id=3 then [.dE [1,3,9,10] [16,112]]else if id=7 then [.dE [1,3] [16,112]]else [])else [])else [])))))else(if f<108 then(if f<101 then(if f<100 then(if f=98 then(if g=0 then(if id=3 then [.dE [0,2,3,13,14] [32,48,112,160]]else if id=7 then [.dE [2,3] [32,48,112,160]]else [])else [])else [])else(if f=100 then(if g=2 then(if id=4 then [.own 9 928 3,.dE [2,3,4,5,9,10,11] [0,1,64,80,928]]else if id=7 then [.dE [9] [0,1,928]]else [])else [])else []))else(if f<103 then(if f=101 then(if g=0 then(if id=7 then [.dE [4,8,37,38,39] [64,128]]else if id=13 then [.dE [4,8] [64,128]]else [])else [])else [])else(if f<106 then(if f=103 then(if g=0 then(if id=8 then [.dE [2,10,33,34,35] [512]]else if id=12 then [.dE [10] [512]]else [])else [])else [])else(if f=106 then(if g=0 then(if id=7 then [.ownp (.cell 128 0) 704 70,.ownp (.cell 128 1) 784 180,.ownp (.cell 128 2) 864 90,.dE [3,4,6,8,25,26,27] [48,64,96,128,400,704,784,864]]else if id=13 then [.dE [6,8] [96,128,704,784,864]]else [])else [])else []))))else(if f<115 then(if f<110 then(if f=108 then(if g=0 then(if id=3 then [.own 7 816 118,.dE [3,4,5,7,13,14,15] [48,64,80,816]]else if id=9 then [.dE [7] [816]]else [])else [])else [])else(if f<111 then(if f=110 then(if g=0 then(if id=5 then [.dE [0,1,4,5,6] [64,80]]else if id=9 then [.dE [4,5] [64,80]]else [])else [])else [])else(if f=111 then(if g=1 then(if id=2 then [.dE [0,1,2,3,4,10,11] [0]]else [])else [])else [])))else(if f<122 then(if f=115 then(if g=0 then(if id=3 then [.dE [3,6,7,8] []]else if id=8 then [.dE [3] []]else [])else [])else [])else(if f<126 then(if f=122 then(if g=0 then(if id=2 then [.dE [0,1,2,9,10] []]else if id=7 then [.dE [0,1,2] []]else [])else [])else [])else(if f=126 then(if g=1 then(if id=2 then [.bumpp (.reg 0),.dE [0] [0]]else if id=4 then [.dE [0,3] [0]]else if id=9 then [.dE [0,3,4,5] [0]]else if id=14 then [.dE [0,3] [0]]else if id=16 then [.bumpp (.reg 0),.dE [0] [0]]else [])else [])else [])))))))else(if f<222 then(if f<166 then(if f<137 then(if f<131 then(if f<130 then(if f=127 then(if g=1 then(if id=2 then [.dE [0,1,2,6,7,8] [0]]else if id=6 then [.dE [0,1,2,6,7] [0]]else if id=7 then [.dE [0,1,2,6] [0]]else if id=9 then [.dE [0,1,2,6,7,8] [0]]else if id=13 then [.dE [0,1,2,6,7] [0]]else [])else [])else [])else(if f=130 then(if g=0 then(if id=2 then [.dE [3,4,9,10,11] [48,64]]else if id=7 then [.dE [4] [64]]else [])else [])else []))else(if f<132 then(if f=131 then(if g=0 then(if id=2 then [.dE [1,4,9,10,11] [64]]else if id=7 then [.dE [4] [64]]else [])else [])else [])else(if f<134 then(if f=132 then(if g=0 then(if id=4 then [.dE [1,2,15,16,17] []]else if id=10 then [.dE [] []]else [])else [])else [])else(if f=134 then(if g=0 then(if id=4 then [.dE [0,1,12,13] []]else if id=9 then [.dE [] []]else [])else [])else []))))else(if f<153 then(if f<143 then(if f=137 then(if g=0 then(if id=6 then [.dE [1,4,5,33,34] [16]]else if id=12 then [.dE [] []]else [])else [])else [])else(if f<144 then(if f=143 then(if g=0 then(if id=10 then [.dE [1,7] [304,368]]else if id=14 then [.frz (.cell 304 11),.dE [7] [304]]else [])else [])else [])else(if f=144 then(if g=0 then(if id=5 then [.dE [4,5,6,7,8,31] [64,80,96,112,128]]else [])else [])else [])))else(if f<156 then(if f=153 then(if g=0 then(if id=3 then [.own 5 304 3,.dE [1,5,8,9,10] [304]]else if id=7 then [.dE [5] [304]]else [])else [])else [])else(if f<165 then(if f=156 then(if g=1 then(if id=1 then [.dE [0,1,2,3,8] [0]]else if id=2 then [.dE [0,1,2,3,8] [0]]else if id=4 then [.dE [0,1,2,3,8,9] [0]]else [])else [])else [])else(if f=165 then(if g=0 then(if id=4 then [.dE [0,2] []]else if id=7 then [.dE [0,2] []]else [])else [])else [])))))else(if f<192 then(if f<176 then(if f<167 then(if f=166 then(if g=0 then(if id=4 then [.dE [2,3,5] [32,48]]else if id=8 then [.dE [] []]else [])else [])else [])else(if f=167 then(if g=0 then(if id=4 then [.dE [0,1,5] []]else if id=8 then [.dE [] []]else [])else [])else []))else(if f<185 then(if f=176 then(if g=1 then(if id=1 then [.dE [0,1,2,3,8] [0]]else if id=2 then [.dE [0,1,2,3,8] [0]]else if id=4 then [.dE [0,1,2,3,8,9] [0]]else [])else [])else [])else(if f<190 then(if f=185 then(if g=0 then(if id=3 then [.dE [1,2,10,11,12] [16,32,112]]else if id=7 then [.dE [1,2] [16,32,112]]else [])else [])else [])else(if f=190 then(if g=2 then(if id=2 then [.dE [0,1,2,6,7,8] [0,1]]else if id=6 then [.dE [0,1,2,6,7] [0,1]]else if id=7 then [.dE [0,1,2,6] [0,1]]else if id=9 then [.dE [0,1,2,6,7,8] [0,1]]else if id=13 then [.dE [0,1,2,6,7] [0,1]]else [])else [])else []))))else(if f<198 then(if f<193 then(if f=192 then(if g=0 then(if id=14 then [.dE [1,38,39,40] [16]]else if id=20 then [.dE [] []]else [])else [])else [])else(if f<195 then(if f=193 then(if g=1 then(if id=5 then [.ownp (.cell 0 11) 80176 249,.mv (.cell 0 11) 90081,.dE [6] [0,90081]]else [])else if g=2 then(if id=5 then [.ownp (.cell 0 11) 80176 249,.bumpp (.cell 0 11),.dE [6] [0,1]]else [])else [])else [])else(if f=195 then(if g=2 then(if id=2 then [.bumpp (.cell 0 11),.dE [] [0,1]]else [])else [])else [])))else(if f<213 then(if f=198 then(if g=0 then(if id=3 then [.dE [2,3,6,16,17,18] [32,48,224]]else if id=10 then [.dE [6] [224]]else [])else [])else [])else(if f<216 then(if f=213 then(if g=0 then(if id=5 then [.dE [2,7,8,9,28,29] [128,144]]else [])else [])else [])else(if f=216 then(if g=0 then(if id=2 then [.dE [0,1,7,8] []]else if id=7 then [.dE [] []]else [])else [])else []))))))else(if f<272 then(if f<240 then(if f<232 then(if f<229 then(if f=222 then(if g=0 then(if id=4 then [.dE [2,3,5] [32,48]]else if id=8 then [.dE [] []]else [])else [])else [])else(if f=229 then(if g=0 then(if id=1 then [.dE [0,1] []]else if id=3 then [.dE [0] []]else [])else [])else []))else(if f<233 then(if f=232 then(if g=0 then(if id=6 then [.fixv 16,.dE [1,3] []]else [])else [])else [])else(if f<238 then(if f=233 then(if g=0 then(if id=3 then [.dE [3,6,7,8] []]else if id=10 then [.dE [3] []]else [])else [])else [])else(if f=238 then(if g=0 then(if id=3 then [.dE [1,2,13,14] [16,32,112]]else if id=7 then [.dE [1,2] [16,32,112]]else [])else [])else []))))else(if f<258 then(if f<251 then(if f=240 then(if g=2 then(if id=1 then [.dE [0,1,2,3,8] [0,1]]else if id=2 then [.dE [0,1,2,3,8] [0,1]]else if id=4 then [.dE [0,1,2,3,8,9] [0,1]]else [])else [])else [])else(if f<256 then(if f=251 then(if g=0 then(if id=7 then [.dE [1,2,6,8,31,32,33] [96,128]]else if id=17 then [.dE [6,8] [96,128]]else [])else [])else [])else(if f=256 then(if g=2 then(if id=2 then [.dE [1,5,6] [0,1]]else if id=7 then [.dE [5] [0,1]]else [])else [])else [])))else(if f<265 then(if f=258 then(if g=0 then(if id=5 then [.dE [0,3,4] []]else if id=10 then [.dE [3] []]else [])else [])else [])else(if f<268 then(if f=265 then(if g=0 then(if id=2 then [.dE [0,1,7,8] []]else if id=7 then [.dE [] []]else [])else [])else [])else(if f=268 then(if g=0 then(if id=3 then [.dE [3,6,7,8] []]else if id=7 then [.dE [3] []]else [])else [])else [])))))else(if f<294 then(if f<275 then(if f<273 then(if f=272 then(if g=0 then(if id=3 then [.dE [1,2,6,18,19,20] [32,272]]else if id=7 then [.dE [1,2,6] [32,272]]else if id=11 then [.dE [1,2,9,10,45,46,47] [32,272]]else if id=17 then [.dE [9,10] []]else [])else [])else [])else(if f<274 then(if f=273 then(if g=2 then(if id=0 then [.dE [0,1] [0,1]]else [])else [])else [])else(if f=274 then(if g=2 then(if id=2 then [.dE [0,1,2,7] [0,1]]else if id=8 then [.dE [0,1,2,7,9] [0,1]]else if id=11 then [.dE [1,7] [0,1]]else [])else [])else [])))else(if f<283 then(if f=275 then(if g=0 then(if id=5 then [.dE [2,3,4,16] [32,48,64]]else [])else [])else [])else(if f<289 then(if f=283 then(if g=0 then(if id=9 then [.dE [0,1,5,6] []]else [])else [])else [])else(if f=289 then(if g=0 then(if id=3 then [.dE [1,2,3,7,11,12,13] [48]]else if id=8 then [.dE [7] []]else [])else [])else []))))else(if f<300 then(if f<297 then(if f=294 then(if g=0 then(if id=3 then [.dE [1,5,16,17,18] [240]]else if id=7 then [.dE [1,5,6,7,8,16,17,18,25,26] [240]]else if id=14 then [.dE [1,5,16,17,18] [240]]else if id=15 then [.dE [5] [240]]else [])else [])else [])else(if f<298 then(if f=297 then(if g=0 then(if id=2 then [.dE [0,1,7,8] []]else if id=7 then [.dE [] []]else [])else [])else [])else(if f=298 then(if g=0 then(if id=4 then [.own 4 240 3,.dE [0,4] [240]]else if id=7 then [.dE [4] [240]]else [])else [])else [])))else(if f<301 then(if f=300 then(if g=0 then(if id=6 then [.own 6 560 3,.dE [0,1,6,7,18,19] [560]]else if id=12 then [.dE [6] [560]]else [])else [])else [])else(if f<303 then(if f=301 then(if g=0 then(if id=1 then [.dE [0] []]else if id=3 then [.dE [0] []]else [])else [])else [])else(if f=303 then(if g=0 then(if id=2 then [.dE [0,1,7,8] []]else if id=7 then [.dE [] []]else [])else [])else [])))))))
instance :EN ai ai.pd:=⟨⟩
instance :EN ag ag.pd:=⟨⟩
instance :EN al al.pd:=⟨⟩
instance :EN bc bc.pd:=⟨⟩
instance :EN bh bh.pd:=⟨⟩
instance :EN bO bO.pd:=⟨⟩
instance :EN ah ah.pd:=⟨⟩
instance :EN bi bi.pd:=⟨⟩
instance :EN cA cA.pd:=⟨⟩
instance :EN bN bN.pd:=⟨⟩
instance :EN bg bg.pd:=⟨⟩
instance :EN bu bu.pd:=⟨⟩
instance :EN az az.pd:=⟨⟩
instance :EN aj aj.pd:=⟨⟩
instance :EN ae ae.pd:=⟨⟩
instance :EN aa aa.pd:=⟨⟩
instance :EN ap ap.pd:=⟨⟩
instance :EN bo bo.pd:=⟨⟩
instance :EN bH bH.pd:=⟨⟩
instance :EN ar ar.pd:=⟨⟩
instance :EN bq bq.pd:=⟨⟩
instance :EN av av.pd:=⟨⟩
instance :EN aw aw.pd:=⟨⟩
instance :EN bz bz.pd:=⟨⟩
instance :EN bB bB.pd:=⟨⟩
instance :EN cx cx.pd:=⟨⟩
instance :EN ak ak.pd:=⟨⟩
instance :EN aq aq.pd:=⟨⟩
instance :EN cm cm.pd:=⟨⟩
instance :EN bD bD.pd:=⟨⟩
instance :EN bC bC.pd:=⟨⟩
instance :EN ey ey.pd:=⟨⟩
instance :EN A4_Int A4_Int.pd:=⟨⟩
instance :EN oJ oJ.pd:=⟨⟩
instance :EN qd qd.pd:=⟨⟩
def bj:Hints:={ at_:=hintAt,mt:=fun f i=>(f==8&&i==28)||(f==12&&i==16)||(f==39&&i==17)||(f==46&&i==38)||(f==126&&i==59)||(f==327&&i==19),by_:=fun f i=>(f==55&&i==0)||(f==87&&i==0)||(f==90&&i==0)||(f==100&&i==0)||(f==104&&i==0)||(f==105&&i==0)||(f==111&&i==0)||(f==126&&i==0)||(f==127&&i==0)||(f==140&&i==0)||(f==156&&i==0)||(f==176&&i==0)||(f==190&&i==0)||(f==240&&i==0)||(f==326&&i==0),own:=fun f i=>(f==39&&i==0)||(f==66&&i==0)||(f==70&&i==0)||(f==71&&i==0)||(f==72&&i==0)||(f==73&&i==0)||(f==80&&i==0)||(f==86&&i==0)||(f==98&&i==0)||(f==126&&i==0)||(f==185&&i==0) }
@[reducible] def gI(g f id:Nat)(R:List (Nat×RV))(B:List (Nat×Box))(k:List (Nat×RV))(j:List (Nat×Box)):Prop:=ry prog g (A k j) (bj.at_ f g id)=some (A R B)
@[reducible] def gX(x k f id:Nat)(R:List (Nat×RV))(B:List (Nat×Box))(e:Ex)(j:List (Nat×RV))(g:List (Nat×Box)):Prop:=e= .exit x∧gI k f id R B j g
@[reducible] def gF(f:Nat)(fn:Func)(k:Nat)(x:RV×List Box)(e:Ex)(j:List (Nat×RV))(g:List (Nat×Box)):Prop:=e= .ret∧finish prog (bj.own f) fn k (A j g)=some x
theorem eqE_70(a b:aa):xH prog .eql 70 (.d a.pd) (.d b.pd)=some (.bool (((a.a7.bI==b.a7.bI)&&((a.a7.bw==b.a7.bw)&&((a.a7.ba==b.a7.ba)&&((a.a7.bL==b.a7.bL)&&true))))&&((a.bS==b.bS)&&((a.bv==b.bv)&&((a.cg==b.cg)&&((a.bG==b.bG)&&((a.bT==b.bT)&&true)))))),true):=by kernel_rfl
theorem eqN_70(a b:aa):xH prog .neq 70 (.d a.pd) (.d b.pd)=some (.bool (!(((a.a7.bI==b.a7.bI)&&((a.a7.bw==b.a7.bw)&&((a.a7.ba==b.a7.ba)&&((a.a7.bL==b.a7.bL)&&true))))&&((a.bS==b.bS)&&((a.bv==b.bv)&&((a.cg==b.cg)&&((a.bG==b.bG)&&((a.bT==b.bT)&&true))))))),true):=by kernel_rfl
theorem mi(a b:bN):xH prog .eql 147 (.d a.pd) (.d b.pd)=some (.bool ((a.a0==b.a0)&&((a.a1==b.a1)&&((a.a2==b.a2)&&true))),true):=by kernel_rfl
theorem keyT_70 : KeyT prog 70 aa.pd oB := ⟨fun a b => by kernel_rfl, fun a => by kernel_rfl, fun a b h => by
  simp only [oB,Bool.and_eq_true,beq_iff_eq]at h
  simp [aa.pd,xe,wF,wE,h]⟩
theorem pz:∀x y:aa,x.pd=y.pd->x=y:=by
  rintro⟨⟨B,z2,z3,z4⟩,z5,C,D,E,z9⟩ ⟨⟨f,g,z12,j⟩,k,q,r,z17,u⟩ h
  cases h;rfl
def ext0:FuncId->Option rA:=fun _=>none
theorem nj{a0:(List UInt8)}{r:Bool}(h:iE a0=some r):EvP prog bj ext0 175 [rS a0] [] (rB r,[]):=by
 refine Ev.body Z Tryz.func175 Z Zk<|gU Z<|sU<|sN<|gU Z<|mM Z<|sV (rB (!(a0==a0)))<|sA Z<|sN<|qR ?_
 exact oI h▸qD
theorem fS{a0:(List UInt8)}{a1:(List UInt8)}{r:Int}(h:dz a0 a1=some r):EvP prog bj ext0 125 [rS a0,rS a1] [] (rI r,[]):=by
 refine Ev.body Z Tryz.func125 Z Zk<|gU Z<|sV (r0)<|sN<|gU Z<|sM Z<|bE h fun g h1 h=>cD (nj h1)<|sA Z<|sN<|gU Z<|sM Z<|bE h fun j f h=>cD (nj f)<|sA Z ?_
 refine sN<|qS<|gU Z<|sF h ?_ ?_<;>intro h
 ·refine sN<|cT<|qS<|gU Z<|sF h ?_ ?_<;>intro h
  ·refine sN<|cT<|gU Z<|sV (r0)<|sN<|qR ?_
   exact oI h▸qD
  refine sN<|cF<|qK<|gU Z<|sV (rI (-1))<|sN<|qR ?_
  exact oI h▸qD
 refine sN<|cF<|qK<|qS<|gU Z<|sF h ?_ ?_<;>intro h
 ·refine sN<|cT<|gU Z<|sV (rI 1)<|sN<|qR ?_
  exact oI h▸qD
 refine sN<|cF<|qK<|qS<|gU Z<|mM Z<|sF h ?_ ?_<;>intro h
 ·refine sN<|cT<|gU Z<|sV (rI (-1))<|sN<|qR ?_
  exact oI h▸qD
 refine sN<|cF<|qK<|qS<|gU Z<|mM Z<|sF h ?_ ?_<;>intro h
 ·refine sN<|cT<|gU Z<|sV (rI 1)<|sN<|qR ?_
  exact oI h▸qD
 refine sN<|cF<|qK<|gU Z<|sV (r0)<|sN<|qR ?_
 exact oI h▸qD
theorem pB{a0:(List Int)}{r:Int}(h:dC a0=some r):EvP prog bj ext0 115 [rL a0] [] (rI r,[]):=by
 refine Ev.body Z Tryz.func115 Z Zk<|gU Z<|sV (r0)<|sN<|gU Z<|sV (r0)<|sN<|qS<|gU Z<|sM Z<|sE (rI (a0.length:Int)) (sb _ _)<|sV (r0)<|sN<|bE h fun B g h=>F1 (F2 (WL.rG g (fun s=>gI 0 115 3 [(3,r0),(6,rL a0),(7,rI (a0.length:Int)),(8,rI s)] []) (fun o=>match o with| .inl y=>gX 0 0 115 8 [(3,r0)] []| .inr r=>gF 115 Tryz.f115 0 (rI r,[])) Z ?_ ?_))
 ·rintro s1 q k C f h
  refine gS Z f<|sF h ?_ ?_<;>intro h
  ·refine sN<|qS<|cT<|qK<|qS<|qB<|gU Z<|bE h fun E u h=>eG u Z<|sC Z<|sA Z<|sN<|gU Z<|sM Z<|sM Z ?_
   refine sF h ?_ ?_<;>intro h
   ·refine sN<|cT<|gU Z<|sM Z<|sA Z<|sN<|qR ?_
    cases oI h
    exact⟨nofun,rfl,rfl⟩
   refine sN<|cF<|qK<|F4 Z Z<|sV (rI (rW (s1+(1:Int))))<|sM Z<|sN ?_
   cases oI h
   exact⟨rfl,rfl⟩
  refine sN<|qS<|cF<|qX ?_
  cases oI h
  exact⟨nofun,rfl,rfl⟩
 intro e q k he j
 rcases B with F|D
 ·obtain⟨rfl,f⟩:=j
  refine qE<|gS Z f<|sM Z<|sA Z<|sN<|qR ?_
  exact oI h▸qD
 obtain⟨rfl,hf⟩:=j
 cases oI h
 exact hf
theorem qO{a0:bi}{a1:bi}{r:Int}(h:jb a0 a1=some r):EvP prog bj ext0 85 [.d (bi.pd a0),.d (bi.pd a1)] [] (rI r,[]):=by
 refine Ev.body Z Tryz.func85 Z Zk<|gU Z<|sB (.ptr 32 0) 32 (.var (bi.rc a0))<|sB (.ptr 48 0) 48 (.var (bi.rc a1))<|sV (r0)<|sN<|F3 Z Z<|sV (.ptr 32 0)<|sL Z<|sV (.ptr 48 0)<|sL Z<|bE h fun q h1 h=>cD (fS h1)<|sV (.ptr 32 1)<|sL Z ?_
 refine sV (.ptr 48 1)<|sL Z<|bE h fun u f h=>cD (fS f)<|sV (.ptr 32 2)<|sL Z<|sV (.ptr 48 2)<|sL Z<|bE h fun B g h=>cD (fS g)<|sV (.ptr 32 3)<|sL Z<|sV (.ptr 48 3)<|sL Z<|bE h fun C j h=>?_
 refine cD (fS j)<|sV (.d (.lst ([q,u,B,C].map (PD.int .i64))))<|bE h fun D k h=>cD (pB k)<|sA Z ?_
 refine sN<|sO<|qR ?_
 exact oI h▸qD
theorem oc{a0:Int}{r:Bool}(h:lu a0=some r):EvP prog bj ext0 128 [rI a0] [] (rB r,[]):=by
 refine Ev.body Z Tryz.func128 Z Zk<|gU Z<|sU<|sN<|gU Z<|mM Z<|sV (rB (a0 != a0))<|sA Z<|sN<|qR ?_
 exact oI h▸qD
theorem fO{a0:Int}{a1:Int}{r:Int}(h:cb a0 a1=some r):EvP prog bj ext0 89 [rI a0,rI a1] [] (rI r,[]):=by
 refine Ev.body Z Tryz.func89 Z Zk<|gU Z<|sV (r0)<|sN<|gU Z<|sM Z<|bE h fun g h1 h=>cD (oc h1)<|sA Z<|sN<|gU Z<|sM Z<|bE h fun j f h=>cD (oc f)<|sA Z ?_
 refine sN<|qS<|gU Z<|sF h ?_ ?_<;>intro h
 ·refine sN<|cT<|qS<|gU Z<|sF h ?_ ?_<;>intro h
  ·refine sN<|cT<|gU Z<|sV (r0)<|sN<|qR ?_
   exact oI h▸qD
  refine sN<|cF<|qK<|gU Z<|sV (rI (-1))<|sN<|qR ?_
  exact oI h▸qD
 refine sN<|cF<|qK<|qS<|gU Z<|sF h ?_ ?_<;>intro h
 ·refine sN<|cT<|gU Z<|sV (rI 1)<|sN<|qR ?_
  exact oI h▸qD
 refine sN<|cF<|qK<|qS<|gU Z<|mM Z<|sF h ?_ ?_<;>intro h
 ·refine sN<|cT<|gU Z<|sV (rI (-1))<|sN<|qR ?_
  exact oI h▸qD
 refine sN<|cF<|qK<|qS<|gU Z<|mM Z<|sF h ?_ ?_<;>intro h
 ·refine sN<|cT<|gU Z<|sV (rI 1)<|sN<|qR ?_
  exact oI h▸qD
 refine sN<|cF<|qK<|gU Z<|sV (r0)<|sN<|qR ?_
 exact oI h▸qD
theorem qJ{a0:aa}{a1:aa}{r:Int}(h:cN a0 a1=some r):EvP prog bj ext0 91 [.d (aa.pd a0),.d (aa.pd a1)] [] (rI r,[]):=by
 refine Ev.body Z Tryz.func91 Z Zk<|gU Z<|sB (.ptr 32 0) 32 (.var (aa.rc a0))<|sB (.ptr 48 0) 48 (.var (aa.rc a1))<|sV (r0)<|sN<|F3 Z Z<|sV (.ptr 32 0)<|sV (.d (bi.pd a0.a7))<|sV (.ptr 48 0)<|sV (.d (bi.pd a1.a7))<|bE h fun B h1 h=>cD (qO h1)<|sV (.ptr 32 4)<|sL Z ?_
 refine sV (.ptr 48 4)<|sL Z<|bE h fun C f h=>cD (fO f)<|sV (.ptr 32 5)<|sL Z<|sV (.ptr 48 5)<|sL Z<|bE h fun D g h=>cD (fO g)<|sV (.ptr 32 6)<|sL Z<|sV (.ptr 48 6)<|sL Z<|bE h fun E j h=>?_
 refine cD (fO j)<|sV (.ptr 32 7)<|sL Z<|sV (.ptr 48 7)<|sL Z<|bE h fun F k h=>cD (fO k)<|sV (.ptr 32 8)<|sL Z<|sV (.ptr 48 8)<|sL Z<|bE h fun G q h=>cD (fO q)<|sV (.d (.lst ([B,C,D,E,F,G].map (PD.int .i64))))<|bE h fun H u h=>?_
 refine cD (pB u)<|sA Z ?_
 refine sN<|sO<|qR ?_
 cases oI h
 exact qG
noncomputable def ext:FuncId->Option rA:=fun f=>if f=90 then some (B6 91 70 aa.pd cN)else if f=73 then some (wh 70 9 104)else if f=70 then some (wh 3 1 8)else if f=71 then some (wh 90 8 80)else if f=72 then some (wh 149 10 96)else if f=80 then some (wh 122 25 248)else if f=105 then some (yP 3)else if f=41 then some (yB (fun l=>.lst (l.map aa.pd)) keyO)else none
theorem sort_90_91{l r:List aa}(h:wO cN l=some r):EvP prog bj ext 90 [.ref 0 0,.d (.raw (.func (.func 91) #[] #[]))] [.arr 0 70 (l.map aa.pd)] (.tup [],[.arr 0 70 (r.map aa.pd)]):=sort_ev rfl (sortD_of pz h)
instance {l:List aa}:CE prog bj ext (wO cN l) 90 [.ref 0 0,.d (.raw (.func (.func 91) #[] #[]))] [.arr 0 70 (l.map aa.pd)] fun r=>(.tup [],[.arr 0 70 (r.map aa.pd)]):=⟨fun h=>sort_90_91 h⟩
theorem sortI_105{l r:List Int}(h:tR l=some r):EvP prog bj ext 105 [.ref 0 0] [.arr 0 3 (l.map (PD.int .i64))] (.tup [],[.arr 0 3 (r.map (PD.int .i64))]):=sortI_ev rfl h
instance {l:List Int}:CE prog bj ext (tR l) 105 [.ref 0 0] [.arr 0 3 (l.map (PD.int .i64))] fun r=>(.tup [],[.arr 0 3 (r.map (PD.int .i64))]):=⟨fun h=>sortI_105 h⟩
theorem clone_73{l r:List aa}(h:rV 104 l=some r):EvP prog bj ext 73 [rM aa.pd l] [] (.ref 0 0,[.arr 0 70 (r.map aa.pd)]):=wY (g:=aa.pd) rfl (fun _=>rfl) h
instance {l:List aa}:CE prog bj ext (rV 104 l) 73 [rM aa.pd l] [] fun r=>(.ref 0 0,[.arr 0 70 (r.map aa.pd)]):=⟨fun h=>clone_73 h⟩
theorem oz{l r:List Int}(h:rV 8 l=some r):EvP prog bj ext 70 [rL l] [] (.ref 0 0,[.arr 0 3 (r.map (PD.int .i64))]):=wY (g:=(PD.int .i64)) rfl (fun _=>rfl) h
instance {l:List Int}:CE prog bj ext (rV 8 l) 70 [rL l] [] fun r=>(.ref 0 0,[.arr 0 3 (r.map (PD.int .i64))]):=⟨fun h=>oz h⟩
theorem clone_71{l r:List az}(h:rV 80 l=some r):EvP prog bj ext 71 [rM az.pd l] [] (.ref 0 0,[.arr 0 90 (r.map az.pd)]):=wY (g:=az.pd) rfl (fun _=>rfl) h
instance {l:List az}:CE prog bj ext (rV 80 l) 71 [rM az.pd l] [] fun r=>(.ref 0 0,[.arr 0 90 (r.map az.pd)]):=⟨fun h=>clone_71 h⟩
theorem clone_72{l r:List bg}(h:rV 96 l=some r):EvP prog bj ext 72 [rM bg.pd l] [] (.ref 0 0,[.arr 0 149 (r.map bg.pd)]):=wY (g:=bg.pd) rfl (fun _=>rfl) h
instance {l:List bg}:CE prog bj ext (rV 96 l) 72 [rM bg.pd l] [] fun r=>(.ref 0 0,[.arr 0 149 (r.map bg.pd)]):=⟨fun h=>clone_72 h⟩
theorem clone_80{l r:List ar}(h:rV 248 l=some r):EvP prog bj ext 80 [rM ar.pd l] [] (.ref 0 0,[.arr 0 122 (r.map ar.pd)]):=wY (g:=ar.pd) rfl (fun _=>rfl) h
instance {l:List ar}:CE prog bj ext (rV 248 l) 80 [rM ar.pd l] [] fun r=>(.ref 0 0,[.arr 0 122 (r.map ar.pd)]):=⟨fun h=>clone_80 h⟩
section
attribute [local irreducible] HM HU HF HB WO WC QS QB tO
instance {a0:(List Int)}:CE prog bj ext (ko a0) 6 [rL a0] [] fun r=>(.ptr 0 0,[.var (ai.rc r)]):=⟨fun h=>Ev.au h Tryz.func6⟩
instance {d0:ai}:CE prog bj ext (Src_Raw d0) 37 [.ptr 0 0] [.var (ai.rc d0)] fun r=>(rI r.1,[.var (ai.rc r.2)]):=⟨fun h=>Ev.au h Tryz.func37⟩
instance {a0:Int}{a1:Int}:CE prog bj ext (pG a0 a1) 36 [rI a0,rI a1] [] fun r=>(rI r,[]):=⟨fun h=>Ev.au h Tryz.func36⟩
instance {a1:Int}{d0:ai}:CE prog bj ext (dm a1 d0) 11 [.ptr 0 0,rI a1] [.var (ai.rc d0)] fun r=>(rI r.1,[.var (ai.rc r.2)]):=⟨fun h=>Ev.au h Tryz.func11⟩
instance {a1:Int}{d0:ai}:CE prog bj ext (mN a1 d0) 31 [.ptr 0 0,rI a1] [.var (ai.rc d0)] fun r=>(.d (ag.pd r.1),[.var (ai.rc r.2)]):=⟨fun h=>Ev.au h Tryz.func31⟩
instance {a1:Int}{a2:Int}{d0:ai}:CE prog bj ext (oN a1 a2 d0) 65 [.ptr 0 0,rI a1,rI a2] [.var (ai.rc d0)] fun r=>(.d (al.pd r.1),[.var (ai.rc r.2)]):=⟨fun h=>Ev.au h Tryz.func65⟩
instance {a1:(List Int)}{d0:ai}:CE prog bj ext (dY a1 d0) 30 [.ptr 0 0,rL a1] [.var (ai.rc d0)] fun r=>(rI r.1,[.var (ai.rc r.2)]):=⟨fun h=>Ev.au h Tryz.func30⟩
instance {f:Int×ai}:LI (lq f) 4 (fun s=>[(4,rI s.1),(5,rI s.2.1),(6,rI s.2.2.1)]) (fun s=>[(0,.var [rL s.2.2.2.1,rI s.2.2.2.2.1]),(432,.arr 0 3 (s.2.2.2.2.2.1.map (PD.int .i64))),(512,.arr 0 3 (s.2.2.2.2.2.2.map (PD.int .i64)))]) (jX 9 (fun o=>[]) fun o=>[(0,.var [rL o.1,rI o.2.1]),(432,.arr 0 3 (o.2.2.1.map (PD.int .i64))),(512,.arr 0 3 (o.2.2.2.map (PD.int .i64)))]):=⟨⟩
instance {d0:ai}:CE prog bj ext (kM d0) 66 [.ptr 0 0] [.var (ai.rc d0)] fun r=>(.agg [rI r.1.bR,.ref 1 0,.ref 2 0],[.var (ai.rc r.2),.arr 0 3 (r.1.bt.map (PD.int .i64)),.arr 0 3 (r.1.bd.map (PD.int .i64))]):=⟨fun h=>Ev.au h Tryz.func66⟩
instance {a1:Int}{d0:ai}:CE prog bj ext (eQ a1 d0) 28 [.ptr 0 0,rI a1] [.var (ai.rc d0)] fun r=>(.d (bh.pd r.1),[.var (ai.rc r.2)]):=⟨fun h=>Ev.au h Tryz.func28⟩
instance {f:bc×ai}:LI (lm f) 3 (fun s=>[(17,rI s.1)]) (fun s=>[(96,.arr 0 3 (s.2.1.map (PD.int .i64))),(97,.arr 0 3 (s.2.2.map (PD.int .i64)))]) (jX 7 (fun o=>[]) fun o=>[(96,.arr 0 3 (o.1.map (PD.int .i64))),(97,.arr 0 3 (o.2.map (PD.int .i64)))]):=⟨⟩
instance {d0:ai}:CE prog bj ext (lT d0) 29 [.ptr 0 0] [.var (ai.rc d0)] fun r=>(.d (bO.pd r.1),[.var (ai.rc r.2)]):=⟨fun h=>Ev.au h Tryz.func29⟩
instance {a1:Int}{d0:ai}:CE prog bj ext (dL a1 d0) 7 [.ptr 0 0,rI a1] [.var (ai.rc d0)] fun r=>(.d (ah.pd r.1),[.var (ai.rc r.2)]):=⟨fun h=>Ev.au h Tryz.func7⟩
instance :LI (kL) 3 (fun s=>[(4,rI s.1)]) (fun s=>[(0,.var [rL s.2.1,rI s.2.2.1]),(1040,.arr 0 149 (s.2.2.2.map bg.pd))]) (jX 13 (fun o=>[]) fun o=>[(0,.var [rL o.1,rI o.2.1]),(1040,.arr 0 149 (o.2.2.map bg.pd))]):=⟨⟩
instance {d0:ai}:CE prog bj ext (gN d0) 32 [.ptr 0 0] [.var (ai.rc d0)] fun r=>(.d (bu.pd r.1),[.var (ai.rc r.2)]):=⟨fun h=>Ev.au h Tryz.func32⟩
instance {a0:Int}:CE prog bj ext (gc a0) 21 [rI a0] [] fun r=>(.d (bi.pd r),[]):=⟨fun h=>Ev.au h Tryz.func21⟩
instance {a1:Int}:LI (lp a1) 3 (fun s=>[(6,rI s.1)]) (fun s=>[(0,.var [rL s.2.1,rI s.2.2.1]),(1104,.arr 0 93 (s.2.2.2.map aj.pd))]) (jX 16 (fun o=>[]) fun o=>[(0,.var [rL o.1,rI o.2.1]),(1104,.arr 0 93 (o.2.2.map aj.pd))]):=⟨⟩
instance {a1:Int}{d0:ai}:CE prog bj ext (gH a1 d0) 8 [.ptr 0 0,rI a1] [.var (ai.rc d0)] fun r=>(.d (ae.pd r.1),[.var (ai.rc r.2)]):=⟨fun h=>Ev.au h Tryz.func8⟩
instance {a1:Int}{a2:Int}{d0:ai}:CE prog bj ext (nL a1 a2 d0) 67 [.ptr 0 0,rI a1,rI a2] [.var (ai.rc d0)] fun r=>(rI r.1,[.var (ai.rc r.2)]):=⟨fun h=>Ev.au h Tryz.func67⟩
instance {a1:al}{d0:ai}:CE prog bj ext (ow a1 d0) 33 [.ptr 0 0,.d (al.pd a1)] [.var (ai.rc d0)] fun r=>(.d (ag.pd r.1),[.var (ai.rc r.2)]):=⟨fun h=>Ev.au h Tryz.func33⟩
instance {a0:ae}{a1:bi}{a2:Int}:LI (nU a0 a1 a2) 2 (fun s=>[(15,rI s)]) (fun s=>[]) (jY 11 (fun y=>[]) (fun y=>[]) Tryz.f34 fun r=>(.tup [.d (ag.pd r.1),rB r.2],[])):=⟨⟩
instance {f:aj}{a1:bi}{a2:Int}{s1:Int}:LI (nT f a1 a2 s1) 5 (fun s=>[(22,rI s)]) (fun s=>[]) (jY 10 (fun y=>[(15,rI y)]) (fun y=>[]) Tryz.f34 fun r=>(.tup [.d (ag.pd r.1),rB r.2],[])):=⟨⟩
instance {a0:ae}{a1:bi}{a2:Int}:CE prog bj ext (oV a0 a1 a2) 34 [.d (ae.pd a0),.d (bi.pd a1),rI a2] [] fun r=>(.tup [.d (ag.pd r.1),rB r.2],[]):=⟨fun h=>Ev.au h Tryz.func34⟩
instance {a0:Int}:CE prog bj ext (qi a0) 35 [rI a0] [] fun r=>(rI r,[]):=⟨fun h=>Ev.au h Tryz.func35⟩
instance {a1:ah}{a2:ae}:LI (ol a1 a2) 4 (fun s=>[(11,rI s.1),(12,rI s.2.1)]) (fun s=>[(0,.var [rL s.2.2.1,rI s.2.2.2.1]),(160,.var [rI s.2.2.2.2.2.1,rI s.2.2.2.2.2.2.1,rI s.2.2.2.2.2.2.2]),(2192,.arr 0 70 (s.2.2.2.2.1.map aa.pd))]) (jX 21 (fun o=>[]) fun o=>[(0,.var [rL o.2.1,rI o.2.2]),(2192,.arr 0 70 (o.1.map aa.pd))]):=⟨⟩
instance {j:ag×Bool}{u:Int}{f:Int}{g:Int}{k:Int}{q:Int}{r:(List aa)}:LI (m6 j u f g k q r) 12 (fun s=>[(16,rI s)]) (fun s=>[]) (jX 14 (fun o=>[(11,rI o.1),(12,rI o.2.1),(16,rI o.2.2.1)]) fun o=>[(160,.var [rI o.2.2.2.2.1,rI o.2.2.2.2.2.1,rI o.2.2.2.2.2.2]),(2192,.arr 0 70 (o.2.2.2.1.map aa.pd))]):=⟨⟩
instance {a1:ah}{a2:ae}{a3:Int}{d0:ai}:CE prog bj ext (kK a1 a2 a3 d0) 9 [.ptr 0 0,.d (ah.pd a1),.d (ae.pd a2),rI a3] [.var (ai.rc d0)] fun r=>(rM aa.pd r.1,[.var (ai.rc r.2)]):=⟨fun h=>Ev.au h Tryz.func9⟩
instance {a0:ag}:CE prog bj ext (bX a0) 187 [.d (ag.pd a0)] [] fun r=>(.d (bN.pd r),[]):=⟨fun h=>Ev.au h Tryz.func187⟩
instance {a0:ag}:CE prog bj ext (dZ a0) 186 [.d (ag.pd a0)] [] fun r=>(rB r,[]):=⟨fun h=>Ev.au h Tryz.func186⟩
instance {a0:al}:CE prog bj ext (cp a0) 136 [.d (al.pd a0)] [] fun r=>(rB r,[]):=⟨fun h=>Ev.au h Tryz.func136⟩
instance {a0:bc}:LI (lj a0) 6 (fun s=>[(4,rI s.1),(5,rI s.2.1),(34,rI s.2.2)]) (fun s=>[]) (jY 12 (fun y=>[]) (fun y=>[]) Tryz.f137 fun r=>(rI r,[])):=⟨⟩
instance {a0:bc}:CE prog bj ext (ed a0) 137 [.d (bc.pd a0)] [] fun r=>(rI r,[]):=⟨fun h=>Ev.au h Tryz.func137⟩
instance {a0:Int}{a1:Int}{a2:Int}:CE prog bj ext (fi a0 a1 a2) 138 [rI a0,rI a1,rI a2] [] fun r=>(rB r,[]):=⟨fun h=>Ev.au h Tryz.func138⟩
instance {a0:aw}:CE prog bj ext (ge a0) 188 [.d (aw.pd a0)] [] fun r=>(rB r,[]):=⟨fun h=>Ev.au h Tryz.func188⟩
instance {a0:Int}{a1:Int}{a2:Int}:CE prog bj ext (gh a0 a1 a2) 214 [rI a0,rI a1,rI a2] [] fun r=>(rI r,[]):=⟨fun h=>Ev.au h Tryz.func214⟩
instance {a0:al}{a1:ag}:CE prog bj ext (jk a0 a1) 213 [.d (al.pd a0),.d (ag.pd a1),.d (.raw (.func (.func 214) #[] #[]))] [] fun r=>(rI r,[]):=⟨fun h=>Ev.au h Tryz.func213⟩
instance {a0:al}{a1:ag}:CE prog bj ext (f8 a0 a1) 149 [.d (al.pd a0),.d (ag.pd a1)] [] fun r=>(rI r,[]):=⟨fun h=>Ev.au h Tryz.func149⟩
instance {a0:Int}{a1:Int}{a2:Int}:CE prog bj ext (fH a0 a1 a2) 215 [rI a0,rI a1,rI a2] [] fun r=>(rI r,[]):=⟨fun h=>Ev.au h Tryz.func215⟩
instance {a0:al}{a1:ag}:CE prog bj ext (iF a0 a1) 213 [.d (al.pd a0),.d (ag.pd a1),.d (.raw (.func (.func 215) #[] #[]))] [] fun r=>(rI r,[]):=⟨fun h=>Ev.au h Tryz.func213⟩
instance {a0:al}{a1:ag}:CE prog bj ext (ji a0 a1) 150 [.d (al.pd a0),.d (ag.pd a1)] [] fun r=>(rI r,[]):=⟨fun h=>Ev.au h Tryz.func150⟩
instance {a0:bc}{a1:al}{a2:ag}:CE prog bj ext (m7 a0 a1 a2) 239 [.d (bc.pd a0),.d (al.pd a1),.d (ag.pd a2)] [] fun r=>(.tup [.d (bc.pd r.1),rI r.2.1,rI r.2.2],[]):=⟨fun h=>Ev.au h Tryz.func239⟩
instance {a0:Int}:CE prog bj ext (nQ a0) 165 [.d (.int .u64 a0)] [] fun r=>(rI r,[]):=⟨fun h=>Ev.au h Tryz.func165⟩
instance {a0:Int}:CE prog bj ext (gP a0) 112 [.d (.int .u64 a0)] [] fun r=>(rI r,[]):=⟨fun h=>Ev.au h Tryz.func112⟩
instance {a0:Int}:LI (jj a0) 5 (fun s=>[(3,rI s.1),(4,rI s.2)]) (fun s=>[]) (jX 10 (fun o=>[(3,rI o)]) fun o=>[]):=⟨⟩
instance {a0:Int}:CE prog bj ext (kl a0) 258 [rI a0] [] fun r=>(rI r,[]):=⟨fun h=>Ev.au h Tryz.func258⟩
instance {a0:Int}:CE prog bj ext (m8 a0) 254 [rI a0] [] fun r=>(rI r,[]):=⟨fun h=>Ev.au h Tryz.func254⟩
instance {a0:bc}:CE prog bj ext (nJ a0) 255 [.d (bc.pd a0)] [] fun r=>(rI r,[]):=⟨fun h=>Ev.au h Tryz.func255⟩
instance {a0:Int}{d0:bc}{d1:Int}:CE prog bj ext (iD a0 d0 d1) 257 [rI a0,.ptr 0 0,.ptr 1 0] [.var (bc.rc d0),.var [rI d1]] fun r=>(rB r,[.var (bc.rc d0),.var [rI d1]]):=⟨fun h=>Ev.au h Tryz.func257⟩
instance {d0:bc}{d1:Int}:LI (iC d0 d1) 2 (fun s=>[(5,rI s.1),(6,rI s.2)]) (fun s=>[]) (jX 7 (fun o=>[(5,rI o)]) fun o=>[]):=⟨⟩
instance {a0:Int}{d0:bc}{d1:Int}:CE prog bj ext (gj a0 d0 d1) 256 [rI a0,.clo 257 [.ptr 0 0,.ptr 1 0]] [.var (bc.rc d0),.var [rI d1]] fun r=>(rI r,[.var (bc.rc d0),.var [rI d1]]):=⟨fun h=>Ev.au h Tryz.func256⟩
instance {a0:bc}{a1:Int}{a2:Int}:CE prog bj ext (dh a0 a1 a2) 209 [.d (bc.pd a0),rI a1,rI a2] [] fun r=>(.tup [rI r.1,rI r.2.1,rI r.2.2],[]):=⟨fun h=>Ev.au h Tryz.func209⟩
instance {a0:bc}{a1:al}{a2:ag}:CE prog bj ext (mf a0 a1 a2) 189 [.d (bc.pd a0),.d (al.pd a1),.d (ag.pd a2)] [] fun r=>(.tup [rI r.1,rI r.2.1,rI r.2.2],[]):=⟨fun h=>Ev.au h Tryz.func189⟩
instance {a0:bc}{a1:al}{a2:aw}:CE prog bj ext (eD a0 a1 a2) 139 [.d (bc.pd a0),.d (al.pd a1),.d (aw.pd a2)] [] fun r=>(.tup [.d (bz.pd r.1),rI r.2],[]):=⟨fun h=>Ev.au h Tryz.func139⟩
instance {a1:(List aw)}{a0:bh}:LI (dl a1 a0) 6 (fun s=>[(54,rI s)]) (fun s=>[]) (jY 12 (fun y=>[]) (fun y=>[]) Tryz.f96 fun r=>(rI r,[])):=⟨⟩
instance {a0:bh}{a1:(List aw)}:CE prog bj ext (ef a0 a1) 96 [.d (bh.pd a0),rM aw.pd a1] [] fun r=>(rI r,[]):=⟨fun h=>Ev.au h Tryz.func96⟩
instance {a0:bO}:CE prog bj ext (dG a0) 117 [.d (bO.pd a0)] [] fun r=>(rB r,[]):=⟨fun h=>Ev.au h Tryz.func117⟩
instance {a0:ah}:CE prog bj ext (eH a0) 68 [.d (ah.pd a0)] [] fun r=>(rI r,[]):=⟨fun h=>Ev.au h Tryz.func68⟩
instance {a0:Int}:CE prog bj ext (nI a0) 172 [.d (.int .u8 a0)] [] fun r=>(rB r,[]):=⟨fun h=>Ev.au h Tryz.func172⟩
instance {a0:(List UInt8)}:LI (kJ a0) 2 (fun s=>[(10,rI s)]) (fun s=>[]) (jY 7 (fun y=>[]) (fun y=>[]) Tryz.f122 fun r=>(rB r,[])):=⟨⟩
instance {a0:(List UInt8)}{a1:Int}{a2:Int}:CE prog bj ext (kH a0 a1 a2) 122 [rS a0,rI a1,rI a2] [] fun r=>(rB r,[]):=⟨fun h=>Ev.au h Tryz.func122⟩
instance {a0:bi}:CE prog bj ext (mH a0) 83 [.d (bi.pd a0)] [] fun r=>(rB r,[]):=⟨fun h=>Ev.au h Tryz.func83⟩
instance {a0:Int}{a1:Int}{a2:Int}:CE prog bj ext (rate_in a0 a1 a2) 228 [rI a0,rI a1,rI a2] [] fun r=>(rB r,[]):=⟨fun h=>Ev.au h Tryz.func228⟩
instance :LI (rate_gcd_l7) 1 (fun s=>[(0,rI s.1),(1,rI s.2)]) (fun s=>[]) (jX 3 (fun o=>[(0,rI o)]) fun o=>[]):=⟨⟩
instance {a0:Int}{a1:Int}:CE prog bj ext (rate_gcd a0 a1) 229 [rI a0,rI a1] [] fun r=>(rI r,[]):=⟨fun h=>Ev.au h Tryz.func229⟩
instance {a0:cA}:CE prog bj ext (oY a0) 173 [.d (cA.pd a0)] [] fun r=>(rB r,[]):=⟨fun h=>Ev.au h Tryz.func173⟩
instance {a0:Int}{a1:Int}{a2:Int}:CE prog bj ext (cO a0 a1 a2) 266 [rI a0,rI a1,rI a2] [] fun r=>(rB r,[]):=⟨fun h=>Ev.au h Tryz.func266⟩
instance {a0:Int}:CE prog bj ext (lf a0) 287 [rI a0] [] fun r=>(rB r,[]):=⟨fun h=>Ev.au h Tryz.func287⟩
instance {a0:(List Int)}:LI (ec a0) 2 (fun s=>[(8,rI s)]) (fun s=>[]) (jY 7 (fun y=>[]) (fun y=>[]) Tryz.f297 fun r=>(rI r,[])):=⟨⟩
instance {a0:(List Int)}:CE prog bj ext (gG a0) 297 [rL a0,.d (.raw (.func (.func 287) #[] #[]))] [] fun r=>(rI r,[]):=⟨fun h=>Ev.au h Tryz.func297⟩
instance {a0:(List Int)}:CE prog bj ext (fM a0) 286 [rL a0,.d (.raw (.func (.func 287) #[] #[]))] [] fun r=>(rB r,[]):=⟨fun h=>Ev.au h Tryz.func286⟩
instance {a0:(List Int)}:CE prog bj ext (dI a0) 267 [rL a0] [] fun r=>(rB r,[]):=⟨fun h=>Ev.au h Tryz.func267⟩
instance {a0:(List Int)}:LI (nv a0) 3 (fun s=>[(3,rI s.1),(8,rI s.2)]) (fun s=>[]) (jX 7 (fun o=>[(3,rI o)]) fun o=>[]):=⟨⟩
instance {a0:(List Int)}:CE prog bj ext (fU a0) 268 [rL a0] [] fun r=>(rI r,[]):=⟨fun h=>Ev.au h Tryz.func268⟩
end
theorem pc{a0:bg}{r:Bool}(h:dU a0=some r):EvP prog bj ext 232 [.d (bg.pd a0)] [] (rB r,[]):=by
 refine Ev.body Z Tryz.func232 Z Zk<|gU Z<|sB (.ptr 16 0) 16 (.var (bg.rc a0))<|sU<|sN<|gU Z<|sV (.ptr 16 7)<|sL Z<|sE (rI (a0.ep.length:Int)) (sb _ _)<|sF h ?_ ?_<;>intro h
 ·refine sM Z<|sV (.ptr 16 8)<|sL Z<|sV (rB (a0.eE==(0:Int)))<|sF h ?_ ?_<;>intro h
  ·refine sM Z<|sV (.ptr 16 9)<|sL Z<|sV (rB (a0.eT==(0:Int)))<|sV (rB (a0.eT==(0:Int)))<|sA Z<|sN<|qS<|gU Z<|sV (.ptr 16 0)<|sL Z<|sN<|qB<|gU Z<|sF h ?_ ?_<;>intro h
   ·refine sA Z<|sN<|cT<|gU Z<|sF h ?_ ?_<;>intro h
    ·refine sM Z<|sV (.ptr 16 1)<|sV (.d (bN.pd a0.cf))<|sV (.ptr 16 1)<|sV (.ptr 16 1)<|sL Z<|sV (.d (bN.pd (bN.mk a0.cf.a0 0 0)))<|WO.bin (mi a0.cf (bN.mk a0.cf.a0 0 0)) Z Z Z Z Z<|sF h ?_ ?_<;>intro h
     ·refine sM Z<|sV (.ptr 16 4)<|sV (.d (bN.pd a0.bY))<|sV (.ptr 16 4)<|sV (.ptr 16 4)<|sL Z<|sV (.d (bN.pd (bN.mk a0.bY.a0 0 0)))<|WO.bin (mi a0.bY (bN.mk a0.bY.a0 0 0)) Z Z Z Z Z<|sF h ?_ ?_<;>intro h
      ·refine sM Z<|sV (.ptr 16 1)<|sV (.ptr 16 1)<|sL Z<|bE h fun x7 h7 h=>cD (ce h7)<|sF h ?_ ?_<;>intro h
       ·refine sM Z<|sV (.ptr 16 4)<|sV (.ptr 16 4)<|sL Z<|bE h fun x9 h9 h=>cD (ce h9)<|sV (rB x9)<|sA Z<|sN<|qR ?_
        cases oI h
        exact qG
       refine sM Z<|k3<|sK<|sU<|sA Z<|sN<|qR ?_
       cases oI h
       exact qG
      refine sM Z<|k3<|sK<|sU<|sM Z<|k3<|sK<|sU<|sA Z<|sN<|qR ?_
      cases oI h
      exact qG
     refine sM Z<|k3<|k3<|sK<|sU<|sM Z<|k3<|sK<|sU ?_
     refine sM Z<|k3<|sK<|sU<|sA Z<|sN<|qR ?_
     cases oI h
     exact qG
    refine sM Z<|k3<|k3<|sK<|sU<|sM Z<|k3<|sK<|sK ?_
    refine sK<|sK<|sU<|sM Z<|k3<|sK<|sU<|sM Z<|k3<|sK<|sU ?_
    refine sA Z<|sN<|qR ?_
    cases oI h
    exact qG
   refine sA Z<|sN<|cF<|gU Z<|sF h ?_ ?_<;>intro h
   ·refine sA Z<|sN<|cT<|F5 (R0:=[(1,.cptr [.int .i64 a0.jZ,.int .i64 a0.cf.a0,.int .i64 a0.cf.a1,.int .i64 a0.cf.a2,.int .i64 a0.bY.a0,.int .i64 a0.bY.a1,.int .i64 a0.bY.a2,.lst (a0.ep.map (PD.int .i64)),.int .i64 a0.eE,.int .i64 a0.eT]),(3,rB (a0.eT==(0:Int)))]) (B0:=[]) Z Z<|sF h ?_ ?_<;>intro h
    ·refine sM Z<|sV (.cptr [.int .i64 a0.cf.a0,.int .i64 a0.cf.a1,.int .i64 a0.cf.a2,.int .i64 a0.bY.a0,.int .i64 a0.bY.a1,.int .i64 a0.bY.a2,.lst (a0.ep.map (PD.int .i64)),.int .i64 a0.eE,.int .i64 a0.eT])<|sV (.d (.lst ([a0.cf.a0,a0.cf.a1,a0.cf.a2].map (PD.int .i64))))<|bE h fun a6 k h=>cD (ce k)<|sF h ?_ ?_<;>intro h
     ·refine sM Z<|sV (.cptr [.int .i64 a0.bY.a0,.int .i64 a0.bY.a1,.int .i64 a0.bY.a2,.lst (a0.ep.map (PD.int .i64)),.int .i64 a0.eE,.int .i64 a0.eT])<|sV (.d (.lst ([a0.bY.a0,a0.bY.a1,a0.bY.a2].map (PD.int .i64))))<|bE h fun a9 q h=>cD (ce q)<|sF h ?_ ?_<;>intro h
      ·refine sM Z<|sV (.cptr [.int .i64 a0.bY.a0,.int .i64 a0.bY.a1,.int .i64 a0.bY.a2,.lst (a0.ep.map (PD.int .i64)),.int .i64 a0.eE,.int .i64 a0.eT])<|sV (.cptr [.int .i64 a0.bY.a0,.int .i64 a0.bY.a1,.int .i64 a0.bY.a2,.lst (a0.ep.map (PD.int .i64)),.int .i64 a0.eE,.int .i64 a0.eT])<|sC Z<|sV (rB (a0.bY.a0 != (0:Int)))<|sV (rB (a0.bY.a0 != (0:Int)))<|sA Z<|sN<|qR ?_
       exact oI h▸qD
      refine sM Z<|k3<|sK<|sU<|sA Z<|sN<|qR ?_
      exact oI h▸qD
     refine sM Z<|k3<|sU<|sM Z<|k3<|sK<|sU<|sA Z<|sN<|qR ?_
     exact oI h▸qD
    refine sM Z<|k3<|sU<|sM Z<|k3<|sU<|sM Z<|k3<|sK ?_
    refine sU<|sA Z<|sN<|qR ?_
    exact oI h▸qD
   refine sA Z<|sN<|cF<|gU Z<|sF h ?_ ?_<;>intro h
   ·refine sA Z<|sN<|cT<|gU Z<|sV (.ptr 16 1)<|sV (.d (bN.pd a0.cf))<|sV (.d (bN.pd (bN.mk 0 0 0)))<|tU h (fun f h=>?_) (fun f h=>?_)
    ·refine WO.zp (mi a0.cf (bN.mk 0 0 0)) f Z Z Z Z Z<|sM Z<|sV (.ptr 16 4)<|sV (.d (bN.pd a0.bY))<|sV (.d (bN.pd (bN.mk 0 0 0)))<|WO.bin (mi a0.bY (bN.mk 0 0 0)) Z Z Z Z Z<|sF h ?_ ?_<;>intro h
     ·refine sM Z<|sV (.ptr 16 7)<|sL Z<|sE (rI (a0.ep.length:Int)) (sb _ _)<|bE h fun b0 u h=>cD (ce u)<|sF h ?_ ?_<;>intro h
      ·refine sM Z<|sV (.ptr 16 7)<|sL Z<|bE h fun b1 B h=>cD (ce B)<|sF h ?_ ?_<;>intro h
       ·refine sM Z<|sV (.ptr 16 7)<|sL Z<|bE h fun T C h=>cD (ce C)<|sV (rB (T != (0:Int)))<|sF h ?_ ?_<;>intro h
        ·refine sM Z<|sV (.ptr 16 8)<|sL Z<|bE h fun b2 D h=>cD (ce D)<|sF h ?_ ?_<;>intro h
         ·refine sM Z<|sV (.ptr 16 9)<|sL Z<|bE h fun U E h=>cD (ce E)<|sV (rB U)<|sA Z<|sN<|qR ?_
          cases oI h
          exact qG
         refine sM Z<|k3<|sU<|sA Z<|sN<|qR ?_
         cases oI h
         exact qG
        refine sM Z<|k3<|sU<|sM Z<|k3<|sU<|sA Z<|sN<|qR ?_
        cases oI h
        exact qG
       refine sM Z<|k3<|sK<|sU<|sM Z<|k3<|sU<|sM Z<|sK<|sK<|sK ?_
       refine sU<|sA Z<|sN<|qR ?_
       cases oI h
       exact qG
      refine sM Z<|k3<|sU<|sM Z<|k3<|sK<|sU<|sM Z<|sK<|sK<|sK ?_
      refine sU<|sM Z<|k3<|sU<|sA Z<|sN<|qR ?_
      cases oI h
      exact qG
     refine sM Z<|k3<|sK<|sU<|sM Z<|k3<|sU<|sM Z<|sK<|sK<|sK ?_
     refine sK<|sU<|sM Z<|k3<|sU<|sM Z<|k3<|sU<|sA Z<|sN<|qR ?_
     cases oI h
     exact qG
    refine WO.zp (mi a0.cf (bN.mk 0 0 0)) f Z Z Z Z Z<|sM Z<|k3<|sK<|sU<|sM Z<|k3<|sK<|sU<|sM Z<|sK ?_
    refine sK<|sK<|sU<|sM Z<|k3<|sK<|sU<|sM Z<|k3<|sU<|sM Z ?_
    refine k3<|sU<|sA Z<|sN<|qR ?_
    cases oI h
    exact qG
   refine sA Z<|sN<|cF<|qK<|gU Z<|sU<|sN<|qR ?_
   cases oI h
   exact qG
  refine sM Z<|k3<|sU<|sA Z<|sN<|qS<|gU Z<|sV (.ptr 16 0)<|sL Z<|sN<|qB<|gU Z<|sF h ?_ ?_<;>intro h
  ·refine sA Z<|sN<|cT<|gU Z<|mM Z<|k3<|k3<|sK<|sU<|sM Z ?_
   refine k3<|k3<|sK<|sU<|sM Z<|k3<|sK<|sU<|sM Z ?_
   refine k3<|sK<|sU<|sA Z<|sN<|qR ?_
   cases oI h
   exact qG
  refine sA Z<|sN<|cF<|gU Z<|sF h ?_ ?_<;>intro h
  ·refine sA Z<|sN<|cT<|F5 (R0:=[(1,.cptr [.int .i64 a0.jZ,.int .i64 a0.cf.a0,.int .i64 a0.cf.a1,.int .i64 a0.cf.a2,.int .i64 a0.bY.a0,.int .i64 a0.bY.a1,.int .i64 a0.bY.a2,.lst (a0.ep.map (PD.int .i64)),.int .i64 a0.eE,.int .i64 a0.eT]),(3,rB false)]) (B0:=[]) Z Z<|mM Z<|k3<|sU<|sM Z<|k3<|sU ?_
   refine sM Z<|k3<|sK<|sU<|sA Z<|sN<|qR ?_
   exact oI h▸qD
  refine sA Z<|sN<|cF<|gU Z<|sF h ?_ ?_<;>intro h
  ·refine sA Z<|sN<|cT<|gU Z<|sV (.ptr 16 1)<|sV (.d (bN.pd a0.cf))<|sV (.d (bN.pd (bN.mk 0 0 0)))<|tU h (fun g h=>?_) (fun g h=>?_)
   ·refine WO.zp (mi a0.cf (bN.mk 0 0 0)) g Z Z Z Z Z<|sM Z<|sV (.ptr 16 4)<|sV (.d (bN.pd a0.bY))<|sV (.d (bN.pd (bN.mk 0 0 0)))<|WO.bin (mi a0.bY (bN.mk 0 0 0)) Z Z Z Z Z<|sF h ?_ ?_<;>intro h
    ·refine sM Z<|sV (.ptr 16 7)<|sL Z<|sE (rI (a0.ep.length:Int)) (sb _ _)<|bE h fun b3 F h=>cD (ce F)<|sF h ?_ ?_<;>intro h
     ·refine sM Z<|sV (.ptr 16 7)<|sL Z<|bE h fun b4 G h=>cD (ce G)<|sF h ?_ ?_<;>intro h
      ·refine sM Z<|sV (.ptr 16 7)<|sL Z<|bE h fun W H h=>cD (ce H)<|sV (rB (W != (0:Int)))<|sF h ?_ ?_<;>intro h
       ·refine sM Z<|sV (.ptr 16 8)<|sL Z<|bE h fun b5 I h=>cD (ce I)<|sF h ?_ ?_<;>intro h
        ·refine sM Z<|sV (.ptr 16 9)<|sL Z<|bE h fun X J h=>cD (ce J)<|sV (rB X)<|sA Z<|sN<|qR ?_
         cases oI h
         exact qG
        refine sM Z<|k3<|sU<|sA Z<|sN<|qR ?_
        cases oI h
        exact qG
       refine sM Z<|k3<|sU<|sM Z<|k3<|sU<|sA Z<|sN<|qR ?_
       cases oI h
       exact qG
      refine sM Z<|k3<|sK<|sU<|sM Z<|k3<|sU<|sM Z<|sK<|sK<|sK ?_
      refine sU<|sA Z<|sN<|qR ?_
      cases oI h
      exact qG
     refine sM Z<|k3<|sU<|sM Z<|k3<|sK<|sU<|sM Z<|sK<|sK<|sK ?_
     refine sU<|sM Z<|k3<|sU<|sA Z<|sN<|qR ?_
     cases oI h
     exact qG
    refine sM Z<|k3<|sK<|sU<|sM Z<|k3<|sU<|sM Z<|sK<|sK<|sK ?_
    refine sK<|sU<|sM Z<|k3<|sU<|sM Z<|k3<|sU<|sA Z<|sN<|qR ?_
    cases oI h
    exact qG
   refine WO.zp (mi a0.cf (bN.mk 0 0 0)) g Z Z Z Z Z<|sM Z<|k3<|sK<|sU<|sM Z<|k3<|sK<|sU<|sM Z<|sK ?_
   refine sK<|sK<|sU<|sM Z<|k3<|sK<|sU<|sM Z<|k3<|sU<|sM Z ?_
   refine k3<|sU<|sA Z<|sN<|qR ?_
   cases oI h
   exact qG
  refine sA Z<|sN<|cF<|qK<|gU Z<|sU<|sN<|qR ?_
  cases oI h
  exact qG
 refine sM Z<|k3<|sU<|sM Z<|k3<|sU<|sA Z<|sN<|qS<|gU Z<|sV (.ptr 16 0) ?_
 refine sL Z<|sN<|qB<|gU Z<|sF h ?_ ?_<;>intro h
 ·refine sA Z<|sN<|cT<|gU Z<|mM Z<|k3<|k3<|sK<|sU<|sM Z ?_
  refine k3<|k3<|sK<|sU<|sM Z<|k3<|sK<|sU<|sM Z ?_
  refine k3<|sK<|sU<|sA Z<|sN<|qR ?_
  cases oI h
  exact qG
 refine sA Z<|sN<|cF<|gU Z<|sF h ?_ ?_<;>intro h
 ·refine sA Z<|sN<|cT<|F5 (R0:=[(1,.cptr [.int .i64 a0.jZ,.int .i64 a0.cf.a0,.int .i64 a0.cf.a1,.int .i64 a0.cf.a2,.int .i64 a0.bY.a0,.int .i64 a0.bY.a1,.int .i64 a0.bY.a2,.lst (a0.ep.map (PD.int .i64)),.int .i64 a0.eE,.int .i64 a0.eT]),(3,rB false)]) (B0:=[]) Z Z<|mM Z<|k3<|sU<|sM Z<|k3<|sU ?_
  refine sM Z<|k3<|sK<|sU<|sA Z<|sN<|qR ?_
  exact oI h▸qD
 refine sA Z<|sN<|cF<|gU Z<|sF h ?_ ?_<;>intro h
 ·refine sA Z<|sN<|cT<|gU Z<|sV (.ptr 16 1)<|sV (.d (bN.pd a0.cf))<|sV (.d (bN.pd (bN.mk 0 0 0)))<|tU h (fun j h=>?_) (fun j h=>?_)
  ·refine WO.zp (mi a0.cf (bN.mk 0 0 0)) j Z Z Z Z Z<|sM Z<|sV (.ptr 16 4)<|sV (.d (bN.pd a0.bY))<|sV (.d (bN.pd (bN.mk 0 0 0)))<|WO.bin (mi a0.bY (bN.mk 0 0 0)) Z Z Z Z Z<|sF h ?_ ?_<;>intro h
   ·refine sM Z<|sV (.ptr 16 7)<|sL Z<|sE (rI (a0.ep.length:Int)) (sb _ _)<|bE h fun b6 K h=>cD (ce K)<|sF h ?_ ?_<;>intro h
    ·refine sM Z<|sV (.ptr 16 7)<|sL Z<|bE h fun c0 L h=>cD (ce L)<|sF h ?_ ?_<;>intro h
     ·refine sM Z<|sV (.ptr 16 7)<|sL Z<|bE h fun Y N h=>cD (ce N)<|sV (rB (Y != (0:Int)))<|sF h ?_ ?_<;>intro h
      ·refine sM Z<|sV (.ptr 16 8)<|sL Z<|bE h fun c1 O h=>cD (ce O)<|sF h ?_ ?_<;>intro h
       ·refine sM Z<|sV (.ptr 16 9)<|sL Z<|bE h fun a5 Q h=>cD (ce Q)<|sV (rB a5)<|sA Z<|sN<|qR ?_
        cases oI h
        exact qG
       refine sM Z<|k3<|sU<|sA Z<|sN<|qR ?_
       cases oI h
       exact qG
      refine sM Z<|k3<|sU<|sM Z<|k3<|sU<|sA Z<|sN<|qR ?_
      cases oI h
      exact qG
     refine sM Z<|k3<|sK<|sU<|sM Z<|k3<|sU<|sM Z<|sK<|sK<|sK ?_
     refine sU<|sA Z<|sN<|qR ?_
     cases oI h
     exact qG
    refine sM Z<|k3<|sU<|sM Z<|k3<|sK<|sU<|sM Z<|sK<|sK<|sK ?_
    refine sU<|sM Z<|k3<|sU<|sA Z<|sN<|qR ?_
    cases oI h
    exact qG
   refine sM Z<|k3<|sK<|sU<|sM Z<|k3<|sU<|sM Z<|sK<|sK<|sK ?_
   refine sK<|sU<|sM Z<|k3<|sU<|sM Z<|k3<|sU<|sA Z<|sN<|qR ?_
   cases oI h
   exact qG
  refine WO.zp (mi a0.cf (bN.mk 0 0 0)) j Z Z Z Z Z<|sM Z<|k3<|sK<|sU<|sM Z<|k3<|sK<|sU<|sM Z<|sK ?_
  refine sK<|sK<|sU<|sM Z<|k3<|sK<|sU<|sM Z<|k3<|sU<|sM Z ?_
  refine k3<|sU<|sA Z<|sN<|qR ?_
  cases oI h
  exact qG
 refine sA Z<|sN<|cF<|qK<|gU Z<|sU<|sN<|qR ?_
 cases oI h
 exact qG
instance {a0:bg}:CE prog bj ext (dU a0) 232 [.d (bg.pd a0)] [] fun r=>(rB r,[]):=⟨fun h=>pc h⟩
section
attribute [local irreducible] HM HU HF HB WO WC QS QB tO
instance {a0:bg}:CE prog bj ext (ld a0) 231 [.d (bg.pd a0)] [] fun r=>(rB r,[]):=⟨fun h=>Ev.au h Tryz.func231⟩
instance {a0:(List bg)}:LI (dP a0) 2 (fun s=>[(8,rI s)]) (fun s=>[]) (jY 7 (fun y=>[]) (fun y=>[]) Tryz.f265 fun r=>(rI r,[])):=⟨⟩
instance {a0:(List bg)}:CE prog bj ext (f7 a0) 265 [rM bg.pd a0,.d (.raw (.func (.func 231) #[] #[]))] [] fun r=>(rI r,[]):=⟨fun h=>Ev.au h Tryz.func265⟩
instance {a0:(List bg)}:CE prog bj ext (dO a0) 230 [rM bg.pd a0,.d (.raw (.func (.func 231) #[] #[]))] [] fun r=>(rB r,[]):=⟨fun h=>Ev.au h Tryz.func230⟩
instance {a0:(List bg)}:LI (jv a0) 3 (fun s=>[(3,rI s.1),(8,rI s.2)]) (fun s=>[]) (jY 10 (fun y=>[(3,rI y)]) (fun y=>[]) Tryz.f233 fun r=>(rI r,[])):=⟨⟩
instance {a0:(List bg)}:CE prog bj ext (lL a0) 233 [rM bg.pd a0] [] fun r=>(rI r,[]):=⟨fun h=>Ev.au h Tryz.func233⟩
instance {a0:bu}:CE prog bj ext (kD a0) 174 [.d (bu.pd a0)] [] fun r=>(rB r,[]):=⟨fun h=>Ev.au h Tryz.func174⟩
instance {a0:Int}{a1:Int}{a2:Int}:CE prog bj ext (gY a0 a1 a2) 124 [rI a0,rI a1,rI a2] [] fun r=>(rB r,[]):=⟨fun h=>Ev.au h Tryz.func124⟩
instance {a0:az}:CE prog bj ext (gT a0) 123 [.d (az.pd a0)] [] fun r=>(rB r,[]):=⟨fun h=>Ev.au h Tryz.func123⟩
instance {a0:(List az)}:LI (gW a0) 2 (fun s=>[(7,rI s)]) (fun s=>[]) (jY 7 (fun y=>[]) (fun y=>[]) Tryz.f84 fun r=>(rB r,[])):=⟨⟩
instance {a0:(List az)}:CE prog bj ext (kU a0) 84 [rM az.pd a0] [] fun r=>(rB r,[]):=⟨fun h=>Ev.au h Tryz.func84⟩
instance {a0:(List UInt8)}:CE prog bj ext (iE a0) 175 [rS a0] [] fun r=>(rB r,[]):=⟨fun h=>Ev.au h Tryz.func175⟩
instance {a0:(List UInt8)}{a1:(List UInt8)}:CE prog bj ext (dz a0 a1) 125 [rS a0,rS a1] [] fun r=>(rI r,[]):=⟨fun h=>Ev.au h Tryz.func125⟩
instance {a0:(List Int)}:LI (eB a0) 3 (fun s=>[(8,rI s)]) (fun s=>[]) (jY 8 (fun y=>[]) (fun y=>[]) Tryz.f115 fun r=>(rI r,[])):=⟨⟩
instance {a0:(List Int)}:CE prog bj ext (dC a0) 115 [rL a0] [] fun r=>(rI r,[]):=⟨fun h=>Ev.au h Tryz.func115⟩
instance {a0:bi}{a1:bi}:CE prog bj ext (jb a0 a1) 85 [.d (bi.pd a0),.d (bi.pd a1)] [] fun r=>(rI r,[]):=⟨fun h=>Ev.au h Tryz.func85⟩
instance {a0:ae}:LI (ix a0) 2 (fun s=>[(8,rI s)]) (fun s=>[]) (jY 7 (fun y=>[]) (fun y=>[]) Tryz.f45 fun r=>(rB r,[])):=⟨⟩
instance {a0:ae}:CE prog bj ext (cL a0) 45 [.d (ae.pd a0)] [] fun r=>(rB r,[]):=⟨fun h=>Ev.au h Tryz.func45⟩
instance {a0:Int}{a1:Int}{a2:Int}:CE prog bj ext (mX a0 a1 a2) 121 [rI a0,rI a1,rI a2] [] fun r=>(rB r,[]):=⟨fun h=>Ev.au h Tryz.func121⟩
instance {a0:aa}:CE prog bj ext (iL a0) 82 [.d (aa.pd a0)] [] fun r=>(rB r,[]):=⟨fun h=>Ev.au h Tryz.func82⟩
instance {a0:aa}:CE prog bj ext (jP a0) 81 [.d (aa.pd a0)] [] fun r=>(rB r,[]):=⟨fun h=>Ev.au h Tryz.func81⟩
instance {a0:(List aa)}:LI (dV a0) 2 (fun s=>[(8,rI s)]) (fun s=>[]) (jY 7 (fun y=>[]) (fun y=>[]) Tryz.f94 fun r=>(rI r,[])):=⟨⟩
instance {a0:(List aa)}:CE prog bj ext (gt a0) 94 [rM aa.pd a0,.d (.raw (.func (.func 81) #[] #[]))] [] fun r=>(rI r,[]):=⟨fun h=>Ev.au h Tryz.func94⟩
instance {a0:(List aa)}:CE prog bj ext (fC a0) 49 [rM aa.pd a0,.d (.raw (.func (.func 81) #[] #[]))] [] fun r=>(rB r,[]):=⟨fun h=>Ev.au h Tryz.func49⟩
instance {a0:(List aa)}:CE prog bj ext (gg a0) 44 [rM aa.pd a0] [] fun r=>(rB r,[]):=⟨fun h=>Ev.au h Tryz.func44⟩
instance {a0:Int}:CE prog bj ext (lu a0) 128 [rI a0] [] fun r=>(rB r,[]):=⟨fun h=>Ev.au h Tryz.func128⟩
instance {a0:Int}{a1:Int}:CE prog bj ext (cb a0 a1) 89 [rI a0,rI a1] [] fun r=>(rI r,[]):=⟨fun h=>Ev.au h Tryz.func89⟩
instance {a0:aa}{a1:aa}:CE prog bj ext (cN a0 a1) 91 [.d (aa.pd a0),.d (aa.pd a1)] [] fun r=>(rI r,[]):=⟨fun h=>Ev.au h Tryz.func91⟩
end
theorem pg{d0:(List aa)}{r:(List aa)}(h:eM d0=some r):EvP prog bj ext 126 [.ref 0 0] [.arr 0 70 (d0.map aa.pd)] (.ref 0 1,[.arr 1 70 (r.map aa.pd)]):=by
 refine Ev.body Z Tryz.func126 Z Zk<|gU Z<|sV .pY<|sN<|qS<|gU Z<|sM Z<|WO.lenR Z Z Z Z Z Z Z Z Z<|sF h ?_ ?_<;>intro h
 ·refine sN<|cT<|F5 (R0:=[(0,.ref 0 1)]) (B0:=[(0,.arr 1 70 (d0.map aa.pd))]) Z Z<|sM Z<|sA Z<|sN<|qR ?_
  exact oI h▸qD
 refine sN<|cF<|qK<|qS<|gU Z<|sV (rI 1)<|sN<|bE h fun a9 B h=>F1 (F2 (WL.rG B (fun s=>gI 1 126 4 [(0,.ref 0 0),(3,rI s)] [(0,.arr 0 70 (d0.map aa.pd))]) (fun o=>match o with| .inl y=>gX 0 1 126 16 [(0,.ref 0 1)] [(0,.arr 1 70 (d0.map aa.pd))]| .inr r=>gF 126 Tryz.f126 1 (.ref 0 1,[.arr 1 70 (r.map aa.pd)])) Z ?_ ?_))
 ·rintro s2 H G q3 k h
  refine qS<|gS Z k<|mM Z<|WO.lenR Z Z Z Z Z Z Z Z Z<|sF h ?_ ?_<;>intro h
  ·refine sN<|cT<|qK<|qS<|qB<|F3 Z Z<|mM Z<|bE h fun x6 h6 h=>WO.tD h6 Z Z Z Z Z Z Z Z<|bE h fun x7 h7 h=>WO.sY h7 Z Z Z Z Z Z<|mM Z<|sV (rI (rW (s2-(1:Int)))) ?_
   refine bE h fun x9 h9 h=>WO.tD h9 Z Z Z Z Z Z Z Z<|bE h fun C I h=>WO.sY I Z Z Z Z Z Z<|tU h (fun f h=>?_) (fun f h=>?_)
   ·refine WO.zp (eqE_70 x7 C) f Z Z Z Z Z ?_
    refine sN<|sO<|cT<|gU Z<|mM Z<|bE h fun b6 J h=>WO.subR J Z Z Z Z Z Z Z Z Z Z Z Z<|sA Z<|sN<|qS<|gU Z<|sV (rI 1)<|sN<|bE h fun b2 u h=>F1 (F2 (WL.rG u (fun s=>gI 1 126 9 [(0,.ref 0 0),(3,rI s.1),(4,.view 0 0 (0+(s2:Int).toNat) (0+((d0.length:Int):Int).toNat)),(5,rI s.2.1)] [(0,.arr 0 70 (s.2.2.map aa.pd))]) (fun o=>gX 2 1 126 14 [(0,.ref 0 0),(3,rI o.1)] [(0,.arr 0 70 (o.2.map aa.pd))]) Z ?_ ?_))
    ·rintro⟨b0,q,b5⟩ H G b3 k h
     unfold iX at h
     refine qS<|gS Z k<|mM Z<|bE h fun c0 K h=>WO.lenVw K Z Z Z Z Z Z Z Z Z<|sF h ?_ ?_<;>intro h
     ·refine sN<|cT<|qK<|qS<|qB<|F3 Z Z<|mM Z<|bE h fun c1 L h=>WO.eltV L Z Z Z Z Z Z Z Z<|bE h fun D N h=>WO.sY N Z Z Z Z Z Z<|mM Z<|sV (rI (rW (q-(1:Int)))) ?_
      refine bE h fun c2 O h=>WO.eltV O Z Z Z Z Z Z Z Z<|bE h fun E Q h=>WO.sY Q Z Z Z Z Z Z<|tU h (fun j h=>?_) (fun j h=>?_)
      ·refine WO.zp (eqN_70 D E) j Z Z Z Z Z ?_
       refine sN<|sO<|cT<|gU Z<|mM Z<|mM Z<|bE h fun c3 T h=>WO.eltV T Z Z Z Z Z Z Z Z<|bE h fun b1 U h=>WO.sY U Z Z Z Z Z Z<|bE h fun c4 W h=>WO.tD W Z Z Z Z Z Z Z Z<|bE h fun c5 X h=>WO.vw (g:=aa.pd) (sz:=9) (p:=aa.pd b1) X (by intro _;kernel_rfl) (by intro _;kernel_rfl) Z Z Z Z Z Z Z Z Z ?_
       refine sN<|F4 Z Z<|sM Z<|sV (rI (rW (b0+(1:Int))))<|sA Z<|sN<|F4 Z Z<|sM Z<|sV (rI (rW (q+(1:Int))))<|sA Z<|sN ?_
       cases oI h
       exact⟨rfl,rfl⟩
      refine WO.zp (eqN_70 D E) j Z Z Z Z Z ?_
      refine sN<|sO<|cF<|qK<|F4 Z Z<|sM Z<|sV (rI (rW (q+(1:Int))))<|sA Z<|sN ?_
      cases oI h
      exact⟨rfl,rfl⟩
     refine sN<|cF<|qX ?_
     cases oI h
     exact⟨nofun,rfl,rfl⟩
    intro e H G he F
    obtain⟨rfl,k⟩:=F
    refine qE<|gS Z k<|mM Z<|bE h fun c6 Y h=>WO.subR Y Z Z Z Z Z Z Z Z Z Z Z Z<|bE h fun c7 a5 h=>WO.clearN (z:=(aa.mk (bi.mk [] [] [] []) 0 0 0 0 0)) (g:=aa.pd) Z Z Z Z Z Z Z (dst_view a5 Z) Z Z Z Z<|sN<|gU Z<|mM Z<|bE h fun c8 a6 h=>WO.resl a6 Z Z Z Z Z Z Z Z Z Z Z Z<|sA Z ?_
    refine sN<|qR ?_
    cases oI h
    exact⟨nofun,rfl,rfl⟩
   refine WO.zp (eqE_70 x7 C) f Z Z Z Z Z ?_
   refine sN<|sO<|cF<|qK<|F4 Z Z<|sM Z<|sV (rI (rW (s2+(1:Int))))<|sA Z<|sN ?_
   cases oI h
   exact⟨rfl,rfl⟩
  refine sN<|cF<|qX ?_
  cases oI h
  exact⟨nofun,rfl,rfl⟩
 intro e H G he F
 rcases a9 with d1|b4
 ·obtain⟨rfl,k⟩:=F
  refine qE<|gS Z k<|sM Z<|sA Z<|sN<|qR ?_
  exact oI h▸qD
 obtain⟨rfl,hf⟩:=F
 cases oI h
 exact hf
instance {d0:(List aa)}:CE prog bj ext (eM d0) 126 [.ref 0 0] [.arr 0 70 (d0.map aa.pd)] fun r=>(.ref 0 1,[.arr 1 70 (r.map aa.pd)]):=⟨fun h=>pg h⟩
section
attribute [local irreducible] HM HU HF HB WO WC QS QB tO
instance {a0:(List aa)}:CE prog bj ext (da a0) 86 [rM aa.pd a0] [] fun r=>(.ref 0 0,[.arr 0 70 (r.map aa.pd)]):=⟨fun h=>Ev.au h Tryz.func86⟩
instance {a0:aa}{a1:aa}:CE prog bj ext (fG a0 a1) 88 [.d (aa.pd a0),.d (aa.pd a1)] [] fun r=>(rI r,[]):=⟨fun h=>Ev.au h Tryz.func88⟩
end
theorem fb{a1:Int}{a2:Int}{d0:(List aa)}{r:(List aa)}(h:bW a1 a2 d0=some r):EvP prog bj ext 176 [.ref 0 0,rI a1,rI a2,.d (.raw (.func (.func 88) #[] #[]))] [.arr 0 70 (d0.map aa.pd)] (.tup [],[.arr 0 70 (r.map aa.pd)]):=by
 refine Ev.body Z Tryz.func176 Z Zk<|gU Z<|sM Z<|sV (rI (rW (a1+(1:Int))))<|sA Z<|sN<|bE h fun a5 q h=>?_
 cases oI h
 refine F1 (F2 (WL.uG q (fun s=>gI 1 176 1 [(0,.ref 0 0),(1,rI a1),(2,rI a2),(3,.d (.raw (.func (.func 88) #[] #[]))),(8,rI s.1)] [(0,.arr 0 70 (s.2.map aa.pd))]) Z ?_))
 rintro⟨s1,s2⟩ R' Y q3 j h
 refine qS<|gS Z j<|mM Z<|sF h ?_ ?_<;>intro h
 ·refine sN<|cT<|qK<|qS<|qB<|gU Z<|sM Z<|sA Z<|sN<|bE h fun T k h=>F1 (F2 (WL.rG k (fun s=>gI 1 176 4 [(0,.ref 0 0),(1,rI a1),(2,rI a2),(3,.d (.raw (.func (.func 88) #[] #[]))),(8,rI s1),(9,rI s.1)] [(0,.arr 0 70 (s.2.map aa.pd))]) (fun o=>gX 2 1 176 2 [(0,.ref 0 0),(1,rI a1),(2,rI a2),(3,.d (.raw (.func (.func 88) #[] #[]))),(8,rI o.1)] [(0,.arr 0 70 (o.2.map aa.pd))]) Z ?_ ?_))
  ·rintro⟨u,s6⟩ R' Y q9 j h
   refine qS<|F3 j Z<|mM Z<|sF h ?_ ?_<;>intro h
   ·refine mM Z<|mM Z<|bE h fun a6 B h=>WO.tD B Z Z Z Z Z Z Z Z<|bE h fun a9 C h=>WO.sY C Z Z Z Z Z Z<|mM Z<|sV (rI (rW (u-(1:Int))))<|bE h fun b0 D h=>WO.tD D Z Z Z Z Z Z Z Z<|bE h fun b1 E h=>WO.sY E Z Z Z Z Z Z ?_
    refine bE h fun U F h=>cD (ce F)<|sV (rB (decide (U<(0:Int))))<|sF h ?_ ?_<;>intro h
    ·refine sN<|sO<|cT<|qK<|qS<|qB<|WC.sI Z Z<|mM Z<|mM Z<|sV (rI (rW (u-(1:Int))))<|mM Z<|sV (rI (rW (u-(1:Int))))<|bE h fun b2 G h=>?_
     refine WO.tD G Z Z Z Z Z Z Z Z<|bE h fun W H h=>WO.sY H Z Z Z Z Z Z<|mM Z<|bE h fun b3 I h=>WO.tD I Z Z Z Z Z Z Z Z<|bE h fun X J h=>WO.sY J Z Z Z Z Z Z<|bE h fun b4 K h=>WO.tD K Z Z Z Z Z Z Z Z<|bE h fun b5 L h=>WO.vw (g:=aa.pd) (sz:=9) (p:=aa.pd W) L (by intro _;kernel_rfl) (by intro _;kernel_rfl) Z Z Z Z Z Z Z Z Z<|bE h fun b6 N h=>WO.tD N Z Z Z Z Z Z Z Z ?_
     refine bE h fun c0 O h=>WO.vw (g:=aa.pd) (sz:=9) (p:=aa.pd X) O (by intro _;kernel_rfl) (by intro _;kernel_rfl) Z Z Z Z Z Z Z Z Z ?_
     refine sN<|sO<|F4 Z Z<|sM Z<|sV (rI (rW (u-(1:Int))))<|sA Z<|sN ?_
     cases oI h
     exact⟨rfl,rfl⟩
    refine sN<|sO<|cF<|qX ?_
    cases oI h
    exact⟨nofun,rfl,rfl⟩
   refine sM Z<|k3<|k3<|k3<|k3<|sU ?_
   refine sN<|sO<|cF<|qX ?_
   cases oI h
   exact⟨nofun,rfl,rfl⟩
  intro e R' Y he hq
  obtain⟨rfl,j⟩:=hq
  refine qE<|F4 j Z<|sM Z<|sV (rI (rW (T.1+(1:Int))))<|sA Z<|sN ?_
  cases oI h
  exact⟨rfl,rfl⟩
 refine sN<|cF<|qX<|pe h (fun z33 f hz=>?_)
 obtain rfl:=Option.some.inj hz
 refine⟨(fun he=>by cases he),fun Q=>?_⟩
 subst Q
 have h:=f
 refine qE ?_
 exact oI h▸qD
end Go.Dw.Re
