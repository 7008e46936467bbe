
import Derived.Test.YthadlbjoiidkjaaGreatDoorFaFn
import Derived.Test.YthadlbjoiidkjaaGreatDoorDwShort
import Derived.Test.YthadlbjoiidkjaaGreatDoorDwNest
import Derived.Test.YthadlbjoiidkjaaGreatDoorProg
import Derived.Test.YthadlbjoiidkjaaGreatDoorDwClone
import Derived.Test.YthadlbjoiidkjaaGreatDoorDwHand
import Derived.Test.YthadlbjoiidkjaaGreatDoorDwSortU

set_option maxRecDepth 100000
set_option maxHeartbeats 4000000
namespace Go.Dw.Fa
open Go.Proofs Go.Proofs.Tryz Go.Dw
@[reducible] def rW(n:Int):Int:=IntKind.wrap .i64 n
@[reducible] def rI(n:Int):RV:= .d (.int .i64 n)
@[reducible] def r0:RV:= .d (.int .i64 0)
@[reducible] def rS(s:List UInt8):RV:= .d (.str s)
@[reducible] def rB(b:Bool):RV:= .d (.bool b)
@[reducible] def rM{α:Type}(g:α->PD)(l:List α):RV:= .d (.lst (l.map g))
@[reducible] def rL(l:List Int):RV:= .d (.lst (l.map (PD.int .i64)))
@[reducible] def zZ0:List RV:=[.d (.int .i64 0),.d (.bool false),.d (.str []),.d (.str []),.d (.str []),.d (.str []),.d (.int .i64 0),.d (.int .i64 0),.d (.int .i64 0),.d (.int .i64 0),.d (.int .i64 0),.d (.int .i64 0),.d (.str []),.d (.str []),.d (.str []),.d (.str []),.d (.int .i64 0),.d (.int .i64 0),.d (.int .i64 0),.d (.int .i64 0),.d (.int .i64 0),.iZ,.d (.int .i64 0),.d (.int .i64 0),.d (.int .i64 0),.d (.int .i64 0),.d (.int .i64 0),.d (.int .i64 0),.d (.int .i64 0),.d (.int .i64 0),.d (.int .i64 0),.d (.int .i64 0),.d (.int .i64 0),.d (.int .i64 0),.d (.int .i64 0),.d (.int .i64 0),.d (.int .i64 0),.d (.int .i64 0)]
@[reducible] def zZ1:List RV:=[.d (.int .i64 0),.d (.int .i64 0),.d (.int .i64 0),.d (.int .i64 0),.d (.int .i64 0),.d (.str []),.d (.str []),.d (.str []),.d (.str []),.d (.int .i64 0),.d (.int .i64 0),.d (.int .i64 0),.d (.int .i64 0),.d (.int .i64 0),.iZ,.d (.int .i64 0),.d (.int .i64 0),.d (.int .i64 0),.d (.int .i64 0),.d (.int .i64 0),.d (.int .i64 0),.d (.int .i64 0),.d (.int .i64 0),.d (.int .i64 0),.d (.int .i64 0),.d (.int .i64 0),.d (.int .i64 0),.d (.int .i64 0),.d (.int .i64 0),.d (.int .i64 0)]
@[reducible] def zZ2:List RV:=[.d (.str []),.d (.str []),.d (.str []),.d (.str []),.d (.int .i64 0),.d (.int .i64 0),.d (.int .i64 0),.d (.int .i64 0),.d (.int .i64 0),.iZ,.d (.int .i64 0),.d (.int .i64 0),.d (.int .i64 0),.d (.int .i64 0),.d (.int .i64 0),.d (.int .i64 0),.d (.int .i64 0),.d (.int .i64 0),.d (.int .i64 0),.d (.int .i64 0),.d (.int .i64 0),.d (.int .i64 0),.d (.int .i64 0),.d (.int .i64 0),.d (.int .i64 0)]
@[reducible] def zZ3:List RV:=[.iZ,.d (.int .i64 0),.d (.int .i64 0),.d (.int .i64 0),.d (.int .i64 0),.d (.int .i64 0),.d (.int .i64 0),.d (.int .i64 0),.d (.int .i64 0),.d (.int .i64 0),.d (.int .i64 0),.d (.int .i64 0),.d (.int .i64 0),.d (.int .i64 0),.d (.int .i64 0),.d (.int .i64 0)]
@[reducible] def zZ4:ag:=(ag.mk 0 0 0 0 0 (ai.mk (ae.mk (ap.mk [] [] [] []) 0 0 0 0 0) (au.mk [] (aA.mk (ah.mk 0 0 0) 0 0 0 (aS.mk (ah.mk 0 0 0) (ah.mk 0 0 0))) (aw.mk 0 0) 0)))
@[reducible] def am.rc(x:am):List RV:=[.d (.int .i64 x.fID),.d (.bool x.aI),.d (.str x.aq.ar.aM),.d (.str x.aq.ar.aN),.d (.str x.aq.ar.ac),.d (.str x.aq.ar.aO),.d (.int .i64 x.aq.aL),.d (.int .i64 x.aq.aY),.d (.int .i64 x.aq.bh),.d (.int .i64 x.aq.aF),.d (.int .i64 x.aq.aH),.d (.int .i64 x.aW),.d (.str x.aj.aq.ar.aM),.d (.str x.aj.aq.ar.aN),.d (.str x.aj.aq.ar.ac),.d (.str x.aj.aq.ar.aO),.d (.int .i64 x.aj.aq.aL),.d (.int .i64 x.aj.aq.aY),.d (.int .i64 x.aj.aq.bh),.d (.int .i64 x.aj.aq.aF),.d (.int .i64 x.aj.aq.aH),.d (.lst (x.aj.aa.aB.map ae.pd)),.d (.int .i64 x.aj.aa.ac.aP.fX),.d (.int .i64 x.aj.aa.ac.aP.fY),.d (.int .i64 x.aj.aa.ac.aP.fZ),.d (.int .i64 x.aj.aa.ac.aL),.d (.int .i64 x.aj.aa.ac.aQ),.d (.int .i64 x.aj.aa.ac.bq),.d (.int .i64 x.aj.aa.ac.aD.aX.fX),.d (.int .i64 x.aj.aa.ac.aD.aX.fY),.d (.int .i64 x.aj.aa.ac.aD.aX.fZ),.d (.int .i64 x.aj.aa.ac.aD.aJ.fX),.d (.int .i64 x.aj.aa.ac.aD.aJ.fY),.d (.int .i64 x.aj.aa.ac.aD.aJ.fZ),.d (.int .i64 x.aj.aa.av.aX),.d (.int .i64 x.aj.aa.av.aJ),.d (.int .i64 x.aj.aa.bd),.d (.int .i64 x.fAt)]
@[reducible] def ag.rc(x:ag):List RV:=[.d (.int .i64 x.bg),.d (.int .i64 x.bk),.d (.int .i64 x.fID),.d (.int .i64 x.fAt),.d (.int .i64 x.aW),.d (.str x.aj.aq.ar.aM),.d (.str x.aj.aq.ar.aN),.d (.str x.aj.aq.ar.ac),.d (.str x.aj.aq.ar.aO),.d (.int .i64 x.aj.aq.aL),.d (.int .i64 x.aj.aq.aY),.d (.int .i64 x.aj.aq.bh),.d (.int .i64 x.aj.aq.aF),.d (.int .i64 x.aj.aq.aH),.d (.lst (x.aj.aa.aB.map ae.pd)),.d (.int .i64 x.aj.aa.ac.aP.fX),.d (.int .i64 x.aj.aa.ac.aP.fY),.d (.int .i64 x.aj.aa.ac.aP.fZ),.d (.int .i64 x.aj.aa.ac.aL),.d (.int .i64 x.aj.aa.ac.aQ),.d (.int .i64 x.aj.aa.ac.bq),.d (.int .i64 x.aj.aa.ac.aD.aX.fX),.d (.int .i64 x.aj.aa.ac.aD.aX.fY),.d (.int .i64 x.aj.aa.ac.aD.aX.fZ),.d (.int .i64 x.aj.aa.ac.aD.aJ.fX),.d (.int .i64 x.aj.aa.ac.aD.aJ.fY),.d (.int .i64 x.aj.aa.ac.aD.aJ.fZ),.d (.int .i64 x.aj.aa.av.aX),.d (.int .i64 x.aj.aa.av.aJ),.d (.int .i64 x.aj.aa.bd)]
@[reducible] def ai.rc(x:ai):List RV:=[.d (.str x.aq.ar.aM),.d (.str x.aq.ar.aN),.d (.str x.aq.ar.ac),.d (.str x.aq.ar.aO),.d (.int .i64 x.aq.aL),.d (.int .i64 x.aq.aY),.d (.int .i64 x.aq.bh),.d (.int .i64 x.aq.aF),.d (.int .i64 x.aq.aH),.d (.lst (x.aa.aB.map ae.pd)),.d (.int .i64 x.aa.ac.aP.fX),.d (.int .i64 x.aa.ac.aP.fY),.d (.int .i64 x.aa.ac.aP.fZ),.d (.int .i64 x.aa.ac.aL),.d (.int .i64 x.aa.ac.aQ),.d (.int .i64 x.aa.ac.bq),.d (.int .i64 x.aa.ac.aD.aX.fX),.d (.int .i64 x.aa.ac.aD.aX.fY),.d (.int .i64 x.aa.ac.aD.aX.fZ),.d (.int .i64 x.aa.ac.aD.aJ.fX),.d (.int .i64 x.aa.ac.aD.aJ.fY),.d (.int .i64 x.aa.ac.aD.aJ.fZ),.d (.int .i64 x.aa.av.aX),.d (.int .i64 x.aa.av.aJ),.d (.int .i64 x.aa.bd)]
@[reducible] def au.rc(x:au):List RV:=[.d (.lst (x.aB.map ae.pd)),.d (.int .i64 x.ac.aP.fX),.d (.int .i64 x.ac.aP.fY),.d (.int .i64 x.ac.aP.fZ),.d (.int .i64 x.ac.aL),.d (.int .i64 x.ac.aQ),.d (.int .i64 x.ac.bq),.d (.int .i64 x.ac.aD.aX.fX),.d (.int .i64 x.ac.aD.aX.fY),.d (.int .i64 x.ac.aD.aX.fZ),.d (.int .i64 x.ac.aD.aJ.fX),.d (.int .i64 x.ac.aD.aJ.fY),.d (.int .i64 x.ac.aD.aJ.fZ),.d (.int .i64 x.av.aX),.d (.int .i64 x.av.aJ),.d (.int .i64 x.bd)]
@[reducible] def ae.rc(x:ae):List RV:=[.d (.str x.ar.aM),.d (.str x.ar.aN),.d (.str x.ar.ac),.d (.str x.ar.aO),.d (.int .i64 x.aL),.d (.int .i64 x.aY),.d (.int .i64 x.bh),.d (.int .i64 x.aF),.d (.int .i64 x.aH)]
@[reducible] def aA.rc(x:aA):List RV:=[.d (.int .i64 x.aP.fX),.d (.int .i64 x.aP.fY),.d (.int .i64 x.aP.fZ),.d (.int .i64 x.aL),.d (.int .i64 x.aQ),.d (.int .i64 x.bq),.d (.int .i64 x.aD.aX.fX),.d (.int .i64 x.aD.aX.fY),.d (.int .i64 x.aD.aX.fZ),.d (.int .i64 x.aD.aJ.fX),.d (.int .i64 x.aD.aJ.fY),.d (.int .i64 x.aD.aJ.fZ)]
@[reducible] def aK.rc(x:aK):List RV:=[.d (.int .i64 x.av),.d (.int .i64 x.aB),.d (.int .i64 x.aQ),.d (.int .i64 x.bn)]
@[reducible] def aC.rc(x:aC):List RV:=[.d (.lst (x.bA.map aK.pd)),.d (.int .i64 x.aZ),.d (.int .i64 x.bI)]
@[reducible] def ak.rc(x:ak):List RV:=[.d (.lst (x.fL.map (PD.int .i64))),.d (.int .i64 x.fAt)]
@[reducible] def aw.rc(x:aw):List RV:=[.d (.int .i64 x.aX),.d (.int .i64 x.aJ)]
@[reducible] def ah.rc(x:ah):List RV:=[.d (.int .i64 x.fX),.d (.int .i64 x.fY),.d (.int .i64 x.fZ)]
@[reducible] def ap.rc(x:ap):List RV:=[.d (.str x.aM),.d (.str x.aN),.d (.str x.ac),.d (.str x.aO)]
@[reducible] def az.rc(x:az):List RV:=[.d (.lst (x.bJ.map PD.str)),.d (.bool x.fbad)]
@[reducible] def ba.rc(x:ba):List RV:=[.d (.int .i64 x.cM),.d (.int .i64 x.fAt),.d (.str x.fData)]
theorem Z{α:Sort _}{a:α}:a=a:=rfl
theorem Zk{α:Sort _}{a b:α}(h:a=b:=by kernel_rfl):a=b:=h
theorem gU{P:Program}{H:Hints}{ext:FuncId->Option jd}{f:FuncId}{nb:Nat}{R:List (Nat×RV)}{B:List (Nat×Box)}{Q:Ex->List (Nat×RV)->List (Nat×Box)->Prop}{id:Nat}{ops:Array Oper}{l:List Oper}{R0:List (Nat×RV)}{B0:List (Nat×Box)}{b:Code}(hl:(ops.toList,jY P nb (A R B) (H.at_ f nb id))=(l,some (A R0 B0)))
    (h:WO P H ext (H.hf f) ops l R0 B0 fun R' B' _=>WC P H ext f nb b R' B' Q):WC P H ext f nb (.seq (.region id ops false) b) R B Q:=gS (congrArg Prod.fst hl) (congrArg Prod.snd hl) h
theorem mM{P:Program}{H:Hints}{ext:FuncId->Option jd}{mt:Hf}{ops:Array Oper}{l:List Oper}{R:List (Nat×RV)}{B:List (Nat×Box)}{K:List (Nat×RV)->List (Nat×Box)->List Tr->Prop}{d e:Nat}{ty uy:TypeId}{p q:String}{af bf:Array Edge}{g k:Option (Nat×Bool)}{x y:Operand}{v w:RV}(hx:((A R B).opd x,(A ((d,v)::R) B).opd y)=(some v,some w))(h:WO P H ext mt ops l ((e,w)::(d,v)::R) B fun R' B' ts=>K R' B' (⟨[],[]⟩::⟨[],[]⟩::ts))(hw:iV ops (A R B) ⟨some d,.move x,ty,p,af,g⟩=some true:=by exact rfl)(hu:iV ops (A ((d,v)::R) B) ⟨some e,.move y,uy,q,bf,k⟩=some true:=by exact rfl):WO P H ext mt ops (⟨some d,.move x,ty,p,af,g⟩::⟨some e,.move y,uy,q,bf,k⟩::l) R B K:=
  sM (congrArg Prod.fst hx) (sM (congrArg Prod.snd hx) h hu) hw
def hintAt:FuncId->Nat->Nat->List pC:=fun f nb id=>
  if f=3 then(if nb=0 then(if id=6 then [.frz (.reg 6),.own 7 752 59,.iX [1,5,6,7,8,9,10] [128,304,752]]else if id=13 then [.frz (.reg 7),.iX [1,6,7] []]else if id=19 then [.iX [14,15,72,73] []]else if id=25 then [.iX [] []]else [])else [])else if f=6 then(if nb=1 then(if id=3 then [.ownp (.cell 48 0) 560 96,.iX [0,2,3,4] [0,32,48,560]]else if id=6 then [.iX [2,3] [0,32,48,560]]else [])else [])else if f=8 then(if nb=0 then(if id=10 then [.ownp (.cell 224 0) 90400 59,.iX [3,5,7,9,14,15,16,17,18,43,44,45] [80,112,144,224,240,592,640,90400]]else if id=19 then [.iX [3,5,7,9,14,15,16,17,18,20,21,22,43,44,45] [80,112,144,224,240,592,640,90400]]else if id=26 then [.iX [3,5,7,9,14,15,16,17,18] [80,112,144,224,240,592,640,90400]]else if id=27 then [.iX [5,7,9,14,15,16,17,18,135,136,137] [80,112,144,224,240,592,640,90400]]else if id=34 then [.iX [14,15,17] [224,240,592,90400]]else [])else [])else if f=9 then(if nb=1 then(if id=3 then [.own 5 1344 57,.iX [0,1,5,6] [0,1344]]else if id=8 then [.iX [0,1,5,6,7,23,24] [0,112,304,1344]]else if id=13 then [.frz (.cell 112 9),.iX [0,1,5,6,7] [0,112,1344]]else if id=16 then [.iX [5] [0,1344]]else [])else [])else if f=10 then(if nb=0 then(if id=3 then [.iX [0,3,7,8,9] [96]]else if id=7 then [.iX [0,3,5,7,8,9] [80,96]]else if id=11 then [.iX [] []]else [])else [])else if f=13 then(if nb=0 then(if id=3 then [.iX [0,3,10,11,12] [144]]else if id=7 then [.iX [0,3] [144]]else if id=9 then [.own 6 704 59,.iX [3,6,22,23,24] [144,704]]else if id=14 then [.iX [6] [704]]else [])else [])else if f=18 then(if nb=0 then(if id=8 then [.iX [1,4,36,37,38] [16,64,336]]else if id=12 then [.iX [1,4] [16,64,336]]else [])else [])else if f=22 then(if nb=0 then(if id=3 then [.iX [3,15,16,17] [224]]else if id=11 then [.iX [3] [224]]else if id=14 then [.own 10 1008 59,.iX [3,10,11] [224,1008]]else [])else [])else if f=29 then(if nb=0 then(if id=3 then [.iX [3,8,9] [96]]else if id=7 then [.iX [3] [96]]else [])else [])else if f=30 then(if nb=0 then(if id=3 then [.iX [0,1,5,21,22,23] [320]]else if id=9 then [.iX [0,1,5] [320]]else if id=12 then [.iX [0,1,5,10,11,48,49,50] [320,704,752]]else if id=19 then [.iX [0,1,10,11] [704,752]]else if id=20 then [.iX [1,10,11,79,80,81] [704,752]]else if id=24 then [.iX [1,10,11,16,17,79,80,81,95,96,97] [272,704,752]]else if id=29 then [.iX [1,10,11,79,80,81] [704,752]]else if id=30 then [.iX [10] [704]]else [])else [])else if f=34 then(if nb=1 then(if id=4 then [.ownp (.cell 80 9) 656 44,.iX [0,1,4,5,6,7] [0,64,80,656]]else if id=7 then [.iX [0,4,5,6] [0,64,80,656]]else [])else [])else if f=36 then(if nb=1 then(if id=5 then [.iX [0,1,5,6] [0]]else if id=11 then [.iX [0,5] [0]]else [])else [])else if f=44 then(if nb=0 then(if id=6 then [.ownp (.cell 80 14) 832 44,.iX [0,2,4,5,6,7] [32,80,208,832]]else if id=9 then [.iX [0,2,4,5,6] [32,80,208,832]]else [])else [])else if f=51 then(if nb=1 then(if id=1 then [.ownp (.cell 0 0) 320 9,.iX [0,6,7,8] [0,320]]else [])else if nb=2 then(if id=1 then [.bumpp (.cell 0 0),.iX [0,6,7,8] [0,1]]else [])else [])else if f=68 then(if nb=0 then(if id=4 then [.iX [32,33,34] []]else if id=9 then [.iX [] []]else [])else [])else if f=69 then(if nb=0 then(if id=6 then [.iX [3,4,13,14,15] [192]]else if id=17 then [.iX [] []]else [])else [])else if f=70 then(if nb=0 then(if id=3 then [.iX [0,3,12,13,14] [176]]else if id=8 then [.iX [0,3,6,12,13,14] [176]]else if id=9 then [.iX [0,3,12,13,14,53,54,55] [176]]else if id=16 then [.iX [0,3,12,13,14] [176]]else if id=17 then [.iX [] []]else [])else [])else if f=87 then(if nb=0 then(if id=2 then [.iX [0,1,7,8] []]else if id=7 then [.iX [] []]else [])else if nb=1 then(if id=2 then [.iX [0,1,7,8] [0]]else if id=7 then [.iX [] [0]]else [])else [])else if f=91 then(if nb=0 then(if id=4 then [.iX [0,1,5] []]else if id=8 then [.iX [] []]else [])else [])else if f=105 then(if nb=0 then(if id=3 then [.iX [0,3,9,10,11] []]else if id=9 then [.iX [0,3] []]else if id=11 then [.iX [6,25,26,27] [384]]else if id=15 then [.iX [6] [384]]else [])else [])else if f=140 then(if nb=0 then(if id=2 then [.iX [0,3] []]else if id=6 then [.iX [] []]else [])else [])else if f=150 then(if nb=0 then(if id=2 then [.iX [0,1,7,8] []]else if id=7 then [.iX [] []]else [])else if nb=1 then(if id=2 then [.iX [0,1,7,8] [0]]else if id=7 then [.iX [] [0]]else [])else [])else if f=177 then(if nb=0 then(if id=6 then [.own 0 80000 3,.mv (.reg 0) 90097,.iX [0] [90097]]else [])else [])else if f=187 then(if nb=0 then(if id=3 then [.iX [3,6,7,8] []]else if id=8 then [.iX [3] []]else [])else [])else if f=203 then(if nb=0 then(if id=5 then [.iX [0,1,4,5,6] [64,80]]else if id=9 then [.iX [4,5] [64,80]]else [])else [])else if f=204 then(if nb=0 then(if id=2 then [.iX [0,3,7,8] [48]]else if id=7 then [.iX [] []]else [])else [])else if f=205 then(if nb=0 then(if id=2 then [.iX [0,1,2,9,10] []]else if id=7 then [.iX [0,1,2] []]else [])else [])else if f=206 then(if nb=0 then(if id=2 then [.iX [0,1,7,8] []]else if id=7 then [.iX [] []]else [])else [])else []
def aU:Hints:={ at_:=hintAt,mt:=fun f i=>(f==177&&i==25),by_:=fun f i=>(f==36&&i==0)||(f==39&&i==0)||(f==177&&i==0),own:=fun f i=>(f==29&&i==0)||(f==34&&i==0)||(f==73&&i==0)||(f==74&&i==0)||(f==177&&i==0) }
@[reducible] def gI(nb f id:Nat)(R:List (Nat×RV))(B:List (Nat×Box))(R':List (Nat×RV))(B':List (Nat×Box)):Prop:=jY prog nb (A R' B') (aU.at_ f nb id)=some (A R B)
@[reducible] def gX(x nb f id:Nat)(R:List (Nat×RV))(B:List (Nat×Box))(e:Ex)(R':List (Nat×RV))(B':List (Nat×Box)):Prop:=e= .exit x∧gI nb f id R B R' B'
@[reducible] def gF(f:Nat)(fn:Func)(nb:Nat)(x:RV×List Box)(e:Ex)(R':List (Nat×RV))(B':List (Nat×Box)):Prop:=e= .ret∧finish prog (aU.own f) fn nb (A R' B')=some x
theorem eqE_44(a b:ae):pJ prog .eql 44 (.d a.pd) (.d b.pd)=some (.bool (((a.ar.aM==b.ar.aM)&&((a.ar.aN==b.ar.aN)&&((a.ar.ac==b.ar.ac)&&((a.ar.aO==b.ar.aO)&&true))))&&((a.aL==b.aL)&&((a.aY==b.aY)&&((a.bh==b.bh)&&((a.aF==b.aF)&&((a.aH==b.aH)&&true)))))),true):=by kernel_rfl
theorem eqN_44(a b:ae):pJ prog .neq 44 (.d a.pd) (.d b.pd)=some (.bool (!(((a.ar.aM==b.ar.aM)&&((a.ar.aN==b.ar.aN)&&((a.ar.ac==b.ar.ac)&&((a.ar.aO==b.ar.aO)&&true))))&&((a.aL==b.aL)&&((a.aY==b.aY)&&((a.bh==b.bh)&&((a.aF==b.aF)&&((a.aH==b.aH)&&true))))))),true):=by kernel_rfl
theorem eqE_51(a b:aA):pJ prog .eql 51 (.d a.pd) (.d b.pd)=some (.bool (((a.aP.fX==b.aP.fX)&&((a.aP.fY==b.aP.fY)&&((a.aP.fZ==b.aP.fZ)&&true)))&&((a.aL==b.aL)&&((a.aQ==b.aQ)&&((a.bq==b.bq)&&((((a.aD.aX.fX==b.aD.aX.fX)&&((a.aD.aX.fY==b.aD.aX.fY)&&((a.aD.aX.fZ==b.aD.aX.fZ)&&true)))&&(((a.aD.aJ.fX==b.aD.aJ.fX)&&((a.aD.aJ.fY==b.aD.aJ.fY)&&((a.aD.aJ.fZ==b.aD.aJ.fZ)&&true)))&&true))&&true))))),true):=by kernel_rfl
theorem eqE_53(a b:aw):pJ prog .eql 53 (.d a.pd) (.d b.pd)=some (.bool ((a.aX==b.aX)&&((a.aJ==b.aJ)&&true)),true):=by kernel_rfl
theorem gV : nu prog 44 ae.pd co := ⟨fun a b => by kernel_rfl, fun a => by kernel_rfl, fun a b h => by
  simp only [co,Bool.and_eq_true,beq_iff_eq]at h
  simp [ae.pd,nf,mA,mz,h]⟩
theorem hM:∀x y:ae,x.pd=y.pd->x=y:=by
  rintro⟨⟨z1,z2,z3,z4⟩,z5,z6,z7,z8,z9⟩ ⟨⟨z10,z11,z12,z13⟩,z14,z15,z16,z17,z18⟩ h
  cases h;rfl
theorem iE:∀x y:ag,x.pd=y.pd->x=y:=by
  rintro⟨z1,z2,z3,z4,z5,⟨⟨⟨z6,z7,z8,z9⟩,z10,z11,z12,z13,z14⟩,⟨z15,⟨⟨z16,z17,z18⟩,z19,z20,z21,⟨⟨z22,z23,z24⟩,⟨z25,z26,z27⟩⟩⟩,⟨z28,z29⟩,z30⟩⟩⟩ ⟨z31,z32,z33,z34,z35,⟨⟨⟨z36,z37,z38,z39⟩,z40,z41,z42,z43,z44⟩,⟨z45,⟨⟨z46,z47,z48⟩,z49,z50,z51,⟨⟨z52,z53,z54⟩,⟨z55,z56,z57⟩⟩⟩,⟨z58,z59⟩,z60⟩⟩⟩ h
  simp only [ag.pd,PD.agg.injEq,List.cons.injEq,PD.str.injEq,PD.int.injEq,PD.bool.injEq,PD.lst.injEq,and_true,List.map_inj_right hM]at h
  simp only [h]
theorem T_api_Rule_inj0:∀x y:aK,x.pd=y.pd->x=y:=by
  rintro⟨z1,z2,z3,z4⟩ ⟨z5,z6,z7,z8⟩ h
  cases h;rfl
theorem T_api_Policy_inj:∀x y:aC,x.pd=y.pd->x=y:=by
  rintro⟨z1,z2,z3⟩ ⟨z4,z5,z6⟩ h
  simp only [aC.pd,PD.agg.injEq,List.cons.injEq,PD.str.injEq,PD.int.injEq,PD.bool.injEq,PD.lst.injEq,and_true,List.map_inj_right T_api_Rule_inj0]at h
  simp only [h]
theorem T_api_Event_inj:∀x y:ai,x.pd=y.pd->x=y:=by
  rintro⟨⟨⟨z1,z2,z3,z4⟩,z5,z6,z7,z8,z9⟩,⟨z10,⟨⟨z11,z12,z13⟩,z14,z15,z16,⟨⟨z17,z18,z19⟩,⟨z20,z21,z22⟩⟩⟩,⟨z23,z24⟩,z25⟩⟩ ⟨⟨⟨z26,z27,z28,z29⟩,z30,z31,z32,z33,z34⟩,⟨z35,⟨⟨z36,z37,z38⟩,z39,z40,z41,⟨⟨z42,z43,z44⟩,⟨z45,z46,z47⟩⟩⟩,⟨z48,z49⟩,z50⟩⟩ h
  simp only [ai.pd,PD.agg.injEq,List.cons.injEq,PD.str.injEq,PD.int.injEq,PD.bool.injEq,PD.lst.injEq,and_true,List.map_inj_right hM]at h
  simp only [h]
def ext0:FuncId->Option jd:=fun _=>none
theorem gi{a0:Int}{r:Bool}(h:dJ a0=some r):EvP prog aU ext0 90 [rI a0] [] (rB r,[]):=by
 refine Ev.body Z Tryz.func90 Z Zk<|gU Z<|sU<|sN<|gU Z<|mM Z<|sV (rB (a0 != a0))<|sA Z<|sN<|qR ?_
 exact oI h▸qD
theorem iz{a0:Int}{a1:Int}{r:Int}(h:bi a0 a1=some r):EvP prog aU ext0 41 [rI a0,rI a1] [] (rI r,[]):=by
 refine Ev.body Z Tryz.func41 Z Zk<|gU Z<|sV (r0)<|sN<|gU Z<|sM Z<|bE h fun x1 h1 h=>cD (gi h1)<|sA Z<|sN<|gU Z<|sM Z<|bE h fun x2 h2 h=>cD (gi h2)<|sA Z ?_
 refine sN<|qS<|gU Z<|sF h ?_ ?_<;>intro h
 ·refine sN<|cT<|qS<|gU Z<|sF h ?_ ?_<;>intro h
  ·refine sN<|cT<|gU Z<|sV (r0)<|sN<|qR ?_
   exact oI h▸qD
  refine sN<|cF<|qK<|gU Z<|sV (rI (-1))<|sN<|qR ?_
  exact oI h▸qD
 refine sN<|cF<|qK<|qS<|gU Z<|sF h ?_ ?_<;>intro h
 ·refine sN<|cT<|gU Z<|sV (rI 1)<|sN<|qR ?_
  exact oI h▸qD
 refine sN<|cF<|qK<|qS<|gU Z<|mM Z<|sF h ?_ ?_<;>intro h
 ·refine sN<|cT<|gU Z<|sV (rI (-1))<|sN<|qR ?_
  exact oI h▸qD
 refine sN<|cF<|qK<|qS<|gU Z<|mM Z<|sF h ?_ ?_<;>intro h
 ·refine sN<|cT<|gU Z<|sV (rI 1)<|sN<|qR ?_
  exact oI h▸qD
 refine sN<|cF<|qK<|gU Z<|sV (r0)<|sN<|qR ?_
 exact oI h▸qD
theorem hU{a0:ag}{a1:ag}{r:Int}(h:bc a0 a1=some r):EvP prog aU ext0 40 [.d (ag.pd a0),.d (ag.pd a1)] [] (rI r,[]):=by
 refine Ev.body Z Tryz.func40 Z Zk<|gU Z<|sB (.ptr 32 0) 32 (.var (ag.rc a0))<|sB (.ptr 48 0) 48 (.var (ag.rc a1))<|sV (r0)<|sN<|gU Z<|sV (.ptr 32 2)<|sL Z<|sV (.ptr 48 2)<|sL Z<|bE h fun x1 h1 h=>cD (iz h1)<|sA Z<|sN ?_
 refine qR ?_
 cases oI h
 exact qG
theorem rule_valid_ev0{a0:aK}{r:Bool}(h:ge a0=some r):EvP prog aU ext0 139 [.d (aK.pd a0)] [] (rB r,[]):=by
 refine Ev.body Z Tryz.func139 Z Zk<|gU Z<|sB (.ptr 16 0) 16 (.var (aK.rc a0))<|sU<|sN<|gU Z<|sV (.ptr 16 0)<|sL Z<|sF h ?_ ?_<;>intro h
 ·refine sM Z<|sV (.ptr 16 0)<|sL Z<|sV (rB (decide (a0.av<=(2000:Int))))<|sF h ?_ ?_<;>intro h
  ·refine sM Z<|sV (.ptr 16 1)<|sL Z<|sV (rB (decide (a0.aB>=(1:Int))))<|sF h ?_ ?_<;>intro h
   ·refine sM Z<|sV (.ptr 16 1)<|sL Z<|sV (rB (decide (a0.aB<=(64:Int))))<|sF h ?_ ?_<;>intro h
    ·refine sM Z<|sV (.ptr 16 2)<|sL Z<|sV (.ptr 16 3)<|sL Z<|sV (rI (if a0.bn<a0.aQ then a0.bn else a0.aQ))<|sV (rB (decide ((if a0.bn<a0.aQ then a0.bn else a0.aQ)>=(0:Int))))<|sF h ?_ ?_<;>intro h
     ·refine sM Z<|sV (.ptr 16 2)<|sL Z<|sV (.ptr 16 3)<|sL Z<|sV (rI (if a0.bn>a0.aQ then a0.bn else a0.aQ))<|sV (rB (decide ((if a0.bn>a0.aQ then a0.bn else a0.aQ)<=(9007199254740992:Int))))<|sV (rB (decide ((if a0.bn>a0.aQ then a0.bn else a0.aQ)<=(9007199254740992:Int))))<|sA Z<|sN<|qR ?_
      exact oI h▸qD
     refine sM Z<|k3<|k3<|sU<|sA Z<|sN<|qR ?_
     exact oI h▸qD
    refine sM Z<|k3<|k3<|sU<|sM Z<|k3<|sK<|sK<|sK ?_
    refine sU<|sA Z<|sN<|qR ?_
    exact oI h▸qD
   refine sM Z<|k3<|sU<|sM Z<|k3<|k3<|sU<|sM Z<|sK ?_
   refine k3<|sK<|sK<|sU<|sA Z<|sN<|qR ?_
   exact oI h▸qD
  refine sM Z<|k3<|sU<|sM Z<|k3<|sU<|sM Z<|k3<|sK ?_
  refine sK<|sK<|sU<|sM Z<|k3<|k3<|sU<|sA Z<|sN<|qR ?_
  exact oI h▸qD
 refine sM Z<|k3<|sU<|sM Z<|k3<|sU<|sM Z<|k3<|sU ?_
 refine sM Z<|k3<|k3<|sU<|sM Z<|k3<|sK<|sK<|sK ?_
 refine sU<|sA Z<|sN<|qR ?_
 exact oI h▸qD
theorem iQ{a0:aC}{r:Int}(h:cu a0=some r):EvP prog aU ext0 68 [.d (aC.pd a0)] [] (rI r,[]):=by
 refine Ev.body Z Tryz.func68 Z Zk<|gU Z<|sB (.ptr 16 0) 16 (.var (aC.rc a0))<|sV (r0)<|sN<|qS<|gU Z<|sV (.ptr 16 0)<|sL Z<|sE (rI (a0.bA.length:Int)) (hF _ _)<|sF h ?_ ?_<;>intro h
 ·refine sM Z<|k3<|sK<|sT<|sM Z<|k3<|k3<|sT<|sM Z ?_
  refine k3<|k3<|sT<|sN<|cT<|gU Z<|sV (rI 27)<|sN<|qR ?_
  exact oI h▸qD
 refine sM Z<|sV (.ptr 16 0)<|sL Z<|sE (rI (a0.bA.length:Int)) (hF _ _)<|sV (rB (decide ((a0.bA.length:Int)>(8:Int))))<|sF h ?_ ?_<;>intro h
 ·refine sM Z<|k3<|k3<|sT<|sM Z<|k3<|sK<|sK<|sK ?_
  refine sT<|sN<|cT<|gU Z<|sV (rI 27)<|sN<|qR ?_
  exact oI h▸qD
 refine sM Z<|sV (.ptr 16 1)<|sL Z<|sV (.ptr 16 2)<|sL Z<|sV (rI (if a0.bI<a0.aZ then a0.bI else a0.aZ))<|sV (rB (decide ((if a0.bI<a0.aZ then a0.bI else a0.aZ)<(0:Int))))<|sF h ?_ ?_<;>intro h
 ·refine sM Z<|k3<|k3<|sT<|sN<|cT<|gU Z<|sV (rI 27)<|sN<|qR ?_
  exact oI h▸qD
 refine sM Z<|sV (.ptr 16 1)<|sL Z<|sV (.ptr 16 2)<|sL Z<|sV (rI (if a0.bI>a0.aZ then a0.bI else a0.aZ))<|sV (rB (decide ((if a0.bI>a0.aZ then a0.bI else a0.aZ)>(9007199254740992:Int))))<|sF h ?_ ?_<;>intro h
 ·refine sN<|cT<|gU Z<|sV (rI 27)<|sN<|qR ?_
  exact oI h▸qD
 refine sN<|cF<|qK<|qS<|gU Z<|sV (.ptr 16 0)<|sL Z<|sE (rI (a0.bA.length:Int)) (hF _ _)<|sV (r0)<|sN<|bE h fun o12 ho12 h=>WC.block (WC.loop (WL.jg ho12 (fun s=>gI 0 68 4 [(32,rM aK.pd a0.bA),(33,rI (a0.bA.length:Int)),(34,rI s)] []) (fun o=>match o with| .inl y=>gX 0 0 68 9 [] []| .inr r=>gF 68 Tryz.f68 0 (rI r,[])) Z ?_ ?_))
 ·rintro s5 R' B' q6 hI h
  refine gS Z hI<|sF h ?_ ?_<;>intro h
  ·refine sN<|qS<|cT<|qK<|qS<|qB<|gU Z<|bE h fun x8 h8 h=>eG h8 Z<|sV (.d (aK.pd x8))<|sB (.ptr 64 0) 64 (.var [r0,r0,r0,r0])<|sS 64 (.var (aK.rc x8))<|sN<|gU Z<|sV (.d (aK.pd x8)) ?_
   refine bE h fun x9 h9 h=>cD (rule_valid_ev0 h9)<|sF h ?_ ?_<;>intro h
   ·refine sN<|cT<|gU Z<|sV (rI 27)<|sN<|qR ?_
    cases oI h
    exact⟨nofun,rfl,rfl⟩
   refine sN<|cF<|qK<|WC.region Z Z<|sV (rI (rW (s5+(1:Int))))<|sM Z<|sN ?_
   cases oI h
   exact⟨rfl,rfl⟩
  refine sN<|qS<|cF<|qX ?_
  cases oI h
  exact⟨nofun,rfl,rfl⟩
 intro e R' B' he hq
 rcases o12 with y13|r14
 ·obtain⟨rfl,hI⟩:=hq
  refine qE<|gS Z hI<|sV (r0)<|sN<|qR ?_
  exact oI h▸qD
 obtain⟨rfl,hf⟩:=hq
 cases oI h
 exact hf
theorem rule_Meets_ev0{a0:aK}{a1:ai}{r:Bool}(h:dw a0 a1=some r):EvP prog aU ext0 77 [.d (aK.pd a0),.d (ai.pd a1)] [] (rB r,[]):=by
 refine Ev.body Z Tryz.func77 Z Zk<|gU Z<|sB (.ptr 32 0) 32 (.var (aK.rc a0))<|sB (.ptr 48 0) 48 (.var (ai.rc a1))<|sU<|sN<|gU Z<|sV (.ptr 48 9)<|sV (.d (au.pd a1.aa))<|sB (.ptr 80 0) 80 (.var zZ3)<|sH 80 (.var (au.rc a1.aa))<|sN<|gU Z<|sV (.ptr 80 15)<|sL Z ?_
 refine sF h ?_ ?_<;>intro h
 ·refine sM Z<|sV (.ptr 80 13)<|sV (.ptr 80 13)<|sL Z<|sV (.ptr 32 0)<|sL Z<|sV (rB (decide (a1.aa.av.aX>=a0.av)))<|sF h ?_ ?_<;>intro h
  ·refine sM Z<|sV (.ptr 80 0)<|sL Z<|sE (rI (a1.aa.aB.length:Int)) (hF _ _)<|sV (.ptr 32 1)<|sL Z<|sV (rB (decide ((a1.aa.aB.length:Int)>=a0.aB)))<|sF h ?_ ?_<;>intro h
   ·refine sM Z<|sV (.ptr 80 1)<|sV (.ptr 80 5)<|sL Z<|sV (.ptr 32 2)<|sL Z<|sV (rB (decide (a1.aa.ac.aQ<=a0.aQ)))<|sV (rB (decide (a1.aa.ac.aQ<=a0.aQ)))<|sA Z<|sN<|qR ?_
    cases oI h
    exact qG
   refine sM Z<|k3<|k3<|sU<|sA Z<|sN<|qR ?_
   cases oI h
   exact qG
  refine sM Z<|k3<|k3<|sU<|sM Z<|k3<|sK<|sK<|sK ?_
  refine sU<|sA Z<|sN<|qR ?_
  cases oI h
  exact qG
 refine sM Z<|k3<|k3<|sU<|sM Z<|k3<|sK<|sK<|sK ?_
 refine sU<|sM Z<|k3<|k3<|sU<|sA Z<|sN<|qR ?_
 cases oI h
 exact qG
noncomputable def ext:FuncId->Option jd:=fun f=>if f=92 then some qe else if f=103 then some sn else if f=165 then some rQ else if f=54 then some sq else if f=39 then some (qd 40 59 ag.pd bc)else if f=74 then some (oC 61 38 384)else if f=73 then some (oC 44 9 104)else if f=31 then some (qH aC.pd ai.pd cw)else none
theorem sort_39_40{l r:List ag}(h:oo bc l=some r):EvP prog aU ext 39 [.ref 0 0,.d (.raw (.func (.func 40) #[] #[]))] [.arr 0 59 (l.map ag.pd)] (.tup [],[.arr 0 59 (r.map ag.pd)]):=sort_ev rfl (uL iE h)
theorem clone_74{l r:List am}(h:lS 384 l=some r):EvP prog aU ext 74 [rM am.pd l] [] (.ref 0 0,[.arr 0 61 (r.map am.pd)]):=rX (g:=am.pd) rfl (fun _=>rfl) h
theorem clone_73{l r:List ae}(h:lS 104 l=some r):EvP prog aU ext 73 [rM ae.pd l] [] (.ref 0 0,[.arr 0 44 (r.map ae.pd)]):=rX (g:=ae.pd) rfl (fun _=>rfl) h
theorem keep_New_ev{a0:(List Int)}{r:ak}(h:iM a0=some r):EvP prog aU ext 5 [rL a0] [] (.ptr 0 0,[.var (ak.rc r)]):=by
 refine Ev.body Z Tryz.func5 Z Zk<|gU Z<|sV (.d (.raw (.pointer none)))<|sN<|gU Z<|mM Z<|sE (rI (a0.length:Int)) (hF _ _)<|sV (rI (if(2000:Int)<(a0.length:Int)then(2000:Int)else(a0.length:Int)))<|bE h fun x1 h1 h=>WO.cutL (sz:=1) (g:=(PD.int .i64)) h1 (fun _=>Z) Z Z Z Z Z Z Z Z Z Z Z<|sV (.d (ak.pd (ak.mk x1 0)))<|sB (.ptr 144 0) 144 (.var [rL x1,r0])<|sA Z<|sN ?_
 refine qR ?_
 exact oI h▸qD
theorem Src_Raw_ev{d0:ak}{r:Int×ak}(h:Src_Raw d0=some r):EvP prog aU ext 25 [.ptr 0 0] [.var (ak.rc d0)] (rI r.1,[.var (ak.rc r.2)]):=by
 refine Ev.body Z Tryz.func25 Z Zk<|gU Z<|sV (r0)<|sN<|qS<|WC.iu Z Z<|sM Z<|sV (.ptr 0 0)<|sV (.ptr 0 1)<|sL Z<|sM Z<|sV (.ptr 0 0)<|sV (.ptr 0 0)<|sL Z<|sE (rI (d0.fL.length:Int)) (hF _ _) ?_
 refine sF h ?_ ?_<;>intro h
 ·refine sN<|sO<|cT<|gU Z<|sV (r0)<|sN<|qR ?_
  exact oI h▸qD
 refine sN<|sO<|cF<|qK<|gU Z<|sM Z<|sV (.ptr 0 0)<|sV (.ptr 0 1)<|sL Z<|sV (rI (rW (d0.fAt+(1:Int))))<|sV (.ptr 0 0)<|sV (.ptr 0 1)<|sS 0 (.var [rL d0.fL,rI (rW (d0.fAt+(1:Int)))])<|sN<|WC.iu Z Z<|sM Z ?_
 refine sV (.ptr 0 0)<|sV (.ptr 0 0)<|sL Z<|sM Z<|sV (.ptr 0 0)<|sV (.ptr 0 1)<|sL Z<|sV (rI (rW ((rW (d0.fAt+(1:Int)))-(1:Int))))<|bE h fun x2 h2 h=>eG h2 Z<|sC Z<|sA Z ?_
 refine sN<|sO<|qR ?_
 exact oI h▸qD
theorem ia{a0:Int}{a1:Int}{r:Int}(h:gL a0 a1=some r):EvP prog aU ext 11 [rI a0,rI a1] [] (rI r,[]):=by
 refine Ev.body Z Tryz.func11 Z Zk<|gU Z<|sV (r0)<|sN<|qS<|gU Z<|sM Z<|sF h ?_ ?_<;>intro h
 ·refine sN<|cT<|gU Z<|sV (r0)<|sN<|qR ?_
  exact oI h▸qD
 refine sN<|cF<|qK<|gU Z<|mM Z<|bE h fun x2 h2 h=>WO.remG h2 Z Z Z Z Z Z<|sA Z<|sN<|qS<|gU Z<|sM Z<|sF h ?_ ?_<;>intro h
 ·refine sN<|cT<|WC.region Z Z<|mM Z<|sV (rI (rW (x2+a1)))<|sA Z<|sN<|gU Z<|sM Z<|sA Z<|sN<|qR ?_
  exact oI h▸qD
 refine sN<|cF<|qK<|gU Z<|sM Z<|sA Z<|sN<|qR ?_
 exact oI h▸qD
theorem cb{a1:Int}{d0:ak}{r:Int×ak}(h:dW a1 d0=some r):EvP prog aU ext 7 [.ptr 0 0,rI a1] [.var (ak.rc d0)] (rI r.1,[.var (ak.rc r.2)]):=by
 refine Ev.body Z Tryz.func7 Z Zk<|gU Z<|sV (r0)<|sN<|gU Z<|sM Z<|bE h fun x1 h1 h=>cR (rI x1.1) [(0,.var (ak.rc x1.2))] (Src_Raw_ev h1)<|sM Z<|bE h fun x2 h2 h=>cD (ia h2)<|sA Z<|sN<|qR ?_
 exact oI h▸qD
theorem fk{a1:(List Int)}{d0:ak}{r:Int×ak}(h:fj a1 d0=some r):EvP prog aU ext 24 [.ptr 0 0,rL a1] [.var (ak.rc d0)] (rI r.1,[.var (ak.rc r.2)]):=by
 refine Ev.body Z Tryz.func24 Z Zk<|gU Z<|sV (r0)<|sN<|gU Z<|mM Z<|sM Z<|sE (rI (a1.length:Int)) (hF _ _)<|bE h fun x1 h1 h=>cR (rI x1.1) [(0,.var (ak.rc x1.2))] (cb h1)<|bE h fun x2 h2 h=>eG h2 Z<|sC Z<|sA Z ?_
 refine sN<|qR ?_
 exact oI h▸qD
theorem Src_Policy_ev{d0:ak}{r:aC×ak}(h:eL d0=some r):EvP prog aU ext 6 [.ptr 0 0] [.var (ak.rc d0)] (.d (aC.pd r.1),[.var (ak.rc r.2)]):=by
 refine Ev.body Z Tryz.func6 Z Zk<|gU Z<|sB (.ptr 32 0) 32 (.var [.iZ,r0,r0])<|sN<|gU Z<|sM Z<|sV (.d (.lst ([0,2,10,1000].map (PD.int .i64))))<|bE h fun x1 h1 h=>cR (rI x1.1) [(0,.var (ak.rc x1.2))] (fk h1)<|sM Z<|sV (.d (.lst ([0,0,50,500].map (PD.int .i64))))<|bE h fun x2 h2 h=>cR (rI x2.1) [(0,.var (ak.rc x2.2))] (fk h2)<|sV (.agg [.iZ,rI x1.1,rI x2.1])<|sB (.ptr 48 0) 48 (.var [.iZ,r0,r0]) ?_
 refine sS 48 (.var [.iZ,rI x1.1,rI x2.1])<|sN<|qS<|gU Z<|sM Z<|bE h fun x3 h3 h=>cR (rI x3.1) [(0,.var (ak.rc x3.2))] (cb h3)<|sV (rI (rW ((1:Int)+x3.1)))<|sA Z<|sN<|bE h fun o19 ho19 h=>WC.block (WC.loop (WL.jg ho19 (fun s=>gI 1 6 3 [(0,.ptr 0 0),(2,.ptr 32 0),(3,.ptr 48 0),(4,rI s.1)] [(0,.var [rL s.2.1,rI s.2.2.1]),(32,.var [.iZ,r0,r0]),(48,.var [.ref 560 0,rI x1.1,rI x2.1]),(560,.arr 0 96 (s.2.2.2.map aK.pd))]) (fun o=>gX 0 1 6 6 [(2,.ptr 32 0),(3,.ptr 48 0)] [(0,.var [rL o.1,rI o.2.1]),(32,.var [.iZ,r0,r0]),(48,.var [.ref 560 0,rI x1.1,rI x2.1]),(560,.arr 0 96 (o.2.2.map aK.pd))]) Z ?_ ?_))
 ·rintro⟨s4,s5,s6,s7⟩ R' B' q11 hI h
  refine qS<|gS Z hI<|sM Z<|sF h ?_ ?_<;>intro h
  ·refine sN<|cT<|qK<|qS<|qB<|WC.kK Z Z<|sV (.ptr 48 0)<|sL Z<|sM Z<|bE h fun x13 h13 h=>cR (rI x13.1) [(0,.var (ak.rc x13.2))] (cb h13)<|sV (rI (rW (x13.1-(100:Int))))<|sM Z<|bE h fun x14 h14 h=>cR (rI x14.1) [(0,.var (ak.rc x14.2))] (cb h14) ?_
   refine sV (rI (rW ((1:Int)+x14.1)))<|sM Z<|sV (.d (.lst ([0,10,100,10000].map (PD.int .i64))))<|bE h fun x15 h15 h=>cR (rI x15.1) [(0,.var (ak.rc x15.2))] (fk h15)<|sM Z<|sV (.d (.lst ([0,500,2000,100000].map (PD.int .i64))))<|bE h fun x16 h16 h=>cR (rI x16.1) [(0,.var (ak.rc x16.2))] (fk h16)<|sV (.d (aK.pd (aK.mk (rW (x13.1-(100:Int))) (rW ((1:Int)+x14.1)) x15.1 x16.1)))<|sV (.d (.lst ([(aK.mk (rW (x13.1-(100:Int))) (rW ((1:Int)+x14.1)) x15.1 x16.1)].map aK.pd)))<|bE h fun x17 h17 h=>aR h17 (fun _=>Z) Z<|sV (.ptr 48 0)<|sS 48 (.var [.ref 560 1,rI x1.1,rI x2.1]) ?_
   refine sN<|sO<|WC.region Z Z<|sM Z<|sV (rI (rW (s4-(1:Int))))<|sA Z<|sN ?_
   cases oI h
   exact⟨rfl,rfl⟩
  refine sN<|cF<|qX ?_
  cases oI h
  exact⟨nofun,rfl,rfl⟩
 intro e R' B' he hq
 obtain⟨rfl,hI⟩:=hq
 refine qE<|gS Z hI<|sV (.agg [.ref 560 0,rI x1.1,rI x2.1])<|sS 32 (.var [.ref 560 0,rI x1.1,rI x2.1])<|sN<|qR ?_
 exact oI h▸qD
theorem ib{a0:Int}{r:ap}(h:dZ a0=some r):EvP prog aU ext 81 [rI a0] [] (.d (ap.pd r),[]):=by
 refine Ev.body Z Tryz.func81 Z Zk<|gU Z<|sB (.ptr 32 0) 32 (.var [rS [],rS [],rS [],rS []])<|sN<|gU Z<|sV (.d (.lst ([[83,49],[83,50],[83,51],[83,52],[83,53],[83,54]].map PD.str)))<|sM Z<|bE h fun x1 h1 h=>cD (ia h1)<|bE h fun x2 h2 h=>eG h2 Z<|sC Z<|sV (.d (ap.pd (ap.mk [65,66] x2 [48,48] [66,72,90])))<|sS 32 (.var [rS [65,66],rS x2,rS [48,48],rS [66,72,90]])<|sN ?_
 refine qR ?_
 exact oI h▸qD
theorem Src_Place_ev{a1:Int}{d0:ak}{r:ah×ak}(h:iw a1 d0=some r):EvP prog aU ext 82 [.ptr 0 0,rI a1] [.var (ak.rc d0)] (.d (ah.pd r.1),[.var (ak.rc r.2)]):=by
 refine Ev.body Z Tryz.func82 Z Zk<|gU Z<|sB (.ptr 64 0) 64 (.var [r0,r0,r0])<|sN<|gU Z<|mM Z<|sV (rI (rW ((2:Int)*a1)))<|sV (rI (rW ((rW ((2:Int)*a1))+(1:Int))))<|bE h fun x1 h1 h=>cR (rI x1.1) [(0,.var (ak.rc x1.2))] (cb h1)<|sM Z<|sV (rI (rW (x1.1-a1)))<|sM Z<|sM Z ?_
 refine sV (rI (rW ((2:Int)*a1)))<|sV (rI (rW ((rW ((2:Int)*a1))+(1:Int))))<|bE h fun x2 h2 h=>cR (rI x2.1) [(0,.var (ak.rc x2.2))] (cb h2)<|sM Z<|sV (rI (rW (x2.1-a1)))<|mM Z<|sV (rI (rW (a1+(1:Int))))<|bE h fun x3 h3 h=>cR (rI x3.1) [(0,.var (ak.rc x3.2))] (cb h3)<|sV (.d (ah.pd (ah.mk (rW (x1.1-a1)) (rW (x2.1-a1)) x3.1)))<|sS 64 (.var [rI (rW (x1.1-a1)),rI (rW (x2.1-a1)),rI x3.1])<|sN<|qR ?_
 exact oI h▸qD
theorem Src_Event_ev{a1:Int}{d0:ak}{r:ai×ak}(h:eJ a1 d0=some r):EvP prog aU ext 34 [.ptr 0 0,rI a1] [.var (ak.rc d0)] (.agg (ae.rc r.1.aq++ .ref 1 0::aA.rc r.1.aa.ac++aw.rc r.1.aa.av++[rI r.1.aa.bd]),[.var (ak.rc r.2),.arr 0 44 (r.1.aa.aB.map ae.pd)]):=by
 refine Ev.body Z Tryz.func34 Z Zk<|gU Z<|sB (.ptr 64 0) 64 (.var zZ2)<|sN<|gU Z<|sB (.ptr 80 0) 80 (.var zZ2)<|sN<|gU Z<|sM Z<|bE h fun x1 h1 h=>cR (rI x1.1) [(0,.var (ak.rc x1.2))] (cb h1)<|sV (rI (rW ((1000:Int)+x1.1)))<|sA Z<|sN<|qS ?_
 refine gU Z<|sV (r0)<|sN<|bE h fun o16 ho16 h=>WC.block (WC.loop (WL.jg ho16 (fun s=>gI 1 34 4 [(0,.ptr 0 0),(1,rI a1),(4,.ptr 64 0),(5,.ptr 80 0),(6,rI (rW ((1000:Int)+x1.1))),(7,rI s.1)] [(0,.var [rL s.2.1,rI s.2.2.1]),(64,.var zZ2),(80,.var [rS [],rS [],rS [],rS [],r0,r0,r0,r0,r0,.ref 656 0,r0,r0,r0,r0,r0,r0,r0,r0,r0,r0,r0,r0,r0,r0,r0]),(656,.arr 0 44 (s.2.2.2.map ae.pd))]) (fun o=>gX 0 1 34 7 [(0,.ptr 0 0),(4,.ptr 64 0),(5,.ptr 80 0),(6,rI (rW ((1000:Int)+x1.1)))] [(0,.var [rL o.1,rI o.2.1]),(64,.var zZ2),(80,.var [rS [],rS [],rS [],rS [],r0,r0,r0,r0,r0,.ref 656 0,r0,r0,r0,r0,r0,r0,r0,r0,r0,r0,r0,r0,r0,r0,r0]),(656,.arr 0 44 (o.2.2.map ae.pd))]) Z ?_ ?_))
 ·rintro⟨s2,s3,s4,s5⟩ R' B' q9 hI h
  unfold fb at h
  refine qS<|gS Z hI<|mM Z<|bE h fun x10 h10 h=>cR (rI x10.1) [(0,.var (ak.rc x10.2))] (cb h10)<|sV (rI (rW ((1:Int)+x10.1)))<|sF h ?_ ?_<;>intro h
  ·refine sN<|cT<|qK<|qS<|qB<|WC.kK Z Z<|sV (.ptr 80 9)<|sV (.ptr 80 9)<|sL Z<|sM Z<|bE h fun x12 h12 h=>cD (ib h12)<|mM Z<|sV (rI (rW ((10:Int)*a1))) ?_
   refine sV (rI (rW ((rW ((1000:Int)+x1.1))+(rW ((10:Int)*a1)))))<|mM Z<|sV (rI (rW ((10:Int)*a1)))<|sV (rI (rW ((rW ((1000:Int)+x1.1))+(rW ((10:Int)*a1)))))<|mM Z<|sV (rI (rW ((10:Int)*a1)))<|sV (rI (rW ((rW ((1000:Int)+x1.1))+(rW ((10:Int)*a1)))))<|sM Z<|bE h fun x13 h13 h=>cR (rI x13.1) [(0,.var (ak.rc x13.2))] (cb h13)<|sV (rI (rW ((rW ((rW ((1000:Int)+x1.1))+(rW ((10:Int)*a1))))+x13.1)))<|sM Z<|sG (.d (ae.pd (ae.mk x12 (rW ((rW ((1000:Int)+x1.1))+(rW ((10:Int)*a1)))) (rW ((rW ((1000:Int)+x1.1))+(rW ((10:Int)*a1)))) (rW ((rW ((rW ((1000:Int)+x1.1))+(rW ((10:Int)*a1))))+x13.1)) a1 0))) ?_
   refine sG (.d (.lst ([(ae.mk x12 (rW ((rW ((1000:Int)+x1.1))+(rW ((10:Int)*a1)))) (rW ((rW ((1000:Int)+x1.1))+(rW ((10:Int)*a1)))) (rW ((rW ((rW ((1000:Int)+x1.1))+(rW ((10:Int)*a1))))+x13.1)) a1 0)].map ae.pd)))<|bE h fun x14 h14 h=>aR h14 (fun _=>Z) Z<|sV (.ptr 80 9)<|sV (.ptr 80 9)<|sS 80 (.var [rS [],rS [],rS [],rS [],r0,r0,r0,r0,r0,.ref 656 1,r0,r0,r0,r0,r0,r0,r0,r0,r0,r0,r0,r0,r0,r0,r0]) ?_
   refine sN<|sO<|WC.region Z Z<|sM Z<|sV (rI (rW (s2+(1:Int))))<|sA Z<|sN ?_
   cases oI h
   exact⟨rfl,rfl⟩
  refine sN<|cF<|qX ?_
  cases oI h
  exact⟨nofun,rfl,rfl⟩
 intro e R' B' he hq
 obtain⟨rfl,hI⟩:=hq
 refine qE<|gS Z hI<|sV (.ptr 80 9)<|sV (.ptr 80 9)<|sL Z<|bE h fun x18 h18 h=>WO.mU h18 Z Z Z Z Z Z Z Z<|bE h fun x19 h19 h=>WO.mY h19 Z Z Z Z Z Z<|sV (.ptr 80 0)<|sH 80 (.var (ae.rc x19++[.ref 656 0,r0,r0,r0,r0,r0,r0,r0,r0,r0,r0,r0,r0,r0,r0,r0]))<|sN<|gU Z<|sM Z<|bE h fun x20 h20 h=>?_
 refine cR (.d (ah.pd x20.1)) [(0,.var (ak.rc x20.2))] (Src_Place_ev h20)<|mM Z<|bE h fun x21 h21 h=>cR (rI x21.1) [(0,.var (ak.rc x21.2))] (cb h21)<|sV (rI (rW ((rW ((1000:Int)+x1.1))-x21.1)))<|sM Z<|sV (.d (.lst ([0,0,5,500].map (PD.int .i64))))<|bE h fun x22 h22 h=>cR (rI x22.1) [(0,.var (ak.rc x22.2))] (fk h22)<|sG (.d (aA.pd (aA.mk x20.1 (rW ((rW ((1000:Int)+x1.1))-x21.1)) x22.1 0 (aS.mk (ah.mk 0 0 0) (ah.mk 0 0 0)))))<|sV (.ptr 80 9)<|sV (.ptr 80 10)<|sH 80 (.var (ae.rc x19++ .ref 656 0::ah.rc x20.1++[rI (rW ((rW ((1000:Int)+x1.1))-x21.1)),rI x22.1,r0,r0,r0,r0,r0,r0,r0,r0,r0,r0]))<|sN ?_
 refine gU Z<|sV (.ptr 80 9)<|sV (.ptr 80 10)<|sV (.ptr 80 10)<|sV (.d (ah.pd x20.1))<|sV (.ptr 80 9)<|sV (.ptr 80 10)<|sV (.ptr 80 10)<|sV (.d (ah.pd x20.1))<|sG (.d (aS.pd (aS.mk x20.1 x20.1)))<|sV (.ptr 80 9)<|sV (.ptr 80 10)<|sV (.ptr 80 16)<|sH 80 (.var (ae.rc x19++ .ref 656 0::ah.rc x20.1++rI (rW ((rW ((1000:Int)+x1.1))-x21.1))::rI x22.1::r0::ah.rc x20.1++ah.rc x20.1++[r0,r0,r0]))<|sN ?_
 refine gU Z<|sM Z<|bE h fun x23 h23 h=>cR (rI x23.1) [(0,.var (ak.rc x23.2))] (cb h23)<|sV (.ptr 80 9)<|sV (.ptr 80 24)<|sS 80 (.var (ae.rc x19++ .ref 656 0::ah.rc x20.1++rI (rW ((rW ((1000:Int)+x1.1))-x21.1))::rI x22.1::r0::ah.rc x20.1++ah.rc x20.1++[r0,r0,rI x23.1]))<|sN<|qS<|gU Z<|sV (.ptr 80 9)<|sV (.ptr 80 24)<|sL Z<|sF h ?_ ?_<;>intro h
 ·refine sN<|cT<|gU Z<|sM Z<|bE h fun x25 h25 h=>cR (rI x25.1) [(0,.var (ak.rc x25.2))] (cb h25)<|sV (.ptr 80 9)<|sV (.ptr 80 22)<|sV (.ptr 80 22)<|sS 80 (.var (ae.rc x19++ .ref 656 0::ah.rc x20.1++rI (rW ((rW ((1000:Int)+x1.1))-x21.1))::rI x22.1::r0::ah.rc x20.1++ah.rc x20.1++[rI x25.1,r0,rI x23.1]))<|sN<|WC.kK Z Z<|sV (.ptr 80 9)<|sV (.ptr 80 22)<|sV (.ptr 80 22) ?_
  refine sL Z<|sM Z<|bE h fun x26 h26 h=>cR (rI x26.1) [(0,.var (ak.rc x26.2))] (cb h26)<|sV (rI (rW (x25.1+x26.1)))<|sV (.ptr 80 9)<|sV (.ptr 80 22)<|sV (.ptr 80 23)<|sS 80 (.var (ae.rc x19++ .ref 656 0::ah.rc x20.1++rI (rW ((rW ((1000:Int)+x1.1))-x21.1))::rI x22.1::r0::ah.rc x20.1++ah.rc x20.1++[rI x25.1,rI (rW (x25.1+x26.1)),rI x23.1])) ?_
  refine sN<|sO<|gU Z<|sV (.agg (ae.rc x19++ .ref 656 0::ah.rc x20.1++rI (rW ((rW ((1000:Int)+x1.1))-x21.1))::rI x22.1::r0::ah.rc x20.1++ah.rc x20.1++[rI x25.1,rI (rW (x25.1+x26.1)),rI x23.1]))<|sH 64 (.var (ae.rc x19++ .ref 656 0::ah.rc x20.1++rI (rW ((rW ((1000:Int)+x1.1))-x21.1))::rI x22.1::r0::ah.rc x20.1++ah.rc x20.1++[rI x25.1,rI (rW (x25.1+x26.1)),rI x23.1]))<|sN<|qR ?_
  cases oI h
  exact qG
 refine sN<|cF<|qK<|gU Z<|sV (.agg (ae.rc x19++ .ref 656 0::ah.rc x20.1++rI (rW ((rW ((1000:Int)+x1.1))-x21.1))::rI x22.1::r0::ah.rc x20.1++ah.rc x20.1++[r0,r0,rI x23.1]))<|sH 64 (.var (ae.rc x19++ .ref 656 0::ah.rc x20.1++rI (rW ((rW ((1000:Int)+x1.1))-x21.1))::rI x22.1::r0::ah.rc x20.1++ah.rc x20.1++[r0,r0,rI x23.1]))<|sN<|qR ?_
 cases oI h
 exact qG
theorem Src_Events_ev{a1:Int}{d0:ak}{r:(List ai)×ak}(h:eK a1 d0=some r):EvP prog aU ext 9 [.ptr 0 0,rI a1] [.var (ak.rc d0)] (rM ai.pd r.1,[.var (ak.rc r.2)]):=by
 refine Ev.body Z Tryz.func9 Z Zk<|gU Z<|sV .iZ<|sN<|gU Z<|sV .iZ<|sN<|qS<|gU Z<|sV (r0)<|sN<|bE h fun o37 ho37 h=>WC.block (WC.loop (WL.jg ho37 (fun s=>gI 1 9 3 [(0,.ptr 0 0),(1,rI a1),(5,.ref 1344 0),(6,rI s.1)] [(0,.var [rL s.2.1,rI s.2.2.1]),(1344,.arr 0 57 (s.2.2.2.map ai.pd))]) (fun o=>gX 0 1 9 16 [(5,.ref 1344 0)] [(0,.var [rL o.2.1,rI o.2.2]),(1344,.arr 0 57 (o.1.map ai.pd))]) Z ?_ ?_))
 ·rintro⟨s1,s2,s3,s4⟩ R' B' q8 hI h
  refine qS<|gS Z hI<|mM Z<|sF h ?_ ?_<;>intro h
  ·refine sN<|cT<|qK<|qS<|qB<|qS<|gU Z<|sM Z<|bE h fun x10 h10 h=>cR (rI x10.1) [(0,.var (ak.rc x10.2))] (cb h10)<|sF h ?_ ?_<;>intro h
   ·refine sN<|cT<|qX<|qE<|WC.region Z Z<|sM Z<|sV (rI (rW (s1+(1:Int))))<|sA Z<|sN ?_
    cases oI h
    exact⟨rfl,rfl⟩
   refine sN<|cF<|qK<|gU Z<|sM Z<|bE h fun x12 h12 h=>cR (.agg (ae.rc x12.1.aq++ .ref 304 0::aA.rc x12.1.aa.ac++aw.rc x12.1.aa.av++[rI x12.1.aa.bd])) [(0,.var (ak.rc x12.2)),(304,.arr 0 44 (x12.1.aa.aB.map ae.pd))] (Src_Event_ev h12)<|sB (.ptr 112 0) 112 (.var zZ2)<|sH 112 (.var (ae.rc x12.1.aq++ .ref 304 0::aA.rc x12.1.aa.ac++aw.rc x12.1.aa.av++[rI x12.1.aa.bd]))<|sN<|qS<|gU Z<|sV (.ptr 112 9)<|sV (.ptr 112 9)<|sL Z ?_
   refine WO.lenR Z Z Z Z Z Z Z Z Z<|sV (r0)<|sN<|bE h fun o31 ho31 h=>WC.block (WC.loop (WL.jg ho31 (fun s=>gI 1 9 8 [(0,.ptr 0 0),(1,rI a1),(5,.ref 1344 0),(6,rI s1),(7,.ptr 112 0),(23,rI (x12.1.aa.aB.length:Int)),(24,rI s.1)] [(0,.var (ak.rc x12.2)),(112,.var (ae.rc x12.1.aq++ .ref 304 0::aA.rc x12.1.aa.ac++aw.rc x12.1.aa.av++[rI x12.1.aa.bd])),(304,.arr 0 44 (s.2.map ae.pd)),(1344,.arr 0 57 (s4.map ai.pd))]) (fun o=>gX 2 1 9 13 [(0,.ptr 0 0),(1,rI a1),(5,.ref 1344 0),(6,rI o.1),(7,.ptr 112 0)] [(0,.var (ak.rc x12.2)),(112,.var (ae.rc x12.1.aq++rM ae.pd o.2.2::aA.rc x12.1.aa.ac++aw.rc x12.1.aa.av++[rI x12.1.aa.bd])),(1344,.arr 0 57 (o.2.1.map ai.pd))]) Z ?_ ?_))
   ·rintro⟨s13,s14⟩ R' B' q18 hI h
    refine gS Z hI<|sF h ?_ ?_<;>intro h
    ·refine sN<|qS<|cT<|qK<|qS<|qB<|gU Z<|sM Z<|sA Z<|sN<|gU Z<|sV (.ptr 112 9)<|sV (.ptr 112 9)<|sL Z<|sM Z ?_
     refine bE h fun x21 h21 h=>WO.mU h21 Z Z Z Z Z Z Z Z<|sA Z<|sN<|WC.region Z Z<|mM Z<|mM Z<|sM Z<|sV (rI (rW ((400:Int)*s1)))<|sV (rI (rW ((1000:Int)+(rW ((400:Int)*s1)))))<|sM Z<|sV (rI (rW ((rW ((1000:Int)+(rW ((400:Int)*s1))))+s13)))<|sM Z ?_
     refine sV (rI (rW ((400:Int)*s1)))<|sV (rI (rW ((1000:Int)+(rW ((400:Int)*s1)))))<|sM Z<|sV (rI (rW ((rW ((1000:Int)+(rW ((400:Int)*s1))))+s13)))<|sM Z<|sV (rI (rW ((400:Int)*s1)))<|sV (rI (rW ((1000:Int)+(rW ((400:Int)*s1)))))<|sM Z<|sV (rI (rW ((rW ((1000:Int)+(rW ((400:Int)*s1))))+s13)))<|sV (rI (rW ((rW ((rW ((1000:Int)+(rW ((400:Int)*s1))))+s13))+(2:Int))))<|sV (.elt 304 0 (s13).toNat 0)<|sV (.elt 304 0 (s13).toNat 4)<|bE h fun x22 h22 h=>WO.lE (g:=ae.pd) (u:=[]) (sz:=1) h22 (fun _=>Z) (fun _=>Nat.le_of_ble_eq_true Z) Z Z Z Z Z Z Z Z Z Z Z<|sV (.elt 304 0 (s13).toNat 0) ?_
     refine sV (.elt 304 0 (s13).toNat 5)<|bE h fun x24 h24 h=>WO.lE (g:=ae.pd) (u:=[]) (sz:=1) h24 (fun _=>Z) (fun _=>Nat.le_of_ble_eq_true Z) Z Z Z Z Z Z Z Z Z Z Z<|sV (.elt 304 0 (s13).toNat 0)<|sV (.elt 304 0 (s13).toNat 6)<|bE h fun x26 h26 h=>WO.lE (g:=ae.pd) (u:=[]) (sz:=1) h26 (fun _=>Z) (fun _=>Nat.le_of_ble_eq_true Z) Z Z Z Z Z Z Z Z Z Z Z<|sV (.elt 304 0 (s13).toNat 0)<|sV (.elt 304 0 (s13).toNat 7)<|bE h fun x28 h28 h=>WO.lE (g:=ae.pd) (u:=[]) (sz:=1) h28 (fun _=>Z) (fun _=>Nat.le_of_ble_eq_true Z) Z Z Z Z Z Z Z Z Z Z Z<|sN<|WC.region Z Z<|sV (rI (rW (s13+(1:Int))))<|sM Z ?_
     refine sN ?_
     cases oI h
     exact⟨rfl,rfl⟩
    refine sN<|qS<|cF<|qX ?_
    cases oI h
    exact⟨nofun,rfl,rfl⟩
   intro e R' B' he hq
   obtain⟨rfl,hI⟩:=hq
   refine qE<|WC.iu hI Z<|sV (.ptr 112 9)<|sV (.ptr 112 9)<|sL Z<|sM Z<|bE h fun x32 h32 h=>cR (rI x32.1) [(0,.var (ak.rc x32.2))] (cb h32)<|sV (.ptr 112 9)<|sV (.ptr 112 9)<|sL Z<|sE (rI (o31.2.2.length:Int)) (hF _ _)<|sV (rI (rW ((o31.2.2.length:Int)-(1:Int))))<|sV (rI (if(rW ((o31.2.2.length:Int)-(1:Int)))<x32.1 then(rW ((o31.2.2.length:Int)-(1:Int)))else x32.1))<|bE h fun x33 h33 h=>?_
   refine WO.cutL (sz:=9) (g:=ae.pd) h33 (fun _=>Z) Z Z Z Z Z Z Z Z Z Z Z<|sV (.ptr 112 9)<|sV (.ptr 112 9)<|sS 112 (.var (ae.rc x12.1.aq++rM ae.pd x33::aA.rc x12.1.aa.ac++aw.rc x12.1.aa.av++[rI x12.1.aa.bd])) ?_
   refine sN<|sO<|gU Z<|sV (.ptr 112 9)<|sV (.ptr 112 9)<|sL Z<|bE h fun x34 h34 h=>eG h34 Z<|sV (.d (ae.pd x34))<|sV (.ptr 112 0)<|sH 112 (.var (ae.rc x34++rM ae.pd x33::aA.rc x12.1.aa.ac++aw.rc x12.1.aa.av++[rI x12.1.aa.bd]))<|sN<|WC.region Z Z<|sM Z<|sV (.d (ai.pd (ai.mk x34 (au.mk x33 x12.1.aa.ac x12.1.aa.av x12.1.aa.bd))))<|sG (.d (.lst ([(ai.mk x34 (au.mk x33 x12.1.aa.ac x12.1.aa.av x12.1.aa.bd))].map ai.pd))) ?_
   refine bE h fun x35 h35 h=>aR h35 (fun _=>Z) Z<|sA Z<|sN<|WC.region Z Z<|sM Z<|sV (rI (rW (o31.1+(1:Int))))<|sA Z<|sN ?_
   cases oI h
   exact⟨rfl,rfl⟩
  refine sN<|cF<|qX ?_
  cases oI h
  exact⟨nofun,rfl,rfl⟩
 intro e R' B' he hq
 obtain⟨rfl,hI⟩:=hq
 refine qE<|gS Z hI<|sM Z<|sA Z<|sN<|qR ?_
 exact oI h▸qD
theorem rule_valid_ev{a0:aK}{r:Bool}(h:ge a0=some r):EvP prog aU ext 139 [.d (aK.pd a0)] [] (rB r,[]):=by
 refine Ev.body Z Tryz.func139 Z Zk<|gU Z<|sB (.ptr 16 0) 16 (.var (aK.rc a0))<|sU<|sN<|gU Z<|sV (.ptr 16 0)<|sL Z<|sF h ?_ ?_<;>intro h
 ·refine sM Z<|sV (.ptr 16 0)<|sL Z<|sV (rB (decide (a0.av<=(2000:Int))))<|sF h ?_ ?_<;>intro h
  ·refine sM Z<|sV (.ptr 16 1)<|sL Z<|sV (rB (decide (a0.aB>=(1:Int))))<|sF h ?_ ?_<;>intro h
   ·refine sM Z<|sV (.ptr 16 1)<|sL Z<|sV (rB (decide (a0.aB<=(64:Int))))<|sF h ?_ ?_<;>intro h
    ·refine sM Z<|sV (.ptr 16 2)<|sL Z<|sV (.ptr 16 3)<|sL Z<|sV (rI (if a0.bn<a0.aQ then a0.bn else a0.aQ))<|sV (rB (decide ((if a0.bn<a0.aQ then a0.bn else a0.aQ)>=(0:Int))))<|sF h ?_ ?_<;>intro h
     ·refine sM Z<|sV (.ptr 16 2)<|sL Z<|sV (.ptr 16 3)<|sL Z<|sV (rI (if a0.bn>a0.aQ then a0.bn else a0.aQ))<|sV (rB (decide ((if a0.bn>a0.aQ then a0.bn else a0.aQ)<=(9007199254740992:Int))))<|sV (rB (decide ((if a0.bn>a0.aQ then a0.bn else a0.aQ)<=(9007199254740992:Int))))<|sA Z<|sN<|qR ?_
      exact oI h▸qD
     refine sM Z<|k3<|k3<|sU<|sA Z<|sN<|qR ?_
     exact oI h▸qD
    refine sM Z<|k3<|k3<|sU<|sM Z<|k3<|sK<|sK<|sK ?_
    refine sU<|sA Z<|sN<|qR ?_
    exact oI h▸qD
   refine sM Z<|k3<|sU<|sM Z<|k3<|k3<|sU<|sM Z<|sK ?_
   refine k3<|sK<|sK<|sU<|sA Z<|sN<|qR ?_
   exact oI h▸qD
  refine sM Z<|k3<|sU<|sM Z<|k3<|sU<|sM Z<|k3<|sK ?_
  refine sK<|sK<|sU<|sM Z<|k3<|k3<|sU<|sA Z<|sN<|qR ?_
  exact oI h▸qD
 refine sM Z<|k3<|sU<|sM Z<|k3<|sU<|sM Z<|k3<|sU ?_
 refine sM Z<|k3<|k3<|sU<|sM Z<|k3<|sK<|sK<|sK ?_
 refine sU<|sA Z<|sN<|qR ?_
 exact oI h▸qD
theorem gO{a0:aC}{r:Int}(h:cu a0=some r):EvP prog aU ext 68 [.d (aC.pd a0)] [] (rI r,[]):=by
 refine Ev.body Z Tryz.func68 Z Zk<|gU Z<|sB (.ptr 16 0) 16 (.var (aC.rc a0))<|sV (r0)<|sN<|qS<|gU Z<|sV (.ptr 16 0)<|sL Z<|sE (rI (a0.bA.length:Int)) (hF _ _)<|sF h ?_ ?_<;>intro h
 ·refine sM Z<|k3<|sK<|sT<|sM Z<|k3<|k3<|sT<|sM Z ?_
  refine k3<|k3<|sT<|sN<|cT<|gU Z<|sV (rI 27)<|sN<|qR ?_
  exact oI h▸qD
 refine sM Z<|sV (.ptr 16 0)<|sL Z<|sE (rI (a0.bA.length:Int)) (hF _ _)<|sV (rB (decide ((a0.bA.length:Int)>(8:Int))))<|sF h ?_ ?_<;>intro h
 ·refine sM Z<|k3<|k3<|sT<|sM Z<|k3<|sK<|sK<|sK ?_
  refine sT<|sN<|cT<|gU Z<|sV (rI 27)<|sN<|qR ?_
  exact oI h▸qD
 refine sM Z<|sV (.ptr 16 1)<|sL Z<|sV (.ptr 16 2)<|sL Z<|sV (rI (if a0.bI<a0.aZ then a0.bI else a0.aZ))<|sV (rB (decide ((if a0.bI<a0.aZ then a0.bI else a0.aZ)<(0:Int))))<|sF h ?_ ?_<;>intro h
 ·refine sM Z<|k3<|k3<|sT<|sN<|cT<|gU Z<|sV (rI 27)<|sN<|qR ?_
  exact oI h▸qD
 refine sM Z<|sV (.ptr 16 1)<|sL Z<|sV (.ptr 16 2)<|sL Z<|sV (rI (if a0.bI>a0.aZ then a0.bI else a0.aZ))<|sV (rB (decide ((if a0.bI>a0.aZ then a0.bI else a0.aZ)>(9007199254740992:Int))))<|sF h ?_ ?_<;>intro h
 ·refine sN<|cT<|gU Z<|sV (rI 27)<|sN<|qR ?_
  exact oI h▸qD
 refine sN<|cF<|qK<|qS<|gU Z<|sV (.ptr 16 0)<|sL Z<|sE (rI (a0.bA.length:Int)) (hF _ _)<|sV (r0)<|sN<|bE h fun o12 ho12 h=>WC.block (WC.loop (WL.jg ho12 (fun s=>gI 0 68 4 [(32,rM aK.pd a0.bA),(33,rI (a0.bA.length:Int)),(34,rI s)] []) (fun o=>match o with| .inl y=>gX 0 0 68 9 [] []| .inr r=>gF 68 Tryz.f68 0 (rI r,[])) Z ?_ ?_))
 ·rintro s5 R' B' q6 hI h
  refine gS Z hI<|sF h ?_ ?_<;>intro h
  ·refine sN<|qS<|cT<|qK<|qS<|qB<|gU Z<|bE h fun x8 h8 h=>eG h8 Z<|sV (.d (aK.pd x8))<|sB (.ptr 64 0) 64 (.var [r0,r0,r0,r0])<|sS 64 (.var (aK.rc x8))<|sN<|gU Z<|sV (.d (aK.pd x8)) ?_
   refine bE h fun x9 h9 h=>cD (rule_valid_ev h9)<|sF h ?_ ?_<;>intro h
   ·refine sN<|cT<|gU Z<|sV (rI 27)<|sN<|qR ?_
    cases oI h
    exact⟨nofun,rfl,rfl⟩
   refine sN<|cF<|qK<|WC.region Z Z<|sV (rI (rW (s5+(1:Int))))<|sM Z<|sN ?_
   cases oI h
   exact⟨rfl,rfl⟩
  refine sN<|qS<|cF<|qX ?_
  cases oI h
  exact⟨nofun,rfl,rfl⟩
 intro e R' B' he hq
 rcases o12 with y13|r14
 ·obtain⟨rfl,hI⟩:=hq
  refine qE<|gS Z hI<|sV (r0)<|sN<|qR ?_
  exact oI h▸qD
 obtain⟨rfl,hf⟩:=hq
 cases oI h
 exact hf
theorem alert_Valid_ev{a0:(List am)}{r:Bool}(h:gh a0=some r):EvP prog aU ext 69 [rM am.pd a0] [] (rB r,[]):=by
 refine Ev.body Z Tryz.func69 Z Zk<|gU Z<|sU<|sN<|qS<|gU Z<|sM Z<|sE (rI (a0.length:Int)) (hF _ _)<|sF h ?_ ?_<;>intro h
 ·refine sN<|cT<|gU Z<|sU<|sN<|qR ?_
  exact oI h▸qD
 refine sN<|cF<|qK<|gU Z<|sB (.ptr 192 0) 192 (.map 44 237 (([]:List (ae×aV)).map fun e=>(ae.pd e.1,aV.pd e.2)))<|sA Z<|sN<|gU Z<|sV (rI (-1))<|sN<|qS<|gU Z<|sM Z<|sE (rI (a0.length:Int)) (hF _ _)<|sV (r0) ?_
 refine sN<|bE h fun o15 ho15 h=>WC.block (WC.loop (WL.jg ho15 (fun s=>gI 0 69 6 [(3,.ptr 192 0),(4,rI s.1),(13,rM am.pd a0),(14,rI (a0.length:Int)),(15,rI s.2.1)] [(192,.map 44 237 (s.2.2.map fun e=>(ae.pd e.1,aV.pd e.2)))]) (fun o=>match o with| .inl y=>gX 0 0 69 17 [] []| .inr r=>gF 69 Tryz.f69 0 (rB r,[])) Z ?_ ?_))
 ·rintro⟨s2,s3,s4⟩ R' B' q5 hI h
  refine gS Z hI<|sF h ?_ ?_<;>intro h
  ·refine sN<|qS<|cT<|qK<|qS<|qB<|gU Z<|bE h fun x7 h7 h=>eG h7 Z<|sV (.d (am.pd x7))<|sB (.ptr 96 0) 96 (.var zZ0)<|sH 96 (.var (am.rc x7))<|sN<|qS<|gU Z ?_
   refine sV (.ptr 96 0)<|sL Z<|sM Z<|sF h ?_ ?_<;>intro h
   ·refine sM Z<|k3<|sT<|sM Z<|k3<|sT<|sM Z<|k3<|sT ?_
    refine sN<|cT<|gU Z<|sU<|sN<|qR ?_
    cases oI h
    exact⟨nofun,rfl,rfl⟩
   refine sM Z<|sV (.ptr 96 0)<|sL Z<|sV (rB (decide (x7.fID>=(1000:Int))))<|sF h ?_ ?_<;>intro h
   ·refine sM Z<|k3<|sT<|sM Z<|k3<|sT<|sN<|cT<|gU Z<|sU<|sN ?_
    refine qR ?_
    cases oI h
    exact⟨nofun,rfl,rfl⟩
   refine sM Z<|sV (.ptr 96 37)<|sL Z<|sV (rB (decide (x7.fAt<(0:Int))))<|sF h ?_ ?_<;>intro h
   ·refine sM Z<|k3<|sT<|sN<|cT<|gU Z<|sU<|sN<|qR ?_
    cases oI h
    exact⟨nofun,rfl,rfl⟩
   refine sM Z<|sV (.ptr 96 37)<|sL Z<|sV (rB (decide (x7.fAt>(18014398509481984:Int))))<|sF h ?_ ?_<;>intro h
   ·refine sN<|cT<|gU Z<|sU<|sN<|qR ?_
    cases oI h
    exact⟨nofun,rfl,rfl⟩
   refine sN<|cF<|qK<|gU Z<|sV (.ptr 96 0)<|sL Z<|sA Z<|sN<|qS<|gU Z<|sV (.ptr 96 1)<|sF h ?_ ?_<;>intro h
   ·refine sN<|cT<|qX<|qE<|WC.region Z Z<|sV (rI (rW (s3+(1:Int))))<|sM Z<|sN ?_
    cases oI h
    exact⟨rfl,rfl⟩
   refine sN<|cF<|qK<|qS<|gU Z<|sM Z<|sV (.ptr 96 2)<|sV (.d (ae.pd x7.aq))<|WO.oH (gv:=aV.pd) (z:=(aV.mk )) gV Z Z Z Z Z Z Z Z<|sM Z<|sV (.d (aV.pd (bo co x7.aq (aV.mk ) s4)))<|sV (rB (ky co x7.aq s4))<|sB (.ptr 112 0) 112 (.var [])<|sS 112 (.var [])<|sA Z ?_
   refine sN<|gU Z<|sF h ?_ ?_<;>intro h
   ·refine sN<|cT<|gU Z<|sU<|sN<|qR ?_
    cases oI h
    exact⟨nofun,rfl,rfl⟩
   refine sN<|cF<|qK<|WC.region Z Z<|sM Z<|sV (.ptr 96 2)<|sV (.d (ae.pd x7.aq))<|sV (.d (aV.pd (aV.mk )))<|WO.mput (gv:=aV.pd) (y:=(aV.mk )) gV Z Z Z Z Z Z Z Z Z Z<|sN<|WC.region Z Z<|sV (rI (rW (s3+(1:Int))))<|sM Z<|sN ?_
   cases oI h
   exact⟨rfl,rfl⟩
  refine sN<|qS<|cF<|qX ?_
  cases oI h
  exact⟨nofun,rfl,rfl⟩
 intro e R' B' he hq
 rcases o15 with y16|r17
 ·obtain⟨rfl,hI⟩:=hq
  refine qE<|gS Z hI<|sT<|sN<|qR ?_
  exact oI h▸qD
 obtain⟨rfl,hf⟩:=hq
 cases oI h
 exact hf
theorem fF{a0:(List UInt8)}{r:Bool}(h:eO a0=some r):EvP prog aU ext 280 [rS a0] [] (rB r,[]):=by
 refine Ev.body Z Tryz.func280 Z Zk<|gU Z<|sU<|sN<|gU Z<|mM Z<|sV (rB (!(a0==a0)))<|sA Z<|sN<|qR ?_
 exact oI h▸qD
theorem cy{a0:(List UInt8)}{a1:(List UInt8)}{r:Int}(h:bu a0 a1=some r):EvP prog aU ext 265 [rS a0,rS a1] [] (rI r,[]):=by
 refine Ev.body Z Tryz.func265 Z Zk<|gU Z<|sV (r0)<|sN<|gU Z<|sM Z<|bE h fun x1 h1 h=>cD (fF h1)<|sA Z<|sN<|gU Z<|sM Z<|bE h fun x2 h2 h=>cD (fF h2)<|sA Z ?_
 refine sN<|qS<|gU Z<|sF h ?_ ?_<;>intro h
 ·refine sN<|cT<|qS<|gU Z<|sF h ?_ ?_<;>intro h
  ·refine sN<|cT<|gU Z<|sV (r0)<|sN<|qR ?_
   exact oI h▸qD
  refine sN<|cF<|qK<|gU Z<|sV (rI (-1))<|sN<|qR ?_
  exact oI h▸qD
 refine sN<|cF<|qK<|qS<|gU Z<|sF h ?_ ?_<;>intro h
 ·refine sN<|cT<|gU Z<|sV (rI 1)<|sN<|qR ?_
  exact oI h▸qD
 refine sN<|cF<|qK<|qS<|gU Z<|mM Z<|sF h ?_ ?_<;>intro h
 ·refine sN<|cT<|gU Z<|sV (rI (-1))<|sN<|qR ?_
  exact oI h▸qD
 refine sN<|cF<|qK<|qS<|gU Z<|mM Z<|sF h ?_ ?_<;>intro h
 ·refine sN<|cT<|gU Z<|sV (rI 1)<|sN<|qR ?_
  exact oI h▸qD
 refine sN<|cF<|qK<|gU Z<|sV (r0)<|sN<|qR ?_
 exact oI h▸qD
theorem gy{a0:(List Int)}{r:Int}(h:eN a0=some r):EvP prog aU ext 187 [rL a0] [] (rI r,[]):=by
 refine Ev.body Z Tryz.func187 Z Zk<|gU Z<|sV (r0)<|sN<|gU Z<|sV (r0)<|sN<|qS<|gU Z<|sM Z<|sE (rI (a0.length:Int)) (hF _ _)<|sV (r0)<|sN<|bE h fun o7 ho7 h=>WC.block (WC.loop (WL.jg ho7 (fun s=>gI 0 187 3 [(3,r0),(6,rL a0),(7,rI (a0.length:Int)),(8,rI s)] []) (fun o=>match o with| .inl y=>gX 0 0 187 8 [(3,r0)] []| .inr r=>gF 187 Tryz.f187 0 (rI r,[])) Z ?_ ?_))
 ·rintro s1 R' B' q2 hI h
  refine gS Z hI<|sF h ?_ ?_<;>intro h
  ·refine sN<|qS<|cT<|qK<|qS<|qB<|gU Z<|bE h fun x4 h4 h=>eG h4 Z<|sC Z<|sA Z<|sN<|gU Z<|sM Z<|sM Z ?_
   refine sF h ?_ ?_<;>intro h
   ·refine sN<|cT<|gU Z<|sM Z<|sA Z<|sN<|qR ?_
    cases oI h
    exact⟨nofun,rfl,rfl⟩
   refine sN<|cF<|qK<|WC.region Z Z<|sV (rI (rW (s1+(1:Int))))<|sM Z<|sN ?_
   cases oI h
   exact⟨rfl,rfl⟩
  refine sN<|qS<|cF<|qX ?_
  cases oI h
  exact⟨nofun,rfl,rfl⟩
 intro e R' B' he hq
 rcases o7 with y8|r9
 ·obtain⟨rfl,hI⟩:=hq
  refine qE<|gS Z hI<|sM Z<|sA Z<|sN<|qR ?_
  exact oI h▸qD
 obtain⟨rfl,hf⟩:=hq
 cases oI h
 exact hf
theorem iR{a0:ap}{a1:ap}{r:Int}(h:eB a0 a1=some r):EvP prog aU ext 241 [.d (ap.pd a0),.d (ap.pd a1)] [] (rI r,[]):=by
 refine Ev.body Z Tryz.func241 Z Zk<|gU Z<|sB (.ptr 32 0) 32 (.var (ap.rc a0))<|sB (.ptr 48 0) 48 (.var (ap.rc a1))<|sV (r0)<|sN<|WC.iu Z Z<|sV (.ptr 32 0)<|sL Z<|sV (.ptr 48 0)<|sL Z<|bE h fun x1 h1 h=>cD (cy h1)<|sV (.ptr 32 1)<|sL Z ?_
 refine sV (.ptr 48 1)<|sL Z<|bE h fun x2 h2 h=>cD (cy h2)<|sV (.ptr 32 2)<|sL Z<|sV (.ptr 48 2)<|sL Z<|bE h fun x3 h3 h=>cD (cy h3)<|sV (.ptr 32 3)<|sL Z<|sV (.ptr 48 3)<|sL Z<|bE h fun x4 h4 h=>?_
 refine cD (cy h4)<|sV (.d (.lst ([x1,x2,x3,x4].map (PD.int .i64))))<|bE h fun x5 h5 h=>cD (gy h5)<|sA Z ?_
 refine sN<|sO<|qR ?_
 exact oI h▸qD
theorem gH{a0:Int}{r:Bool}(h:dJ a0=some r):EvP prog aU ext 90 [rI a0] [] (rB r,[]):=by
 refine Ev.body Z Tryz.func90 Z Zk<|gU Z<|sU<|sN<|gU Z<|mM Z<|sV (rB (a0 != a0))<|sA Z<|sN<|qR ?_
 exact oI h▸qD
theorem bF{a0:Int}{a1:Int}{r:Int}(h:bi a0 a1=some r):EvP prog aU ext 41 [rI a0,rI a1] [] (rI r,[]):=by
 refine Ev.body Z Tryz.func41 Z Zk<|gU Z<|sV (r0)<|sN<|gU Z<|sM Z<|bE h fun x1 h1 h=>cD (gH h1)<|sA Z<|sN<|gU Z<|sM Z<|bE h fun x2 h2 h=>cD (gH h2)<|sA Z ?_
 refine sN<|qS<|gU Z<|sF h ?_ ?_<;>intro h
 ·refine sN<|cT<|qS<|gU Z<|sF h ?_ ?_<;>intro h
  ·refine sN<|cT<|gU Z<|sV (r0)<|sN<|qR ?_
   exact oI h▸qD
  refine sN<|cF<|qK<|gU Z<|sV (rI (-1))<|sN<|qR ?_
  exact oI h▸qD
 refine sN<|cF<|qK<|qS<|gU Z<|sF h ?_ ?_<;>intro h
 ·refine sN<|cT<|gU Z<|sV (rI 1)<|sN<|qR ?_
  exact oI h▸qD
 refine sN<|cF<|qK<|qS<|gU Z<|mM Z<|sF h ?_ ?_<;>intro h
 ·refine sN<|cT<|gU Z<|sV (rI (-1))<|sN<|qR ?_
  exact oI h▸qD
 refine sN<|cF<|qK<|qS<|gU Z<|mM Z<|sF h ?_ ?_<;>intro h
 ·refine sN<|cT<|gU Z<|sV (rI 1)<|sN<|qR ?_
  exact oI h▸qD
 refine sN<|cF<|qK<|gU Z<|sV (r0)<|sN<|qR ?_
 exact oI h▸qD
theorem gt{a0:ae}{a1:ae}{r:Int}(h:dt a0 a1=some r):EvP prog aU ext 202 [.d (ae.pd a0),.d (ae.pd a1)] [] (rI r,[]):=by
 refine Ev.body Z Tryz.func202 Z Zk<|gU Z<|sB (.ptr 32 0) 32 (.var (ae.rc a0))<|sB (.ptr 48 0) 48 (.var (ae.rc a1))<|sV (r0)<|sN<|WC.iu Z Z<|sV (.ptr 32 0)<|sV (.d (ap.pd a0.ar))<|sV (.ptr 48 0)<|sV (.d (ap.pd a1.ar))<|bE h fun x1 h1 h=>cD (iR h1)<|sV (.ptr 32 4)<|sL Z ?_
 refine sV (.ptr 48 4)<|sL Z<|bE h fun x2 h2 h=>cD (bF h2)<|sV (.ptr 32 5)<|sL Z<|sV (.ptr 48 5)<|sL Z<|bE h fun x3 h3 h=>cD (bF h3)<|sV (.ptr 32 6)<|sL Z<|sV (.ptr 48 6)<|sL Z<|bE h fun x4 h4 h=>?_
 refine cD (bF h4)<|sV (.ptr 32 7)<|sL Z<|sV (.ptr 48 7)<|sL Z<|bE h fun x5 h5 h=>cD (bF h5)<|sV (.ptr 32 8)<|sL Z<|sV (.ptr 48 8)<|sL Z<|bE h fun x6 h6 h=>cD (bF h6)<|sV (.d (.lst ([x1,x2,x3,x4,x5,x6].map (PD.int .i64))))<|bE h fun x7 h7 h=>?_
 refine cD (gy h7)<|sA Z ?_
 refine sN<|sO<|qR ?_
 cases oI h
 exact qG
theorem event_sorted_ev{a0:(List ae)}{r:Bool}(h:dC a0=some r):EvP prog aU ext 140 [rM ae.pd a0] [] (rB r,[]):=by
 refine Ev.body Z Tryz.func140 Z Zk<|gU Z<|sU<|sN<|qS<|gU Z<|sV (rI 1)<|sN<|bE h fun o9 ho9 h=>WC.block (WC.loop (WL.jg ho9 (fun s=>gI 0 140 2 [(0,rM ae.pd a0),(3,rI s)] []) (fun o=>match o with| .inl y=>gX 0 0 140 6 [] []| .inr r=>gF 140 Tryz.f140 0 (rB r,[])) Z ?_ ?_))
 ·rintro s1 R' B' q2 hI h
  refine qS<|gS Z hI<|mM Z<|sE (rI (a0.length:Int)) (hF _ _)<|sF h ?_ ?_<;>intro h
  ·refine sN<|cT<|qK<|qS<|qB<|WC.iu Z Z<|mM Z<|sV (rI (rW (s1-(1:Int))))<|bE h fun x4 h4 h=>eG h4 Z<|sV (.d (ae.pd x4))<|mM Z<|bE h fun x5 h5 h=>?_
   refine eG h5 Z<|sV (.d (ae.pd x5))<|bE h fun x6 h6 h=>cD (gt h6)<|sF h ?_ ?_<;>intro h
   ·refine sN<|sO<|cT<|gU Z<|sU<|sN<|qR ?_
    cases oI h
    exact⟨nofun,rfl,rfl⟩
   refine sN<|sO<|cF<|qK<|WC.region Z Z<|sM Z<|sV (rI (rW (s1+(1:Int))))<|sA Z<|sN ?_
   cases oI h
   exact⟨rfl,rfl⟩
  refine sN<|cF<|qX ?_
  cases oI h
  exact⟨nofun,rfl,rfl⟩
 intro e R' B' he hq
 rcases o9 with y10|r11
 ·obtain⟨rfl,hI⟩:=hq
  refine qE<|gS Z hI<|sT<|sN<|qR ?_
  exact oI h▸qD
 obtain⟨rfl,hf⟩:=hq
 cases oI h
 exact hf
theorem gK{a0:ae}{a1:ae}{r:Int}(h:cH a0 a1=some r):EvP prog aU ext 142 [.d (ae.pd a0),.d (ae.pd a1)] [] (rI r,[]):=by
 refine Ev.body Z Tryz.func142 Z Zk<|gU Z<|sB (.ptr 32 0) 32 (.var (ae.rc a0))<|sB (.ptr 48 0) 48 (.var (ae.rc a1))<|sV (r0)<|sN<|WC.iu Z Z<|sV (.ptr 32 4)<|sL Z<|sV (.ptr 48 4)<|sL Z<|bE h fun x1 h1 h=>cD (bF h1)<|sV (.d (ae.pd a0))<|sV (.d (ae.pd a1)) ?_
 refine bE h fun x2 h2 h=>cD (gt h2)<|sV (.d (.lst ([x1,x2].map (PD.int .i64))))<|bE h fun x3 h3 h=>cD (gy h3)<|sA Z ?_
 refine sN<|sO<|qR ?_
 cases oI h
 exact qG
theorem eX{a0:(List ae)}{r:ae}(h:bG a0=some r):EvP prog aU ext 203 [rM ae.pd a0,.d (.raw (.func (.func 142) #[] #[]))] [] (.d (ae.pd r),[]):=by
 refine Ev.body Z Tryz.func203 Z Zk<|gU Z<|sB (.ptr 64 0) 64 (.var [rS [],rS [],rS [],rS [],r0,r0,r0,r0,r0])<|sN<|qS<|gU Z<|sM Z<|sE (rI (a0.length:Int)) (hF _ _)<|sF h ?_ ?_<;>intro h
 ·refine sN<|cT<|WC.region Z Z<|sG (.ifc 9 (rS [115,108,105,99,101,115,46,77,105,110,70,117,110,99,58,32,101,109,112,116,121,32,108,105,115,116])) ?_
  cases h
 refine sN<|cF<|qK<|gU Z<|sM Z<|bE h fun x2 h2 h=>eG h2 Z<|sV (.d (ae.pd x2))<|sB (.ptr 80 0) 80 (.var [rS [],rS [],rS [],rS [],r0,r0,r0,r0,r0])<|sH 80 (.var (ae.rc x2))<|sN<|qS<|gU Z<|sV (rI 1)<|sN ?_
 refine bE h fun o29 ho29 h=>WC.block (WC.loop (WL.jg ho29 (fun s=>gI 0 203 5 [(0,rM ae.pd a0),(1,.d (.raw (.func (.func 142) #[] #[]))),(4,.ptr 64 0),(5,.ptr 80 0),(6,rI s.1)] [(64,.var [rS [],rS [],rS [],rS [],r0,r0,r0,r0,r0]),(80,.var [rS s.2.1,rS s.2.2.1,rS s.2.2.2.1,rS s.2.2.2.2.1,rI s.2.2.2.2.2.1,rI s.2.2.2.2.2.2.1,rI s.2.2.2.2.2.2.2.1,rI s.2.2.2.2.2.2.2.2.1,rI s.2.2.2.2.2.2.2.2.2])]) (fun o=>gX 0 0 203 9 [(4,.ptr 64 0),(5,.ptr 80 0)] [(64,.var [rS [],rS [],rS [],rS [],r0,r0,r0,r0,r0]),(80,.var [rS o.1,rS o.2.1,rS o.2.2.1,rS o.2.2.2.1,rI o.2.2.2.2.1,rI o.2.2.2.2.2.1,rI o.2.2.2.2.2.2.1,rI o.2.2.2.2.2.2.2.1,rI o.2.2.2.2.2.2.2.2])]) Z ?_ ?_))
 ·rintro⟨s3,s4,s5,s6,s7,s8,s9,s10,s11,s12⟩ R' B' q22 hI h
  refine qS<|gS Z hI<|mM Z<|sE (rI (a0.length:Int)) (hF _ _)<|sF h ?_ ?_<;>intro h
  ·refine sN<|cT<|qK<|qS<|qB<|WC.iu Z Z<|mM Z<|sM Z<|bE h fun x24 h24 h=>eG h24 Z<|sV (.d (ae.pd x24))<|sV (.d (ae.pd (ae.mk (ap.mk s4 s5 s6 s7) s8 s9 s10 s11 s12)))<|bE h fun x25 h25 h=>cD (gK h25) ?_
   refine sF h ?_ ?_<;>intro h
   ·refine sN<|sO<|cT<|WC.region Z Z<|mM Z<|bE h fun x27 h27 h=>eG h27 Z<|sV (.d (ae.pd x27))<|sH 80 (.var (ae.rc x27))<|sN<|WC.region Z Z<|sM Z<|sV (rI (rW (s3+(1:Int))))<|sA Z<|sN ?_
    cases oI h
    exact⟨rfl,rfl⟩
   refine sN<|sO<|cF<|qK<|WC.region Z Z<|sM Z<|sV (rI (rW (s3+(1:Int))))<|sA Z<|sN ?_
   cases oI h
   exact⟨rfl,rfl⟩
  refine sN<|cF<|qX ?_
  cases oI h
  exact⟨nofun,rfl,rfl⟩
 intro e R' B' he hq
 obtain⟨rfl,hI⟩:=hq
 refine qE<|gS Z hI<|sV (.d (ae.pd (ae.mk (ap.mk o29.1 o29.2.1 o29.2.2.1 o29.2.2.2.1) o29.2.2.2.2.1 o29.2.2.2.2.2.1 o29.2.2.2.2.2.2.1 o29.2.2.2.2.2.2.2.1 o29.2.2.2.2.2.2.2.2)))<|sH 64 (.var [rS o29.1,rS o29.2.1,rS o29.2.2.1,rS o29.2.2.2.1,rI o29.2.2.2.2.1,rI o29.2.2.2.2.2.1,rI o29.2.2.2.2.2.2.1,rI o29.2.2.2.2.2.2.2.1,rI o29.2.2.2.2.2.2.2.2])<|sN<|qR ?_
 cases oI h
 exact qG
theorem event_name_ev{a0:(List ae)}{r:ae}(h:eP a0=some r):EvP prog aU ext 141 [rM ae.pd a0] [] (.d (ae.pd r),[]):=by
 refine Ev.body Z Tryz.func141 Z Zk<|gU Z<|sB (.ptr 32 0) 32 (.var [rS [],rS [],rS [],rS [],r0,r0,r0,r0,r0])<|sN<|qS<|gU Z<|sM Z<|sE (rI (a0.length:Int)) (hF _ _)<|sF h ?_ ?_<;>intro h
 ·refine sN<|cT<|gU Z<|sG (.d (ae.pd (ae.mk (ap.mk [] [] [] []) 0 0 0 0 0)))<|sH 32 (.var [rS [],rS [],rS [],rS [],r0,r0,r0,r0,r0])<|sN<|qR ?_
  cases oI h
  exact qG
 refine sN<|cF<|qK<|gU Z<|sM Z<|bE h fun x2 h2 h=>cD (eX h2)<|sH 32 (.var (ae.rc x2))<|sN<|qR ?_
 cases oI h
 exact qG
theorem event_Valid_ev{a0:(List ai)}{r:Bool}(h:gl a0=some r):EvP prog aU ext 70 [rM ai.pd a0] [] (rB r,[]):=by
 refine Ev.body Z Tryz.func70 Z Zk<|gU Z<|sU<|sN<|gU Z<|sB (.ptr 176 0) 176 (.map 44 237 (([]:List (ae×aV)).map fun e=>(ae.pd e.1,aV.pd e.2)))<|sA Z<|sN<|qS<|gU Z<|sM Z<|sE (rI (a0.length:Int)) (hF _ _)<|sV (r0)<|sN<|bE h fun o29 ho29 h=>?_
 refine WC.block (WC.loop (WL.jg ho29 (fun s=>gI 0 70 3 [(0,rM ai.pd a0),(3,.ptr 176 0),(12,rM ai.pd a0),(13,rI (a0.length:Int)),(14,rI s.1)] [(176,.map 44 237 (s.2.map fun e=>(ae.pd e.1,aV.pd e.2)))]) (fun o=>match o with| .inl y=>gX 0 0 70 17 [] []| .inr r=>gF 70 Tryz.f70 0 (rB r,[])) Z ?_ ?_))
 ·rintro⟨s1,s2⟩ R' B' q3 hI h
  refine gS Z hI<|sF h ?_ ?_<;>intro h
  ·refine sN<|qS<|cT<|qK<|qS<|qB<|gU Z<|sM Z<|bE h fun x5 h5 h=>eG h5 Z<|sV (.d (ai.pd x5))<|sB (.ptr 80 0) 80 (.var zZ2)<|sA Z<|sH 80 (.var (ai.rc x5))<|sN ?_
   refine gU Z<|sV (.ptr 80 9)<|sV (.ptr 80 9)<|sL Z<|sA Z<|sN<|WC.join (α:=Unit) (fun x R' B'=>jY prog 0 (A R' B') (aU.at_ 70 0 8)=some (A [(0,rM ai.pd a0),(3,.ptr 176 0),(6,rM ae.pd x5.aa.aB),(12,rM ai.pd a0),(13,rI (a0.length:Int)),(14,rI s1)] [(176,.map 44 237 (s2.map fun e=>(ae.pd e.1,aV.pd e.2)))])) (fun x=>da x5 s1 s2=some q3) ?_ ?_
   ·refine WC.iu Z Z<|sM Z<|sE (rI (x5.aa.aB.length:Int)) (hF _ _)<|sF h ?_ ?_<;>intro h
    ·refine sM Z<|k3<|sT<|sM Z<|k3<|sK<|sK<|sT<|sM Z<|sK<|sK ?_
     refine k3<|k3<|k3<|k3<|sT ?_
     refine sN<|sO<|cT<|gU Z<|sU<|sN<|qR ?_
     cases oI h
     exact⟨nofun,rfl,rfl⟩
    refine mM Z<|bE h fun x20 h20 h=>cD (event_sorted_ev h20)<|sV (rB (!x20))<|sF h ?_ ?_<;>intro h
    ·refine sM Z<|k3<|sK<|sK<|sT<|sM Z<|k3<|k3<|sK ?_
     refine k3<|k3<|sK<|sT ?_
     refine sN<|sO<|cT<|gU Z<|sU<|sN<|qR ?_
     cases oI h
     exact⟨nofun,rfl,rfl⟩
    refine sM Z<|sV (.ptr 80 0)<|sV (.d (ae.pd x5.aq))<|sM Z<|bE h fun x22 h22 h=>cD (event_name_ev h22)<|WO.bin (eqN_44 x5.aq x22) Z Z Z Z Z<|sF h ?_ ?_<;>intro h
    ·refine sM Z<|k3<|k3<|k3<|k3<|sK<|sK ?_
     refine sT ?_
     refine sN<|sO<|cT<|gU Z<|sU<|sN<|qR ?_
     cases oI h
     exact⟨nofun,rfl,rfl⟩
    refine mM Z<|sF h ?_ ?_<;>intro h
    ·refine mM Z<|sM Z<|sV (rI (rW (s1-(1:Int))))<|bE h fun x25 h25 h=>eG h25 Z<|sV (.cptr [.str x25.aq.ar.aM,.str x25.aq.ar.aN,.str x25.aq.ar.ac,.str x25.aq.ar.aO,.int .i64 x25.aq.aL,.int .i64 x25.aq.aY,.int .i64 x25.aq.bh,.int .i64 x25.aq.aF,.int .i64 x25.aq.aH,.lst (x25.aa.aB.map ae.pd),.int .i64 x25.aa.ac.aP.fX,.int .i64 x25.aa.ac.aP.fY,.int .i64 x25.aa.ac.aP.fZ,.int .i64 x25.aa.ac.aL,.int .i64 x25.aa.ac.aQ,.int .i64 x25.aa.ac.bq,.int .i64 x25.aa.ac.aD.aX.fX,.int .i64 x25.aa.ac.aD.aX.fY,.int .i64 x25.aa.ac.aD.aX.fZ,.int .i64 x25.aa.ac.aD.aJ.fX,.int .i64 x25.aa.ac.aD.aJ.fY,.int .i64 x25.aa.ac.aD.aJ.fZ,.int .i64 x25.aa.av.aX,.int .i64 x25.aa.av.aJ,.int .i64 x25.aa.bd])<|sV (.d (ae.pd x25.aq))<|sV (.ptr 80 0)<|sV (.d (ae.pd x5.aq))<|bE h fun x26 h26 h=>cD (gK h26)<|sV (rB (decide (x26>=(0:Int))))<|sV (rB (decide (x26>=(0:Int))))<|sF h ?_ ?_<;>intro h
     ·refine sN<|sO<|cT<|gU Z<|sU<|sN<|qR ?_
      cases oI h
      exact⟨nofun,rfl,rfl⟩
     exact sN<|sO<|cF<|qK<|⟨(),rfl,h⟩
    refine sM Z<|k3<|k3<|k3<|sK<|sU<|sU ?_
    exact sN<|sO<|cF<|qK<|⟨(),rfl,h⟩
   rintro⟨⟩ R' B' hI h
   refine gS Z hI<|sM Z<|sE (rI (x5.aa.aB.length:Int)) (hF _ _)<|sV (r0)<|sN<|bE h fun o15 ho15 h=>WC.block (WC.loop (WL.jg ho15 (fun s=>gI 0 70 9 [(0,rM ai.pd a0),(3,.ptr 176 0),(12,rM ai.pd a0),(13,rI (a0.length:Int)),(14,rI s1),(53,rM ae.pd x5.aa.aB),(54,rI (x5.aa.aB.length:Int)),(55,rI s.1)] [(176,.map 44 237 (s.2.map fun e=>(ae.pd e.1,aV.pd e.2)))]) (fun o=>match o with| .inl y=>gX 2 0 70 16 [(0,rM ai.pd a0),(3,.ptr 176 0),(12,rM ai.pd a0),(13,rI (a0.length:Int)),(14,rI y.1)] [(176,.map 44 237 (y.2.map fun e=>(ae.pd e.1,aV.pd e.2)))]| .inr r=>gF 70 Tryz.f70 0 (rB r,[])) Z ?_ ?_))
   ·rintro⟨s6,s7⟩ R' B' q10 hI h
    refine gS Z hI<|sF h ?_ ?_<;>intro h
    ·refine sN<|qS<|cT<|qK<|qS<|qB<|gU Z<|bE h fun x12 h12 h=>eG h12 Z<|sV (.d (ae.pd x12))<|sB (.ptr 128 0) 128 (.var [rS [],rS [],rS [],rS [],r0,r0,r0,r0,r0])<|sH 128 (.var (ae.rc x12))<|sN<|qS<|gU Z ?_
     refine sM Z<|sV (.d (ae.pd x12))<|WO.oH (gv:=aV.pd) (z:=(aV.mk )) gV Z Z Z Z Z Z Z Z<|sM Z<|sV (.d (aV.pd (bo co x12 (aV.mk ) s7)))<|sV (rB (ky co x12 s7))<|sB (.ptr 144 0) 144 (.var [])<|sS 144 (.var [])<|sA Z<|sN<|gU Z<|sF h ?_ ?_<;>intro h
     ·refine sN<|cT<|gU Z<|sU<|sN<|qR ?_
      cases oI h
      exact⟨nofun,rfl,rfl⟩
     refine sN<|cF<|qK<|WC.region Z Z<|sM Z<|sV (.d (ae.pd x12))<|sV (.d (aV.pd (aV.mk )))<|WO.mput (gv:=aV.pd) (y:=(aV.mk )) gV Z Z Z Z Z Z Z Z Z Z<|sN<|WC.region Z Z<|sV (rI (rW (s6+(1:Int))))<|sM Z<|sN ?_
     cases oI h
     exact⟨rfl,rfl⟩
    refine sN<|qS<|cF<|qX ?_
    cases oI h
    exact⟨nofun,rfl,rfl⟩
   intro e R' B' he hq
   rcases o15 with y16|r17
   ·obtain⟨rfl,hI⟩:=hq
    refine qE<|WC.region hI Z<|sV (rI (rW (y16.1+(1:Int))))<|sM Z<|sN ?_
    cases oI h
    exact⟨rfl,rfl⟩
   obtain⟨rfl,hf⟩:=hq
   cases oI h
   exact⟨nofun,rfl,hf⟩
  refine sN<|qS<|cF<|qX ?_
  cases oI h
  exact⟨nofun,rfl,rfl⟩
 intro e R' B' he hq
 rcases o29 with y30|r31
 ·obtain⟨rfl,hI⟩:=hq
  refine qE<|gS Z hI<|sT<|sN<|qR ?_
  exact oI h▸qD
 obtain⟨rfl,hf⟩:=hq
 cases oI h
 exact hf
theorem eH{a0:am}{d0:Int}{r:Bool}(h:dQ a0 d0=some r):EvP prog aU ext 72 [.d (am.pd a0),.ptr 0 0] [.var [rI d0]] (rB r,[.var [rI d0]]):=by
 refine Ev.body Z Tryz.func72 Z Zk<|gU Z<|sB (.ptr 32 0) 32 (.var (am.rc a0))<|sU<|sN<|gU Z<|sL Z<|sV (.ptr 32 37)<|sL Z<|sV (rB (decide (d0<a0.fAt)))<|sA Z<|sN<|qR ?_
 cases oI h
 exact qG
theorem eV{a0:(List am)}{d0:Int}{r:Int}(h:cq a0 d0=some r):EvP prog aU ext 87 [rM am.pd a0,.clo 72 [.ptr 0 0]] [.var [rI d0]] (rI r,[.var [rI d0]]):=by
 refine Ev.body Z Tryz.func87 Z Zk<|gU Z<|sV (r0)<|sN<|qS<|gU Z<|sM Z<|sE (rI (a0.length:Int)) (hF _ _)<|sV (r0)<|sN<|bE h fun o8 ho8 h=>WC.block (WC.loop (WL.jg ho8 (fun s=>gI 1 87 2 [(0,rM am.pd a0),(1,.clo 72 [.ptr 0 0]),(7,rI (a0.length:Int)),(8,rI s)] [(0,.var [rI d0])]) (fun o=>match o with| .inl y=>gX 0 1 87 7 [] [(0,.var [rI d0])]| .inr r=>gF 87 Tryz.f87 1 (rI r,[.var [rI d0]])) Z ?_ ?_))
 ·rintro s1 R' B' q2 hI h
  refine gS Z hI<|sF h ?_ ?_<;>intro h
  ·refine sN<|qS<|cT<|qK<|qS<|qB<|gU Z<|sM Z<|sA Z<|sN<|gU Z<|mM Z<|sM Z<|bE h fun x4 h4 h=>?_
   refine eG h4 Z<|sV (.d (am.pd x4))<|bE h fun x5 h5 h=>jJ h (fun hb6 h=>?_) (fun hb6 h=>?_)
   ·refine WO.j3 (v:=rB true) (u:=[(0,.var [rI d0])]) Z Z (fun _=>Z) Z Z Z Z Z (eH h5) Z Z (congrArg (fun b=>RV.d (.bool b)) hb6) Z<|sN<|cT<|gU Z<|sM Z<|sA Z<|sN<|qR ?_
    cases oI h
    exact⟨nofun,rfl,rfl⟩
   refine WO.j3 (v:=rB false) (u:=[(0,.var [rI d0])]) Z Z (fun _=>Z) Z Z Z Z Z (eH h5) Z Z (congrArg (fun b=>RV.d (.bool b)) hb6) Z<|sN<|cF<|qK<|WC.region Z Z<|sV (rI (rW (s1+(1:Int))))<|sM Z<|sN ?_
   cases oI h
   exact⟨rfl,rfl⟩
  refine sN<|qS<|cF<|qX ?_
  cases oI h
  exact⟨nofun,rfl,rfl⟩
 intro e R' B' he hq
 rcases o8 with y9|r10
 ·obtain⟨rfl,hI⟩:=hq
  refine qE<|gS Z hI<|sV (rI (-1))<|sN<|qR ?_
  exact oI h▸qD
 obtain⟨rfl,hf⟩:=hq
 cases oI h
 exact hf
theorem bw{a0:(List am)}{d0:Int}{r:Bool}(h:br a0 d0=some r):EvP prog aU ext 71 [rM am.pd a0,.clo 72 [.ptr 0 0]] [.var [rI d0]] (rB r,[.var [rI d0]]):=by
 refine Ev.body Z Tryz.func71 Z Zk<|gU Z<|sU<|sN<|gU Z<|mM Z<|bE h fun x1 h1 h=>cR (rI x1) [(0,.var [rI d0])] (eV h1)<|sV (rB (decide (x1>=(0:Int))))<|sA Z<|sN<|qR ?_
 exact oI h▸qD
theorem alert_refused_ev{a0:aC}{a1:(List am)}{a2:Int}{a3:(List ai)}{a4:Int}{r:Int}(h:fd a0 a1 a2 a3 a4=some r):EvP prog aU ext 26 [.d (aC.pd a0),rM am.pd a1,rI a2,rM ai.pd a3,rI a4] [] (rI r,[]):=by
 refine Ev.body Z Tryz.func26 Z Zk<|gU Z<|sB (.ptr 80 0) 80 (.var (aC.rc a0))<|sB (.ptr 144 0) 144 (.var [rI a4])<|sV (r0)<|sN<|qS<|qB<|gU Z<|sV (.d (aC.pd a0))<|bE h fun x1 h1 h=>cD (gO h1)<|sF h ?_ ?_<;>intro h
 ·refine sA Z<|sN<|cT<|gU Z<|sV (rI 27)<|sN<|qR ?_
  exact oI h▸qD
 refine sA Z<|sN<|cF<|gU Z<|sM Z<|bE h fun x3 h3 h=>cD (alert_Valid_ev h3)<|sF h ?_ ?_<;>intro h
 ·refine sM Z<|k3<|sT<|sM Z<|sK<|sK<|sT<|sM Z<|k3<|sK<|sK ?_
  refine k3<|k3<|k3<|sT<|sA Z<|sN<|cT<|gU Z<|sV (rI 1) ?_
  refine sN<|qR ?_
  exact oI h▸qD
 refine mM Z<|bE h fun x5 h5 h=>cD (event_Valid_ev h5)<|sV (rB (!x5))<|sF h ?_ ?_<;>intro h
 ·refine sM Z<|sK<|sK<|sT<|sM Z<|k3<|k3<|k3<|sK ?_
  refine k3<|sK<|sT<|sA Z<|sN<|cT<|gU Z<|sV (rI 1)<|sN<|qR ?_
  exact oI h▸qD
 refine mM Z<|sV (rB (decide (a2<(0:Int))))<|sF h ?_ ?_<;>intro h
 ·refine sM Z<|k3<|k3<|k3<|k3<|sK<|sK ?_
  refine sT<|sA Z<|sN<|cT<|gU Z<|sV (rI 1)<|sN<|qR ?_
  exact oI h▸qD
 refine mM Z<|sE (rI (a1.length:Int)) (hF _ _)<|sF h ?_ ?_<;>intro h
 ·refine mM Z<|mM Z<|sE (rI (a1.length:Int)) (hF _ _)<|sV (rI (rW ((a1.length:Int)-(1:Int))))<|bE h fun x9 h9 h=>eG h9 Z<|sV (.cptr [.int .i64 x9.fID,.bool x9.aI,.str x9.aq.ar.aM,.str x9.aq.ar.aN,.str x9.aq.ar.ac,.str x9.aq.ar.aO,.int .i64 x9.aq.aL,.int .i64 x9.aq.aY,.int .i64 x9.aq.bh,.int .i64 x9.aq.aF,.int .i64 x9.aq.aH,.int .i64 x9.aW,.str x9.aj.aq.ar.aM,.str x9.aj.aq.ar.aN,.str x9.aj.aq.ar.ac,.str x9.aj.aq.ar.aO,.int .i64 x9.aj.aq.aL,.int .i64 x9.aj.aq.aY,.int .i64 x9.aj.aq.bh,.int .i64 x9.aj.aq.aF,.int .i64 x9.aj.aq.aH,.lst (x9.aj.aa.aB.map ae.pd),.int .i64 x9.aj.aa.ac.aP.fX,.int .i64 x9.aj.aa.ac.aP.fY,.int .i64 x9.aj.aa.ac.aP.fZ,.int .i64 x9.aj.aa.ac.aL,.int .i64 x9.aj.aa.ac.aQ,.int .i64 x9.aj.aa.ac.bq,.int .i64 x9.aj.aa.ac.aD.aX.fX,.int .i64 x9.aj.aa.ac.aD.aX.fY,.int .i64 x9.aj.aa.ac.aD.aX.fZ,.int .i64 x9.aj.aa.ac.aD.aJ.fX,.int .i64 x9.aj.aa.ac.aD.aJ.fY,.int .i64 x9.aj.aa.ac.aD.aJ.fZ,.int .i64 x9.aj.aa.av.aX,.int .i64 x9.aj.aa.av.aJ,.int .i64 x9.aj.aa.bd,.int .i64 x9.fAt])<|sC Z<|sV (rB (decide (a2<=x9.fID)))<|sV (rB (decide (a2<=x9.fID)))<|sF h ?_ ?_<;>intro h
  ·refine sA Z<|sN<|cT<|gU Z<|sV (rI 1)<|sN<|qR ?_
   exact oI h▸qD
  refine sA Z<|sN<|cF<|gU Z<|sL Z<|sF h ?_ ?_<;>intro h
  ·refine sM Z<|sK<|sK<|sT<|sA Z<|sN<|cT<|gU Z<|sV (rI 2)<|sN<|qR ?_
   exact oI h▸qD
  refine sM Z<|sL Z<|sV (rB (decide (a4>(18014398509481984:Int))))<|sF h ?_ ?_<;>intro h
  ·refine sA Z<|sN<|cT<|gU Z<|sV (rI 2)<|sN<|qR ?_
   exact oI h▸qD
  refine sA Z<|sN<|cF<|gU Z<|sM Z<|sV (.clo 72 [.ptr 144 0])<|bE h fun x13 h13 h=>jJ h (fun hb14 h=>?_) (fun hb14 h=>?_)
  ·refine WO.j3 (v:=rB true) (u:=[(144,.var [rI a4])]) Z Z (fun _=>Z) Z Z Z Z Z (bw h13) Z Z (congrArg (fun b=>RV.d (.bool b)) hb14) Z<|sA Z<|sN<|cT<|gU Z<|sV (rI 9)<|sN<|qR ?_
   exact oI h▸qD
  refine WO.j3 (v:=rB false) (u:=[(144,.var [rI a4])]) Z Z (fun _=>Z) Z Z Z Z Z (bw h13) Z Z (congrArg (fun b=>RV.d (.bool b)) hb14) Z<|sA Z<|sN<|cF<|qK<|gU Z<|sV (r0)<|sN<|qR ?_
  exact oI h▸qD
 refine sM Z<|k3<|k3<|k3<|sU<|sU<|sA Z<|sN<|cF ?_
 refine gU Z<|sL Z<|sF h ?_ ?_<;>intro h
 ·refine sM Z<|sK<|sK<|sT<|sA Z<|sN<|cT<|gU Z<|sV (rI 2)<|sN<|qR ?_
  exact oI h▸qD
 refine sM Z<|sL Z<|sV (rB (decide (a4>(18014398509481984:Int))))<|sF h ?_ ?_<;>intro h
 ·refine sA Z<|sN<|cT<|gU Z<|sV (rI 2)<|sN<|qR ?_
  exact oI h▸qD
 refine sA Z<|sN<|cF<|gU Z<|sM Z<|sV (.clo 72 [.ptr 144 0])<|bE h fun x17 h17 h=>jJ h (fun hb18 h=>?_) (fun hb18 h=>?_)
 ·refine WO.j3 (v:=rB true) (u:=[(144,.var [rI a4])]) Z Z (fun _=>Z) Z Z Z Z Z (bw h17) Z Z (congrArg (fun b=>RV.d (.bool b)) hb18) Z<|sA Z<|sN<|cT<|gU Z<|sV (rI 9)<|sN<|qR ?_
  exact oI h▸qD
 refine WO.j3 (v:=rB false) (u:=[(144,.var [rI a4])]) Z Z (fun _=>Z) Z Z Z Z Z (bw h17) Z Z (congrArg (fun b=>RV.d (.bool b)) hb18) Z<|sA Z<|sN<|cF<|qK<|gU Z<|sV (r0)<|sN<|qR ?_
 exact oI h▸qD
theorem ci{a0:ai}{r:ai}(h:bZ a0=some r):EvP prog aU ext 28 [.d (ai.pd a0)] [] (.d (ai.pd r),[]):=by
 refine Ev.body Z Tryz.func28 Z Zk<|gU Z<|sB (.ptr 16 0) 16 (.var (ai.rc a0))<|sB (.ptr 32 0) 32 (.var zZ2)<|sN<|gU Z<|sV (.ptr 16 9)<|sV (.ptr 16 9)<|sL Z<|bE h fun x1 h1 h=>cR (.ref 96 0) [(96,.arr 0 44 (x1.map ae.pd))] (clone_73 h1)<|sV (.ptr 16 9)<|sV (.ptr 16 9)<|sS 16 (.var (ae.rc a0.aq++ .ref 96 0::aA.rc a0.aa.ac++aw.rc a0.aa.av++[rI a0.aa.bd]))<|sN ?_
 refine gU Z<|sV (.agg (ae.rc a0.aq++ .ref 96 0::aA.rc a0.aa.ac++aw.rc a0.aa.av++[rI a0.aa.bd]))<|sH 32 (.var (ae.rc a0.aq++ .ref 96 0::aA.rc a0.aa.ac++aw.rc a0.aa.av++[rI a0.aa.bd]))<|sN<|qR ?_
 cases oI h
 exact qG
theorem iI{a0:(List am)}{r:(List am)}(h:gG a0=some r):EvP prog aU ext 29 [rM am.pd a0] [] (.ref 0 0,[.arr 0 61 (r.map am.pd)]):=by
 refine Ev.body Z Tryz.func29 Z Zk<|gU Z<|sV .iZ<|sN<|gU Z<|sM Z<|bE h fun x1 h1 h=>cR (.ref 96 0) [(96,.arr 0 61 (x1.map am.pd))] (clone_74 h1)<|sA Z<|sN<|qS<|gU Z<|sM Z<|WO.lenR Z Z Z Z Z Z Z Z Z<|sV (r0) ?_
 refine sN<|bE h fun o16 ho16 h=>WC.block (WC.loop (WL.jg ho16 (fun s=>gI 0 29 3 [(3,.ref 96 0),(8,rI (x1.length:Int)),(9,rI s.1)] [(96,.arr 0 61 (s.2.map am.pd))]) (fun o=>gX 0 0 29 7 [(3,.ref 96 0)] [(96,.arr 0 61 (o.map am.pd))]) Z ?_ ?_))
 ·rintro⟨s2,s3⟩ R' B' q5 hI h
  refine gS Z hI<|sF h ?_ ?_<;>intro h
  ·refine sN<|qS<|cT<|qK<|qS<|qB<|gU Z<|sM Z<|sA Z<|sN<|WC.region Z Z<|mM Z<|sM Z<|sM Z ?_
   refine bE h fun x8 h8 h=>WO.mU h8 Z Z Z Z Z Z Z Z<|sV (.elt 96 0 (s2).toNat 12)<|bE h fun x9 h9 h=>WO.mY h9 Z Z Z Z Z Z<|bE h fun x10 h10 h=>cD (ci h10)<|bE h fun x12 h12 h=>WO.mU h12 Z Z Z Z Z Z Z Z<|sV (.elt 96 0 (s2).toNat 12)<|bE h fun x13 h13 h=>WO.lE (g:=am.pd) (u:=[]) (sz:=25) h13 (by intro _;kernel_rfl) (fun _=>Nat.le_of_ble_eq_true Z) Z Z Z Z Z Z Z Z Z Z Z<|sN<|WC.region Z Z<|sV (rI (rW (s2+(1:Int)))) ?_
   refine sM Z<|sN ?_
   cases oI h
   exact⟨rfl,rfl⟩
  refine sN<|qS<|cF<|qX ?_
  cases oI h
  exact⟨nofun,rfl,rfl⟩
 intro e R' B' he hq
 obtain⟨rfl,hI⟩:=hq
 refine qE<|gS Z hI<|sM Z<|sA Z<|sN<|qR ?_
 exact oI h▸qD
theorem io{a0:(List ae)}{a1:ae}{r:Int}(h:di a0 a1=some r):EvP prog aU ext 204 [rM ae.pd a0,.d (ae.pd a1)] [] (rI r,[]):=by
 refine Ev.body Z Tryz.func204 Z Zk<|gU Z<|sB (.ptr 48 0) 48 (.var (ae.rc a1))<|sV (r0)<|sN<|qS<|gU Z<|sM Z<|sE (rI (a0.length:Int)) (hF _ _)<|sV (r0)<|sN<|bE h fun o7 ho7 h=>WC.block (WC.loop (WL.jg ho7 (fun s=>gI 0 204 2 [(0,rM ae.pd a0),(3,.ptr 48 0),(7,rI (a0.length:Int)),(8,rI s)] [(48,.var (ae.rc a1))]) (fun o=>match o with| .inl y=>gX 0 0 204 7 [] []| .inr r=>gF 204 Tryz.f204 0 (rI r,[])) Z ?_ ?_))
 ·rintro s1 R' B' q2 hI h
  refine gS Z hI<|sF h ?_ ?_<;>intro h
  ·refine sN<|qS<|cT<|qK<|qS<|qB<|gU Z<|sM Z<|sA Z<|sN<|WC.iu Z Z<|sV (.d (ae.pd a1))<|mM Z<|bE h fun x4 h4 h=>?_
   refine eG h4 Z<|sV (.d (ae.pd x4))<|jJ h (fun hb5 h=>?_) (fun hb5 h=>?_)
   ·refine WO.binS (eqE_44 a1 x4) hb5 Z Z Z Z Z ?_
    refine sN<|sO<|cT<|gU Z<|sM Z<|sA Z<|sN<|qR ?_
    cases oI h
    exact⟨nofun,rfl,rfl⟩
   refine WO.binS (eqE_44 a1 x4) hb5 Z Z Z Z Z ?_
   refine sN<|sO<|cF<|qK<|WC.region Z Z<|sV (rI (rW (s1+(1:Int))))<|sM Z<|sN ?_
   cases oI h
   exact⟨rfl,rfl⟩
  refine sN<|qS<|cF<|qX ?_
  cases oI h
  exact⟨nofun,rfl,rfl⟩
 intro e R' B' he hq
 rcases o7 with y8|r9
 ·obtain⟨rfl,hI⟩:=hq
  refine qE<|gS Z hI<|sV (rI (-1))<|sN<|qR ?_
  exact oI h▸qD
 obtain⟨rfl,hf⟩:=hq
 cases oI h
 exact hf
theorem gP{a0:(List ae)}{a1:ae}{r:Bool}(h:dx a0 a1=some r):EvP prog aU ext 144 [rM ae.pd a0,.d (ae.pd a1)] [] (rB r,[]):=by
 refine Ev.body Z Tryz.func144 Z Zk<|gU Z<|sB (.ptr 48 0) 48 (.var (ae.rc a1))<|sU<|sN<|gU Z<|sM Z<|sV (.d (ae.pd a1))<|bE h fun x1 h1 h=>cD (io h1)<|sV (rB (decide (x1>=(0:Int))))<|sA Z<|sN<|qR ?_
 cases oI h
 exact qG
theorem fm{a0:ae}{d0:ai}{r:Bool}(h:eb a0 d0=some r):EvP prog aU ext 143 [.d (ae.pd a0),.ptr 0 0] [.var (ai.rc d0)] (rB r,[.var (ai.rc d0)]):=by
 refine Ev.body Z Tryz.func143 Z Zk<|gU Z<|sB (.ptr 32 0) 32 (.var (ae.rc a0))<|sU<|sN<|gU Z<|sV (.ptr 0 9)<|sV (.ptr 0 9)<|sL Z<|sV (.d (ae.pd a0))<|bE h fun x1 h1 h=>cD (gP h1)<|sA Z<|sN<|qR ?_
 cases oI h
 exact qG
theorem fr{a0:(List ae)}{d0:ai}{r:Int}(h:cx a0 d0=some r):EvP prog aU ext 150 [rM ae.pd a0,.clo 143 [.ptr 0 0]] [.var (ai.rc d0)] (rI r,[.var (ai.rc d0)]):=by
 refine Ev.body Z Tryz.func150 Z Zk<|gU Z<|sV (r0)<|sN<|qS<|gU Z<|sM Z<|sE (rI (a0.length:Int)) (hF _ _)<|sV (r0)<|sN<|bE h fun o8 ho8 h=>WC.block (WC.loop (WL.jg ho8 (fun s=>gI 1 150 2 [(0,rM ae.pd a0),(1,.clo 143 [.ptr 0 0]),(7,rI (a0.length:Int)),(8,rI s)] [(0,.var (ai.rc d0))]) (fun o=>match o with| .inl y=>gX 0 1 150 7 [] [(0,.var (ai.rc d0))]| .inr r=>gF 150 Tryz.f150 1 (rI r,[.var (ai.rc d0)])) Z ?_ ?_))
 ·rintro s1 R' B' q2 hI h
  refine gS Z hI<|sF h ?_ ?_<;>intro h
  ·refine sN<|qS<|cT<|qK<|qS<|qB<|gU Z<|sM Z<|sA Z<|sN<|gU Z<|mM Z<|sM Z<|bE h fun x4 h4 h=>?_
   refine eG h4 Z<|sV (.d (ae.pd x4))<|bE h fun x5 h5 h=>jJ h (fun hb6 h=>?_) (fun hb6 h=>?_)
   ·refine WO.j3 (v:=rB true) (u:=[(0,.var (ai.rc d0))]) Z Z (fun _=>Z) Z Z Z Z Z (fm h5) Z Z (congrArg (fun b=>RV.d (.bool b)) hb6) Z<|sN<|cT<|gU Z<|sM Z<|sA Z<|sN<|qR ?_
    cases oI h
    exact⟨nofun,rfl,rfl⟩
   refine WO.j3 (v:=rB false) (u:=[(0,.var (ai.rc d0))]) Z Z (fun _=>Z) Z Z Z Z Z (fm h5) Z Z (congrArg (fun b=>RV.d (.bool b)) hb6) Z<|sN<|cF<|qK<|WC.region Z Z<|sV (rI (rW (s1+(1:Int))))<|sM Z<|sN ?_
   cases oI h
   exact⟨rfl,rfl⟩
  refine sN<|qS<|cF<|qX ?_
  cases oI h
  exact⟨nofun,rfl,rfl⟩
 intro e R' B' he hq
 rcases o8 with y9|r10
 ·obtain⟨rfl,hI⟩:=hq
  refine qE<|gS Z hI<|sV (rI (-1))<|sN<|qR ?_
  cases oI h
  exact qG
 obtain⟨rfl,hf⟩:=hq
 cases oI h
 exact hf
theorem eA{a0:(List ae)}{d0:ai}{r:Bool}(h:ce a0 d0=some r):EvP prog aU ext 84 [rM ae.pd a0,.clo 143 [.ptr 0 0]] [.var (ai.rc d0)] (rB r,[.var (ai.rc d0)]):=by
 refine Ev.body Z Tryz.func84 Z Zk<|gU Z<|sU<|sN<|gU Z<|mM Z<|bE h fun x1 h1 h=>cR (rI x1) [(0,.var (ai.rc d0))] (fr h1)<|sV (rB (decide (x1>=(0:Int))))<|sA Z<|sN<|qR ?_
 cases oI h
 exact qG
theorem alert_shared_ev{a0:ai}{a1:ai}{r:Bool}(h:fK a0 a1=some r):EvP prog aU ext 75 [.d (ai.pd a0),.d (ai.pd a1)] [] (rB r,[]):=by
 refine Ev.body Z Tryz.func75 Z Zk<|gU Z<|sB (.ptr 32 0) 32 (.var (ai.rc a0))<|sB (.ptr 48 0) 48 (.var (ai.rc a1))<|sU<|sN<|gU Z<|sV (.ptr 32 9)<|sV (.ptr 32 9)<|sL Z<|sV (.clo 143 [.ptr 48 0])<|bE h fun x1 h1 h=>cR (rB x1) [(48,.var (ai.rc a1))] (eA h1)<|sA Z<|sN ?_
 refine qR ?_
 cases oI h
 exact qG
theorem alert_Follow_ev{a0:(List am)}{a1:(List ai)}{r:(List Int)}(h:fJ a0 a1=some r):EvP prog aU ext 30 [rM am.pd a0,rM ai.pd a1] [] (rL r,[]):=by
 refine Ev.body Z Tryz.func30 Z Zk<|gU Z<|sV .iZ<|sN<|gU Z<|sB (.ptr 320 0) 320 (.map 44 3 (([]:List (ae×Int)).map fun e=>(ae.pd e.1,(PD.int .i64) e.2)))<|sA Z<|sN<|qS<|gU Z<|sM Z<|sE (rI (a1.length:Int)) (hF _ _)<|sV (r0)<|sN<|bE h fun o9 ho9 h=>?_
 refine WC.block (WC.loop (WL.jg ho9 (fun s=>gI 0 30 3 [(0,rM am.pd a0),(1,rM ai.pd a1),(5,.ptr 320 0),(21,rM ai.pd a1),(22,rI (a1.length:Int)),(23,rI s.1)] [(320,.map 44 3 (s.2.map fun e=>(ae.pd e.1,(PD.int .i64) e.2)))]) (fun o=>gX 0 0 30 9 [(0,rM am.pd a0),(1,rM ai.pd a1),(5,.ptr 320 0)] [(320,.map 44 3 (o.map fun e=>(ae.pd e.1,(PD.int .i64) e.2)))]) Z ?_ ?_))
 ·rintro⟨s1,s2⟩ R' B' q4 hI h
  refine gS Z hI<|sF h ?_ ?_<;>intro h
  ·refine sN<|qS<|cT<|qK<|qS<|qB<|gU Z<|sM Z<|bE h fun x6 h6 h=>eG h6 Z<|sV (.d (ai.pd x6))<|sB (.ptr 112 0) 112 (.var zZ2)<|sA Z<|sH 112 (.var (ai.rc x6))<|sN ?_
   refine gU Z<|sM Z<|sV (.ptr 112 0)<|sV (.d (ae.pd x6.aq))<|WO.oH (gv:=(PD.int .i64)) (z:=(0:Int)) gV Z Z Z Z Z Z Z Z<|sM Z<|sV (rI (bo co x6.aq (0:Int) s2))<|sV (rB (ky co x6.aq s2))<|sA Z<|sA Z<|sN<|gU Z<|sM Z<|sF h ?_ ?_<;>intro h
   ·refine sN<|cT<|WC.region Z Z<|sM Z<|sV (.ptr 112 0)<|sV (.d (ae.pd x6.aq))<|sM Z<|WO.mput (gv:=(PD.int .i64)) (y:=s1) gV Z Z Z Z Z Z Z Z Z Z<|sN<|WC.region Z Z<|sV (rI (rW (s1+(1:Int))))<|sM Z<|sN ?_
    cases oI h
    exact⟨rfl,rfl⟩
   refine sN<|cF<|qK<|WC.region Z Z<|sV (rI (rW (s1+(1:Int))))<|sM Z<|sN ?_
   cases oI h
   exact⟨rfl,rfl⟩
  refine sN<|qS<|cF<|qX ?_
  cases oI h
  exact⟨nofun,rfl,rfl⟩
 intro e R' B' he hq
 obtain⟨rfl,hI⟩:=hq
 refine qE<|gS Z hI<|sM Z<|sE (rI (a0.length:Int)) (hF _ _)<|bE h fun x10 h10 h=>WO.mkS (g:=(PD.int .i64)) h10 Z Z Z Z Z Z Z Z Z Z Z<|sA Z<|sN<|gU Z<|sM Z<|sE (rI (a1.length:Int)) (hF _ _)<|bE h fun x11 h11 h=>WO.mkS (g:=PD.bool) h11 Z Z Z Z Z Z Z Z Z Z Z<|sA Z<|sN ?_
 refine qS<|gU Z<|sM Z<|sE (rI (a0.length:Int)) (hF _ _)<|sV (r0)<|sN<|bE h fun o35 ho35 h=>WC.block (WC.loop (WL.jg ho35 (fun s=>gI 0 30 12 [(0,rM am.pd a0),(1,rM ai.pd a1),(5,.ptr 320 0),(10,.ref 704 0),(11,.ref 752 0),(48,rM am.pd a0),(49,rI (a0.length:Int)),(50,rI s.1)] [(320,.map 44 3 (o9.map fun e=>(ae.pd e.1,(PD.int .i64) e.2))),(704,.arr 0 3 (s.2.1.map (PD.int .i64))),(752,.arr 0 4 (s.2.2.map PD.bool))]) (fun o=>gX 2 0 30 19 [(0,rM am.pd a0),(1,rM ai.pd a1),(10,.ref 704 0),(11,.ref 752 0)] [(704,.arr 0 3 (o.1.map (PD.int .i64))),(752,.arr 0 4 (o.2.map PD.bool))]) Z ?_ ?_))
 ·rintro⟨s12,s13,s14⟩ R' B' q17 hI h
  refine gS Z hI<|sF h ?_ ?_<;>intro h
  ·refine sN<|qS<|cT<|qK<|qS<|qB<|gU Z<|sM Z<|bE h fun x19 h19 h=>eG h19 Z<|sV (.d (am.pd x19))<|sB (.ptr 208 0) 208 (.var zZ0)<|sA Z<|sH 208 (.var (am.rc x19))<|sN ?_
   refine gU Z<|sM Z<|sV (.ptr 208 2)<|sV (.d (ae.pd x19.aq))<|WO.oH (gv:=(PD.int .i64)) (z:=(0:Int)) gV Z Z Z Z Z Z Z Z<|sM Z<|sV (rI (bo co x19.aq (0:Int) o9))<|sV (rB (ky co x19.aq o9))<|sA Z<|sA Z<|sN<|qS<|gU Z<|sV (.ptr 208 1)<|sF h ?_ ?_<;>intro h
   ·refine sM Z<|sK<|sK<|sT<|sN<|cT<|gU Z<|mM Z<|bE h fun x22 h22 h=>WO.mU h22 Z Z Z Z Z Z Z Z<|bE h fun x23 h23 h=>WO.ng (g:=(PD.int .i64)) (sz:=1) (p:= .int .i64 (-1)) h23 (fun _=>Z) (fun _=>Z) Z Z Z Z Z Z Z Z Z<|sN<|qX ?_
    refine qE<|WC.region Z Z<|sV (rI (rW (s12+(1:Int))))<|sM Z<|sN ?_
    cases oI h
    exact⟨rfl,rfl⟩
   refine mM Z<|sV (rB (!(ky co x19.aq o9)))<|sF h ?_ ?_<;>intro h
   ·refine sN<|cT<|gU Z<|mM Z<|bE h fun x26 h26 h=>WO.mU h26 Z Z Z Z Z Z Z Z<|bE h fun x27 h27 h=>WO.ng (g:=(PD.int .i64)) (sz:=1) (p:= .int .i64 (-1)) h27 (fun _=>Z) (fun _=>Z) Z Z Z Z Z Z Z Z Z<|sN<|qX<|qE<|WC.region Z Z<|sV (rI (rW (s12+(1:Int))))<|sM Z ?_
    refine sN ?_
    cases oI h
    exact⟨rfl,rfl⟩
   refine sN<|cF<|qK<|WC.region Z Z<|mM Z<|mM Z<|sM Z<|bE h fun x29 h29 h=>WO.mU h29 Z Z Z Z Z Z Z Z<|bE h fun x30 h30 h=>WO.ng (g:=(PD.int .i64)) (sz:=1) (p:= .int .i64 (bo co x19.aq (0:Int) o9)) h30 (fun _=>Z) (fun _=>Z) Z Z Z Z Z Z Z Z Z<|bE h fun x32 h32 h=>WO.mU h32 Z Z Z Z Z Z Z Z ?_
   refine bE h fun x33 h33 h=>WO.ng (g:=PD.bool) (sz:=1) (p:= .bool true) h33 (fun _=>Z) (fun _=>Z) Z Z Z Z Z Z Z Z Z<|sN<|WC.region Z Z<|sV (rI (rW (s12+(1:Int))))<|sM Z<|sN ?_
   cases oI h
   exact⟨rfl,rfl⟩
  refine sN<|qS<|cF<|qX ?_
  cases oI h
  exact⟨nofun,rfl,rfl⟩
 intro e R' B' he hq
 obtain⟨rfl,hI⟩:=hq
 refine qE<|qS<|gS Z hI<|sM Z<|sE (rI (a0.length:Int)) (hF _ _)<|sV (r0)<|sN<|bE h fun o70 ho70 h=>WC.block (WC.loop (WL.jg ho70 (fun s=>gI 0 30 20 [(1,rM ai.pd a1),(10,.ref 704 0),(11,.ref 752 0),(79,rM am.pd a0),(80,rI (a0.length:Int)),(81,rI s.1)] [(704,.arr 0 3 (s.2.1.map (PD.int .i64))),(752,.arr 0 4 (s.2.2.map PD.bool))]) (fun o=>gX 4 0 30 30 [(10,.ref 704 0)] [(704,.arr 0 3 (o.map (PD.int .i64)))]) Z ?_ ?_))
 ·rintro⟨s36,s37,s38⟩ R' B' q40 hI h
  refine gS Z hI<|sF h ?_ ?_<;>intro h
  ·refine sN<|qS<|cT<|qK<|qS<|qB<|gU Z<|sM Z<|bE h fun x42 h42 h=>eG h42 Z<|sV (.d (am.pd x42))<|sB (.ptr 272 0) 272 (.var zZ0)<|sA Z<|sH 272 (.var (am.rc x42))<|sN ?_
   refine qS<|gU Z<|sV (.ptr 272 1)<|sF h ?_ ?_<;>intro h
   ·refine sM Z<|k3<|sK<|sK<|sT<|sN<|cT<|qX<|qE<|WC.region Z Z<|sV (rI (rW (s36+(1:Int))))<|sM Z<|sN ?_
    cases oI h
    exact⟨rfl,rfl⟩
   refine mM Z<|sM Z<|bE h fun x45 h45 h=>WO.mU h45 Z Z Z Z Z Z Z Z<|bE h fun x46 h46 h=>WO.mY h46 Z Z Z Z Z Z<|sV (rB (decide (x46>=(0:Int))))<|sF h ?_ ?_<;>intro h
   ·refine sN<|cT<|qX<|qE<|WC.region Z Z<|sV (rI (rW (s36+(1:Int))))<|sM Z<|sN ?_
    cases oI h
    exact⟨rfl,rfl⟩
   refine sN<|cF<|qK<|gU Z<|sM Z<|sE (rI (a1.length:Int)) (hF _ _)<|sV (r0)<|sN<|bE h fun o68 ho68 h=>WC.block (WC.loop (WL.jg ho68 (fun s=>gI 0 30 24 [(1,rM ai.pd a1),(10,.ref 704 0),(11,.ref 752 0),(16,rI s36),(17,.ptr 272 0),(79,rM am.pd a0),(80,rI (a0.length:Int)),(81,rI s36),(95,rM ai.pd a1),(96,rI (a1.length:Int)),(97,rI s)] [(272,.var (am.rc x42)),(704,.arr 0 3 (s37.map (PD.int .i64))),(752,.arr 0 4 (s38.map PD.bool))]) (fun o=>gX 6 0 30 29 [(1,rM ai.pd a1),(10,.ref 704 0),(11,.ref 752 0),(79,rM am.pd a0),(80,rI (a0.length:Int)),(81,rI o.1)] [(704,.arr 0 3 (o.2.1.map (PD.int .i64))),(752,.arr 0 4 (o.2.2.map PD.bool))]) Z ?_ ?_))
   ·rintro s48 R' B' q52 hI h
    refine gS Z hI<|sF h ?_ ?_<;>intro h
    ·refine sN<|qS<|cT<|qK<|qS<|qB<|gU Z<|sM Z<|bE h fun x54 h54 h=>eG h54 Z<|sV (.d (ai.pd x54))<|sB (.ptr 304 0) 304 (.var zZ2)<|sA Z<|sH 304 (.var (ai.rc x54))<|sN ?_
     refine gU Z<|mM Z<|bE h fun x56 h56 h=>WO.mU h56 Z Z Z Z Z Z Z Z<|bE h fun x57 h57 h=>WO.mY h57 Z Z Z Z Z Z<|sF h ?_ ?_<;>intro h
     ·refine sM Z<|sV (.ptr 272 12)<|sV (.d (ai.pd x42.aj))<|sV (.d (ai.pd x54))<|bE h fun x59 h59 h=>cD (alert_shared_ev h59)<|sF h ?_ ?_<;>intro h
      ·refine sN<|cT<|gU Z<|mM Z<|mM Z<|sM Z<|bE h fun x62 h62 h=>WO.mU h62 Z Z Z Z Z Z Z Z<|bE h fun x63 h63 h=>WO.ng (g:=(PD.int .i64)) (sz:=1) (p:= .int .i64 s48) h63 (fun _=>Z) (fun _=>Z) Z Z Z Z Z Z Z Z Z<|bE h fun x65 h65 h=>WO.mU h65 Z Z Z Z Z Z Z Z<|bE h fun x66 h66 h=>?_
       refine WO.ng (g:=PD.bool) (sz:=1) (p:= .bool true) h66 (fun _=>Z) (fun _=>Z) Z Z Z Z Z Z Z Z Z<|sN<|qX<|⟨fun he=>(by cases he),fun _=>?_⟩
       cases oI h
       exact⟨nofun,rfl,rfl⟩
      refine sN<|cF<|qK<|WC.region Z Z<|sV (rI (rW (s48+(1:Int))))<|sM Z<|sN ?_
      cases oI h
      exact⟨rfl,rfl⟩
     refine sM Z<|k3<|sK<|sU<|sN<|cF<|qK<|WC.region Z Z<|sV (rI (rW (s48+(1:Int))))<|sM Z<|sN ?_
     cases oI h
     exact⟨rfl,rfl⟩
    refine sN<|qS<|cF<|qX ?_
    cases oI h
    exact⟨nofun,rfl,rfl⟩
   intro e R' B' he hq
   obtain⟨rfl,hI⟩:=hq
   refine qE<|WC.region hI Z<|sV (rI (rW (o68.1+(1:Int))))<|sM Z<|sN ?_
   cases oI h
   exact⟨rfl,rfl⟩
  refine sN<|qS<|cF<|qX ?_
  cases oI h
  exact⟨nofun,rfl,rfl⟩
 intro e R' B' he hq
 obtain⟨rfl,hI⟩:=hq
 refine qE<|gS Z hI<|sM Z<|sA Z<|sN<|qR ?_
 exact oI h▸qD
theorem dM{a0:aC}{a1:ai}{r:Int}(h:cw a0 a1=some r):EvP prog aU ext 31 [.d a0.pd,.d a1.pd] [] (rI r,[]):=handD_ev rfl T_api_Policy_inj T_api_Event_inj h
theorem f8{a0:ah}{r:gx}(h:dY a0=some r):EvP prog aU ext 147 [.d (ah.pd a0)] [] (.d (gx.pd r),[]):=by
 refine Ev.body Z Tryz.func147 Z Zk<|gU Z<|sB (.ptr 16 0) 16 (.var (ah.rc a0))<|sB (.ptr 32 0) 32 (.var [r0,r0,r0])<|sN<|gU Z<|sV (.ptr 16 0)<|sL Z<|sV (.ptr 16 1)<|sL Z<|sV (.ptr 16 2)<|sL Z<|sV (.d (gx.pd (gx.mk a0.fX a0.fY a0.fZ)))<|sS 32 (.var (ah.rc a0))<|sN ?_
 refine qR ?_
 exact oI h▸qD
theorem gn{a0:ah}{r:Bool}(h:dn a0=some r):EvP prog aU ext 146 [.d (ah.pd a0)] [] (rB r,[]):=by
 refine Ev.body Z Tryz.func146 Z Zk<|gU Z<|sB (.ptr 16 0) 16 (.var (ah.rc a0))<|sU<|sN<|gU Z<|sV (.d (gx.pd (gx.mk (-1048576) (-1048576) (-16384))))<|sB (.ptr 48 0) 48 (.var [r0,r0,r0])<|sS 48 (.var [rI (-1048576),rI (-1048576),rI (-16384)])<|sN<|qS<|gU Z<|sV (.d (ah.pd a0))<|bE h fun x1 h1 h=>cD (f8 h1) ?_
 refine sV (r0)<|sN<|WC.block (WC.loop ?_)
 refine WL.round<|gU Z<|sT<|sN<|qS<|cT<|qK<|qS<|qB<|gU Z<|sM Z<|sV (rI x1.a0)<|sA Z<|sA Z<|sN ?_
 refine gU Z<|mM Z<|sV (.ptr 48 0)<|sL Z<|sF h ?_ ?_<;>intro h
 ·refine sM Z<|sK<|sK<|sT<|sN<|cT<|gU Z<|sU<|sN<|qR ?_
  exact oI h▸qD
 refine mM Z<|sV (rB (decide (x1.a0>(1048576:Int))))<|sF h ?_ ?_<;>intro h
 ·refine sN<|cT<|gU Z<|sU<|sN<|qR ?_
  exact oI h▸qD
 refine sN<|cF<|qK<|WC.region Z Z<|sV (rI 1)<|sM Z<|sN<|WL.round<|gU Z<|sT<|sN<|qS<|cT<|qK<|qS ?_
 refine qB<|gU Z<|sM Z<|sV (rI x1.a1)<|sA Z<|sA Z<|sN<|gU Z<|mM Z<|sV (.ptr 48 1)<|sL Z<|sF h ?_ ?_<;>intro h
 ·refine sM Z<|sK<|sK<|sT<|sN<|cT<|gU Z<|sU<|sN<|qR ?_
  exact oI h▸qD
 refine mM Z<|sV (rB (decide (x1.a1>(1048576:Int))))<|sF h ?_ ?_<;>intro h
 ·refine sN<|cT<|gU Z<|sU<|sN<|qR ?_
  exact oI h▸qD
 refine sN<|cF<|qK<|WC.region Z Z<|sV (rI 2)<|sM Z<|sN<|WL.round<|gU Z<|sT<|sN<|qS<|cT<|qK<|qS ?_
 refine qB<|gU Z<|sM Z<|sV (rI x1.a2)<|sA Z<|sA Z<|sN<|gU Z<|mM Z<|sV (.ptr 48 2)<|sL Z<|sF h ?_ ?_<;>intro h
 ·refine sM Z<|sK<|sK<|sT<|sN<|cT<|gU Z<|sU<|sN<|qR ?_
  exact oI h▸qD
 refine mM Z<|sV (rB (decide (x1.a2>(1048576:Int))))<|sF h ?_ ?_<;>intro h
 ·refine sN<|cT<|gU Z<|sU<|sN<|qR ?_
  exact oI h▸qD
 refine sN<|cF<|qK<|WC.region Z Z<|sV (rI 3)<|sM Z<|sN<|WL.round<|gU Z<|sU<|sN<|qS<|cF<|qX<|qE ?_
 refine gU Z<|sT<|sN<|qR ?_
 exact oI h▸qD
theorem iF{a0:ah}{a1:ah}{r:Int}(h:dN a0 a1=some r):EvP prog aU ext 78 [.d (ah.pd a0),.d (ah.pd a1)] [] (rI r,[]):=by
 refine Ev.body Z Tryz.func78 Z Zk<|gU Z<|sB (.ptr 32 0) 32 (.var (ah.rc a0))<|sB (.ptr 48 0) 48 (.var (ah.rc a1))<|sV (r0)<|sN<|qS<|gU Z<|sV (.d (ah.pd a0))<|bE h fun x1 h1 h=>cD (gn h1)<|sF h ?_ ?_<;>intro h
 ·refine sM Z<|k3<|sT<|sN<|cT<|gU Z<|sV (r0)<|sN<|qR ?_
  exact oI h▸qD
 refine sM Z<|sV (.d (ah.pd a1))<|bE h fun x3 h3 h=>cD (gn h3)<|sV (rB (!x3))<|sF h ?_ ?_<;>intro h
 ·refine sN<|cT<|gU Z<|sV (r0)<|sN<|qR ?_
  exact oI h▸qD
 refine sN<|cF<|qK<|gU Z<|sV (.d (ah.pd a1))<|bE h fun x5 h5 h=>cD (f8 h5)<|sB (.ptr 96 0) 96 (.var [r0,r0,r0])<|sV (r0)<|sS 96 (.var [rI x5.a0,rI x5.a1,rI x5.a2])<|sN<|qS<|gU Z<|sV (.d (ah.pd a0))<|bE h fun x6 h6 h=>?_
 refine cD (f8 h6)<|sV (r0)<|sN<|WC.block (WC.loop ?_)
 refine WL.round<|gU Z<|sT<|sN<|qS<|cT<|qK<|qS<|qB<|gU Z<|sM Z<|sV (rI x6.a0)<|sA Z<|sA Z<|sN ?_
 refine WC.kK Z Z<|mM Z<|sM Z<|sV (.ptr 96 0)<|sL Z<|sV (rI (rW (x6.a0-x5.a0)))<|mM Z<|sV (.ptr 96 0)<|sL Z<|sV (rI (rW (x6.a0-x5.a0)))<|sV (rI (rW ((rW (x6.a0-x5.a0))*(rW (x6.a0-x5.a0)))))<|sV (rI (rW ((0:Int)+(rW ((rW (x6.a0-x5.a0))*(rW (x6.a0-x5.a0)))))))<|sA Z ?_
 refine sN<|sO<|WC.region Z Z<|sV (rI 1)<|sM Z<|sN<|WL.round<|gU Z<|sT<|sN<|qS<|cT<|qK<|qS<|qB<|gU Z ?_
 refine sM Z<|sV (rI x6.a1)<|sA Z<|sA Z<|sN<|WC.kK Z Z<|mM Z<|sM Z<|sV (.ptr 96 1)<|sL Z<|sV (rI (rW (x6.a1-x5.a1)))<|mM Z<|sV (.ptr 96 1) ?_
 refine sL Z<|sV (rI (rW (x6.a1-x5.a1)))<|sV (rI (rW ((rW (x6.a1-x5.a1))*(rW (x6.a1-x5.a1)))))<|sV (rI (rW ((rW ((0:Int)+(rW ((rW (x6.a0-x5.a0))*(rW (x6.a0-x5.a0))))))+(rW ((rW (x6.a1-x5.a1))*(rW (x6.a1-x5.a1)))))))<|sA Z ?_
 refine sN<|sO<|WC.region Z Z<|sV (rI 2)<|sM Z<|sN<|WL.round<|gU Z<|sT<|sN<|qS<|cT<|qK<|qS<|qB<|gU Z ?_
 refine sM Z<|sV (rI x6.a2)<|sA Z<|sA Z<|sN<|WC.kK Z Z<|mM Z<|sM Z<|sV (.ptr 96 2)<|sL Z<|sV (rI (rW (x6.a2-x5.a2)))<|mM Z<|sV (.ptr 96 2) ?_
 refine sL Z<|sV (rI (rW (x6.a2-x5.a2)))<|sV (rI (rW ((rW (x6.a2-x5.a2))*(rW (x6.a2-x5.a2)))))<|sV (rI (rW ((rW ((rW ((0:Int)+(rW ((rW (x6.a0-x5.a0))*(rW (x6.a0-x5.a0))))))+(rW ((rW (x6.a1-x5.a1))*(rW (x6.a1-x5.a1))))))+(rW ((rW (x6.a2-x5.a2))*(rW (x6.a2-x5.a2)))))))<|sA Z ?_
 refine sN<|sO<|WC.region Z Z<|sV (rI 3)<|sM Z<|sN<|WL.round<|gU Z<|sU<|sN<|qS<|cF<|qX<|qE<|gU Z<|sM Z ?_
 refine sA Z<|sN<|qR ?_
 exact oI h▸qD
theorem iD{a0:Int}{a1:Int}{r:Int}(h:eU a0 a1=some r):EvP prog aU ext 79 [rI a0,rI a1] [] (.d (.int .u64 r),[]):=by
 refine Ev.body Z Tryz.func79 Z Zk<|gU Z<|sV (.d (.int .u64 0))<|sN<|qS<|gU Z<|mM Z<|sF h ?_ ?_<;>intro h
 ·refine sN<|cT<|WC.region Z Z<|mM Z<|sA Z<|sA Z<|sN<|gU Z<|sM Z<|sV (.d (.int .u64 (IntKind.wrap .u64 a1)))<|sM Z<|sV (.d (.int .u64 (IntKind.wrap .u64 a0)))<|sV (.d (.int .u64 (IntKind.wrap .u64 ((IntKind.wrap .u64 a1)-(IntKind.wrap .u64 a0)))))<|sA Z ?_
  refine sN<|qR ?_
  exact oI h▸qD
 refine sN<|cF<|qK<|gU Z<|sM Z<|sV (.d (.int .u64 (IntKind.wrap .u64 a0)))<|sM Z<|sV (.d (.int .u64 (IntKind.wrap .u64 a1)))<|sV (.d (.int .u64 (IntKind.wrap .u64 ((IntKind.wrap .u64 a0)-(IntKind.wrap .u64 a1)))))<|sA Z<|sN<|qR ?_
 exact oI h▸qD
theorem f9{a0:aw}{a1:aw}{r:Bool}(h:df a0 a1=some r):EvP prog aU ext 80 [.d (aw.pd a0),.d (aw.pd a1)] [] (rB r,[]):=by
 refine Ev.body Z Tryz.func80 Z Zk<|gU Z<|sB (.ptr 32 0) 32 (.var (aw.rc a0))<|sB (.ptr 48 0) 48 (.var (aw.rc a1))<|sU<|sN<|gU Z<|sV (.ptr 32 0)<|sL Z<|sV (.ptr 48 0)<|sL Z<|sV (rI (if a1.aX>a0.aX then a1.aX else a0.aX))<|sV (.ptr 32 1)<|sL Z<|sV (.ptr 48 1) ?_
 refine sL Z<|sV (rI (if a1.aJ<a0.aJ then a1.aJ else a0.aJ))<|sV (rB (decide ((if a1.aX>a0.aX then a1.aX else a0.aX)<=(if a1.aJ<a0.aJ then a1.aJ else a0.aJ))))<|sA Z<|sN<|qR ?_
 exact oI h▸qD
theorem rule_Moved_ev{a0:aC}{a1:ai}{a2:ai}{r:Bool}(h:gY a0 a1 a2=some r):EvP prog aU ext 32 [.d (aC.pd a0),.d (ai.pd a1),.d (ai.pd a2)] [] (rB r,[]):=by
 refine Ev.body Z Tryz.func32 Z Zk<|gU Z<|sB (.ptr 48 0) 48 (.var (aC.rc a0))<|sB (.ptr 64 0) 64 (.var (ai.rc a1))<|sB (.ptr 80 0) 80 (.var (ai.rc a2))<|sU<|sN<|qS<|gU Z<|sV (.d (aC.pd a0))<|bE h fun x1 h1 h=>cD (gO h1)<|sF h ?_ ?_<;>intro h
 ·refine sN<|cT<|gU Z<|sU<|sN<|qR ?_
  cases oI h
  exact qG
 refine sN<|cF<|qK<|WC.iu Z Z<|sV (.ptr 64 9)<|sV (.d (au.pd a1.aa))<|sV (.ptr 80 9)<|sV (.d (au.pd a2.aa))<|sV (.ptr 48 1)<|sL Z<|sB (.ptr 112 0) 112 (.var zZ3)<|sB (.ptr 128 0) 128 (.var zZ3)<|sH 112 (.var (au.rc a1.aa))<|sH 128 (.var (au.rc a2.aa))<|sA Z ?_
 refine sN<|sO<|qS<|qB<|WC.iu Z Z<|sV (.d (aC.pd a0))<|sV (.d (ai.pd a1))<|bE h fun x3 h3 h=>cD (dM h3)<|sV (.d (aC.pd a0))<|sV (.d (ai.pd a2))<|bE h fun x4 h4 h=>cD (dM h4)<|sF h ?_ ?_<;>intro h
 ·refine sA Z ?_
  refine sN<|sO<|cT<|gU Z<|sT<|sN<|qR ?_
  cases oI h
  exact qG
 refine sA Z ?_
 refine sN<|sO<|cF<|gU Z<|sM Z<|sF h ?_ ?_<;>intro h
 ·refine sM Z<|sV (.ptr 112 1)<|sV (.ptr 112 1)<|sV (.d (ah.pd a1.aa.ac.aP))<|sV (.ptr 128 1)<|sV (.ptr 128 1)<|sV (.d (ah.pd a2.aa.ac.aP))<|bE h fun x7 h7 h=>cD (iF h7)<|mM Z<|sV (rI (rW (a0.aZ*a0.aZ)))<|sV (rB (decide (x7>(rW (a0.aZ*a0.aZ)))))<|sF h ?_ ?_<;>intro h
  ·refine sA Z<|sN<|cT<|gU Z<|sT<|sN<|qR ?_
   cases oI h
   exact qG
  refine sA Z<|sN<|cF<|gU Z<|sV (.ptr 112 1)<|sV (.ptr 112 4)<|sL Z<|sV (.ptr 128 1)<|sV (.ptr 128 4)<|sL Z<|bE h fun x9 h9 h=>cD (iD h9)<|sM Z<|sV (.d (.int .u64 (IntKind.wrap .u64 a0.aZ)))<|sF h ?_ ?_<;>intro h
  ·refine sA Z<|sN<|cT<|gU Z<|sT<|sN<|qR ?_
   cases oI h
   exact qG
  refine sA Z<|sN<|cF<|qK<|gU Z<|sV (.ptr 112 13)<|sV (.d (aw.pd a1.aa.av))<|sV (.ptr 128 13)<|sV (.d (aw.pd a2.aa.av))<|bE h fun x11 h11 h=>cD (f9 h11)<|sV (rB (!x11))<|sA Z<|sN<|qR ?_
  cases oI h
  exact qG
 refine sM Z<|k3<|k3<|k3<|sK<|sK<|sU<|sA Z<|sN ?_
 refine cF<|gU Z<|sV (.ptr 112 1)<|sV (.ptr 112 4)<|sL Z<|sV (.ptr 128 1)<|sV (.ptr 128 4)<|sL Z<|bE h fun x12 h12 h=>cD (iD h12)<|sM Z<|sV (.d (.int .u64 (IntKind.wrap .u64 a0.aZ)))<|sF h ?_ ?_<;>intro h
 ·refine sA Z<|sN<|cT<|gU Z<|sT<|sN<|qR ?_
  cases oI h
  exact qG
 refine sA Z<|sN<|cF<|qK<|gU Z<|sV (.ptr 112 13)<|sV (.d (aw.pd a1.aa.av))<|sV (.ptr 128 13)<|sV (.d (aw.pd a2.aa.av))<|bE h fun x14 h14 h=>cD (f9 h14)<|sV (rB (!x14))<|sA Z<|sN<|qR ?_
 cases oI h
 exact qG
theorem dG{a0:Int}{a1:am}{d0:Bool}{d1:Int}{d3:Int}{d4:(List ag)}{r:Bool×Int×(List ag)}(h:cv a0 a1 d0 d1 d3 d4=some r):EvP prog aU ext 27 [rI a0,.d (am.pd a1),.ptr 0 0,.ptr 1 0,.ptr 2 0,.ptr 3 0] [.var [rB d0],.var [rI d1],.var [.ref 4 0],.var [rI d3],.arr 0 59 (d4.map ag.pd)] (.tup [],[.var [rB r.1],.var [rI r.2.1],.var [.ref 4 1],.var [rI d3],.arr 1 59 (r.2.2.map ag.pd)]):=by
 refine Ev.body Z Tryz.func27 Z Zk<|gU Z<|sB (.ptr 112 0) 112 (.var (am.rc a1))<|sN<|gU Z<|sF h ?_ ?_<;>intro h
 ·refine sM Z<|sK<|sK<|sT<|sS 0 (.var [rB true])<|sN<|WC.iu Z Z<|sL Z<|sL Z<|sM Z<|sV (.ptr 112 0)<|sL Z<|sL Z<|sV (.ptr 112 11)<|sL Z ?_
  refine sV (.ptr 112 12)<|sV (.d (ai.pd a1.aj))<|bE h fun x2 h2 h=>cD (ci h2)<|sG (.d (.agg [.int .i64 d1,.int .i64 a0,.int .i64 a1.fID,.int .i64 d3,.int .i64 a1.aW,.str x2.aq.ar.aM,.str x2.aq.ar.aN,.str x2.aq.ar.ac,.str x2.aq.ar.aO,.int .i64 x2.aq.aL,.int .i64 x2.aq.aY,.int .i64 x2.aq.bh,.int .i64 x2.aq.aF,.int .i64 x2.aq.aH,.lst (x2.aa.aB.map ae.pd),.int .i64 x2.aa.ac.aP.fX,.int .i64 x2.aa.ac.aP.fY,.int .i64 x2.aa.ac.aP.fZ,.int .i64 x2.aa.ac.aL,.int .i64 x2.aa.ac.aQ,.int .i64 x2.aa.ac.bq,.int .i64 x2.aa.ac.aD.aX.fX,.int .i64 x2.aa.ac.aD.aX.fY,.int .i64 x2.aa.ac.aD.aX.fZ,.int .i64 x2.aa.ac.aD.aJ.fX,.int .i64 x2.aa.ac.aD.aJ.fY,.int .i64 x2.aa.ac.aD.aJ.fZ,.int .i64 x2.aa.av.aX,.int .i64 x2.aa.av.aJ,.int .i64 x2.aa.bd]))<|sG (.d (.lst ([(ag.mk d1 a0 a1.fID d3 a1.aW x2)].map ag.pd)))<|bE h fun x3 h3 h=>aR h3 (fun _=>Z) Z<|sS 2 (.var [.ref 4 1]) ?_
  refine sN<|sO<|WC.region Z Z<|sL Z<|sV (rI (rW (d1+(1:Int))))<|sS 1 (.var [rI (rW (d1+(1:Int)))])<|sN ?_
  cases oI h
  exact qG
 refine sM Z<|sL Z<|sV (rB (decide (d1>=(1000:Int))))<|sV (rB (decide (d1>=(1000:Int))))<|sS 0 (.var [rB (decide (d1>=(1000:Int)))])<|sN<|WC.iu Z Z<|sL Z<|sL Z<|sM Z<|sV (.ptr 112 0)<|sL Z<|sL Z<|sV (.ptr 112 11)<|sL Z ?_
 refine sV (.ptr 112 12)<|sV (.d (ai.pd a1.aj))<|bE h fun x4 h4 h=>cD (ci h4)<|sG (.d (.agg [.int .i64 d1,.int .i64 a0,.int .i64 a1.fID,.int .i64 d3,.int .i64 a1.aW,.str x4.aq.ar.aM,.str x4.aq.ar.aN,.str x4.aq.ar.ac,.str x4.aq.ar.aO,.int .i64 x4.aq.aL,.int .i64 x4.aq.aY,.int .i64 x4.aq.bh,.int .i64 x4.aq.aF,.int .i64 x4.aq.aH,.lst (x4.aa.aB.map ae.pd),.int .i64 x4.aa.ac.aP.fX,.int .i64 x4.aa.ac.aP.fY,.int .i64 x4.aa.ac.aP.fZ,.int .i64 x4.aa.ac.aL,.int .i64 x4.aa.ac.aQ,.int .i64 x4.aa.ac.bq,.int .i64 x4.aa.ac.aD.aX.fX,.int .i64 x4.aa.ac.aD.aX.fY,.int .i64 x4.aa.ac.aD.aX.fZ,.int .i64 x4.aa.ac.aD.aJ.fX,.int .i64 x4.aa.ac.aD.aJ.fY,.int .i64 x4.aa.ac.aD.aJ.fZ,.int .i64 x4.aa.av.aX,.int .i64 x4.aa.av.aJ,.int .i64 x4.aa.bd]))<|sG (.d (.lst ([(ag.mk d1 a0 a1.fID d3 a1.aW x4)].map ag.pd)))<|bE h fun x5 h5 h=>aR h5 (fun _=>Z) Z<|sS 2 (.var [.ref 4 1]) ?_
 refine sN<|sO<|WC.region Z Z<|sL Z<|sV (rI (rW (d1+(1:Int))))<|sS 1 (.var [rI (rW (d1+(1:Int)))])<|sN ?_
 cases oI h
 exact qG
theorem rule_Timely_ev{a0:aC}{a1:ai}{a2:Int}{r:Bool}(h:gu a0 a1 a2=some r):EvP prog aU ext 33 [.d (aC.pd a0),.d (ai.pd a1),rI a2] [] (rB r,[]):=by
 refine Ev.body Z Tryz.func33 Z Zk<|gU Z<|sB (.ptr 48 0) 48 (.var (aC.rc a0))<|sB (.ptr 64 0) 64 (.var (ai.rc a1))<|sU<|sN<|gU Z<|sV (.d (aC.pd a0))<|sV (.d (ai.pd a1))<|bE h fun x1 h1 h=>cD (dM h1)<|sA Z<|sN<|qS<|gU Z ?_
 refine sM Z<|sF h ?_ ?_<;>intro h
 ·refine sN<|cT<|gU Z<|sU<|sN<|qR ?_
  cases oI h
  exact qG
 refine sN<|cF<|qK<|gU Z<|sM Z<|sV (.ptr 64 9)<|sV (.ptr 64 10)<|sV (.ptr 64 13)<|sL Z<|sV (rI (rW (a2-a1.aa.ac.aL)))<|sA Z<|sN<|gU Z<|sM Z<|sF h ?_ ?_<;>intro h
 ·refine mM Z<|sV (.ptr 48 0)<|sL Z<|sM Z<|sV (rI (rW (x1-(1:Int))))<|bE h fun x4 h4 h=>eG h4 Z<|sV (.cptr [.int .i64 x4.bn])<|sC Z<|sV (rB (decide ((rW (a2-a1.aa.ac.aL))<=x4.bn)))<|sV (rB (decide ((rW (a2-a1.aa.ac.aL))<=x4.bn)))<|sA Z<|sN<|qR ?_
  cases oI h
  exact qG
 refine sM Z<|k3<|k3<|k3<|sU<|sA Z<|sN<|qR ?_
 cases oI h
 exact qG
theorem alert_Step_ev{a0:aC}{a1:(List am)}{a2:Int}{a3:(List ai)}{a4:Int}{r:(List am)×(List ag)×Int}(h:gR a0 a1 a2 a3 a4=some r):EvP prog aU ext 8 [.d (aC.pd a0),rM am.pd a1,rI a2,rM ai.pd a3,rI a4] [] (.tup [rM am.pd r.1,rM ag.pd r.2.1,rI r.2.2],[]):=by
 refine Ev.body Z Tryz.func8 Z Zk<|gU Z<|sB (.ptr 80 0) 80 (.var (aC.rc a0))<|sB (.ptr 112 0) 112 (.var [rI a2])<|sB (.ptr 144 0) 144 (.var [rI a4])<|sV .iZ<|sV .iZ<|sV (r0)<|sN<|qS<|gU Z<|sV (.d (aC.pd a0))<|sM Z<|sL Z<|sM Z ?_
 refine sL Z<|bE h fun x1 h1 h=>cD (alert_refused_ev h1)<|sA Z<|sN<|gU Z<|sM Z<|sF h ?_ ?_<;>intro h
 ·refine sN<|cT<|gU Z<|sM Z<|sV .iZ<|sV .iZ<|sA Z<|sN<|qR ?_
  exact oI h▸qD
 refine sN<|cF<|qK<|gU Z<|sB (.ptr 224 0) 224 (.var [.iZ])<|sN<|gU Z<|sB (.ptr 240 0) 240 (.var [rB false])<|sS 240 (.var [rB false])<|sN<|gU Z<|sV (.clo 27 [.ptr 240 0,.ptr 112 0,.ptr 224 0,.ptr 144 0])<|sA Z<|sN<|gU Z ?_
 refine sM Z<|bE h fun x3 h3 h=>cR (.ref 592 0) [(592,.arr 0 61 (x3.map am.pd))] (iI h3)<|sA Z<|sN<|gU Z<|sM Z<|sE (rI (a3.length:Int)) (hF _ _)<|bE h fun x4 h4 h=>WO.mkS (g:=PD.bool) h4 Z Z Z Z Z Z Z Z Z Z Z<|sA Z<|sN<|qS<|gU Z<|sM Z ?_
 refine sM Z<|bE h fun x5 h5 h=>cD (alert_Follow_ev h5)<|sE (rI (x5.length:Int)) (hF _ _)<|sV (r0)<|sN<|bE h fun o61 ho61 h=>WC.block (WC.loop (WL.jg ho61 (fun s=>gI 0 8 10 [(3,rM ai.pd a3),(5,.ptr 80 0),(7,.ptr 112 0),(9,.ptr 144 0),(14,.ptr 224 0),(15,.ptr 240 0),(16,.clo 27 [.ptr 240 0,.ptr 112 0,.ptr 224 0,.ptr 144 0]),(17,.ref 592 0),(18,.ref 640 0),(43,rL x5),(44,rI (x5.length:Int)),(45,rI s.1)] [(80,.var (aC.rc a0)),(112,.var [rI s.2.1]),(144,.var [rI a4]),(224,.var [.ref 90400 0]),(240,.var [rB s.2.2.1]),(592,.arr 0 61 (s.2.2.2.1.map am.pd)),(640,.arr 0 4 (s.2.2.2.2.1.map PD.bool)),(90400,.arr 0 59 (s.2.2.2.2.2.map ag.pd))]) (fun o=>gX 0 0 8 26 [(3,rM ai.pd a3),(5,.ptr 80 0),(7,.ptr 112 0),(9,.ptr 144 0),(14,.ptr 224 0),(15,.ptr 240 0),(16,.clo 27 [.ptr 240 0,.ptr 112 0,.ptr 224 0,.ptr 144 0]),(17,.ref 592 0),(18,.ref 640 0)] [(80,.var (aC.rc a0)),(112,.var [rI o.1]),(144,.var [rI a4]),(224,.var [.ref 90400 0]),(240,.var [rB o.2.1]),(592,.arr 0 61 (o.2.2.1.map am.pd)),(640,.arr 0 4 (o.2.2.2.1.map PD.bool)),(90400,.arr 0 59 (o.2.2.2.2.map ag.pd))]) Z ?_ ?_))
 ·rintro⟨s6,s7,s8,s9,s10,s11⟩ R' B' q17 hI h
  refine gS Z hI<|sF h ?_ ?_<;>intro h
  ·refine sN<|qS<|cT<|qK<|qS<|qB<|gU Z<|sM Z<|bE h fun x19 h19 h=>eG h19 Z<|sC Z<|sA Z<|sA Z<|sN<|gU Z ?_
   refine mM Z<|bE h fun x21 h21 h=>WO.mU h21 Z Z Z Z Z Z Z Z<|sA Z<|sN<|qS<|gU Z<|sM Z<|sV (.elt 592 0 (s6).toNat 0)<|sV (.elt 592 0 (s6).toNat 1)<|bE h fun x22 h22 h=>WO.mY h22 Z Z Z Z Z Z<|sN<|jJ h (fun hb23 h=>?_) (fun hb23 h=>?_)
   ·refine WC.condT' hb23 Z<|qX<|qE<|WC.region Z Z<|sV (rI (rW (s6+(1:Int))))<|sM Z<|sN ?_
    cases oI h
    exact⟨rfl,rfl⟩
   refine WC.condF' hb23 Z<|qK<|gU Z<|sV (r0)<|sN<|WC.join (α:=Int×(List am)×(List Bool)) (fun x R' B'=>jY prog 0 (A R' B') (aU.at_ 8 0 19)=some (A [(3,rM ai.pd a3),(5,.ptr 80 0),(7,.ptr 112 0),(9,.ptr 144 0),(14,.ptr 224 0),(15,.ptr 240 0),(16,.clo 27 [.ptr 240 0,.ptr 112 0,.ptr 224 0,.ptr 144 0]),(17,.ref 592 0),(18,.ref 640 0),(20,rI x19),(21,.elt 592 0 (s6).toNat 0),(22,rI x.1),(43,rL x5),(44,rI (x5.length:Int)),(45,rI s6)] [(80,.var (aC.rc a0)),(112,.var [rI s7]),(144,.var [rI a4]),(224,.var [.ref 90400 0]),(240,.var [rB s8]),(592,.arr 0 61 (x.2.1.map am.pd)),(640,.arr 0 4 (x.2.2.map PD.bool)),(90400,.arr 0 59 (s11.map ag.pd))])) (fun x=>cL s6 a4 s8 s7 s11 a0 a3 x19 x.1 x.2.1 x.2.2=some q17) ?_ ?_
   ·refine gU Z<|sM Z<|sF h ?_ ?_<;>intro h
    ·refine sN<|cT<|gU Z<|mM Z<|bE h fun x53 h53 h=>WO.mU h53 Z Z Z Z Z Z Z Z<|bE h fun x54 h54 h=>WO.ng (g:=PD.bool) (sz:=1) (p:= .bool true) h54 (fun _=>Z) (fun _=>Z) Z Z Z Z Z Z Z Z Z<|sN<|gU Z<|mM Z<|sM Z<|bE h fun x55 h55 h=>?_
     refine eG h55 Z<|sV (.cptr [.str x55.aq.ar.aM,.str x55.aq.ar.aN,.str x55.aq.ar.ac,.str x55.aq.ar.aO,.int .i64 x55.aq.aL,.int .i64 x55.aq.aY,.int .i64 x55.aq.bh,.int .i64 x55.aq.aF,.int .i64 x55.aq.aH,.lst (x55.aa.aB.map ae.pd),.int .i64 x55.aa.ac.aP.fX,.int .i64 x55.aa.ac.aP.fY,.int .i64 x55.aa.ac.aP.fZ,.int .i64 x55.aa.ac.aL,.int .i64 x55.aa.ac.aQ,.int .i64 x55.aa.ac.bq,.int .i64 x55.aa.ac.aD.aX.fX,.int .i64 x55.aa.ac.aD.aX.fY,.int .i64 x55.aa.ac.aD.aX.fZ,.int .i64 x55.aa.ac.aD.aJ.fX,.int .i64 x55.aa.ac.aD.aJ.fY,.int .i64 x55.aa.ac.aD.aJ.fZ,.int .i64 x55.aa.av.aX,.int .i64 x55.aa.av.aJ,.int .i64 x55.aa.bd])<|sV (.d (ae.pd x55.aq))<|sV (.elt 592 0 (s6).toNat 0)<|sV (.elt 592 0 (s6).toNat 2)<|bE h fun x56 h56 h=>WO.lE (g:=am.pd) (u:=[]) (sz:=9) h56 (by intro _;kernel_rfl) (fun _=>Nat.le_of_ble_eq_true Z) Z Z Z Z Z Z Z Z Z Z Z<|sN<|WC.kK Z Z<|sV (.d (aC.pd a0))<|mM Z<|bE h fun x58 h58 h=>eG h58 Z<|sV (.d (ai.pd x58)) ?_
     refine bE h fun x59 h59 h=>cD (dM h59)<|sA Z ?_
     exact sN<|sO<|⟨(x59,x56,x54),rfl,h⟩
    exact sN<|cF<|qK<|⟨(0,s9,s10),rfl,h⟩
   rintro⟨j24,j25,j26⟩ R' B' hI h
   refine qB<|gS Z hI<|sM Z<|sF h ?_ ?_<;>intro h
   ·refine sA Z<|sN<|cT<|WC.iu Z Z<|mM Z<|sL Z<|sV (.elt 592 0 (s6).toNat 0)<|sV (.elt 592 0 (s6).toNat 1)<|bE h fun x28 h28 h=>WO.lE (g:=am.pd) (u:=[]) (sz:=1) h28 (by intro _;kernel_rfl) (fun _=>Nat.le_of_ble_eq_true Z) Z Z Z Z Z Z Z Z Z Z Z<|sV (.elt 592 0 (s6).toNat 0)<|sV (.elt 592 0 (s6).toNat 37)<|bE h fun x30 h30 h=>WO.lE (g:=am.pd) (u:=[]) (sz:=1) h30 (by intro _;kernel_rfl) (fun _=>Nat.le_of_ble_eq_true Z) Z Z Z Z Z Z Z Z Z Z Z ?_
    refine sN<|sO<|WC.region Z Z<|mM Z<|sV (.elt 592 0 (s6).toNat 0)<|bE h fun x32 h32 h=>WO.mY h32 Z Z Z Z Z Z<|bE h fun x33 h33 h=>cR (.tup []) [(240,.var [rB x33.1]),(112,.var [rI x33.2.1]),(224,.var [.ref 90400 1]),(144,.var [rI a4]),(90400,.arr 1 59 (x33.2.2.map ag.pd))] (dG h33)<|sN<|WC.region Z Z<|sV (rI (rW (s6+(1:Int))))<|sM Z<|sN ?_
    cases oI h
    exact⟨rfl,rfl⟩
   refine sA Z<|sN<|cF<|WC.iu Z Z<|sL Z<|sM Z<|sV (.elt 592 0 (s6).toNat 0)<|sV (.elt 592 0 (s6).toNat 37)<|bE h fun x34 h34 h=>WO.mY h34 Z Z Z Z Z Z<|sV (rI (rW (a4-x34.fAt)))<|sV (.ptr 80 2)<|sL Z<|sF h ?_ ?_<;>intro h
   ·refine sM Z<|sV (.d (aC.pd a0))<|sM Z<|sV (.elt 592 0 (s6).toNat 0)<|sV (.elt 592 0 (s6).toNat 12)<|bE h fun x36 h36 h=>WO.mY h36 Z Z Z Z Z Z<|mM Z<|bE h fun x37 h37 h=>eG h37 Z<|sV (.d (ai.pd x37))<|bE h fun x38 h38 h=>cD (rule_Moved_ev h38)<|sF h ?_ ?_<;>intro h
    ·refine sA Z ?_
     refine sN<|sO<|cT<|WC.iu Z Z<|mM Z<|mM Z<|mM Z<|bE h fun x40 h40 h=>eG h40 Z<|sV (.d (ai.pd x40))<|bE h fun x41 h41 h=>cD (ci h41)<|sL Z ?_
     refine sV (.elt 592 0 (s6).toNat 0)<|sV (.elt 592 0 (s6).toNat 11)<|bE h fun x42 h42 h=>WO.lE (g:=am.pd) (u:=[]) (sz:=1) h42 (by intro _;kernel_rfl) (fun _=>Nat.le_of_ble_eq_true Z) Z Z Z Z Z Z Z Z Z Z Z<|sV (.elt 592 0 (s6).toNat 0)<|sV (.elt 592 0 (s6).toNat 12)<|bE h fun x44 h44 h=>WO.lE (g:=am.pd) (u:=[]) (sz:=25) h44 (by intro _;kernel_rfl) (fun _=>Nat.le_of_ble_eq_true Z) Z Z Z Z Z Z Z Z Z Z Z<|sV (.elt 592 0 (s6).toNat 0)<|sV (.elt 592 0 (s6).toNat 37)<|bE h fun x46 h46 h=>WO.lE (g:=am.pd) (u:=[]) (sz:=1) h46 (by intro _;kernel_rfl) (fun _=>Nat.le_of_ble_eq_true Z) Z Z Z Z Z Z Z Z Z Z Z ?_
     refine sN<|sO<|WC.region Z Z<|mM Z<|sV (.elt 592 0 (s6).toNat 0)<|bE h fun x48 h48 h=>WO.mY h48 Z Z Z Z Z Z<|bE h fun x49 h49 h=>cR (.tup []) [(240,.var [rB x49.1]),(112,.var [rI x49.2.1]),(224,.var [.ref 90400 1]),(144,.var [rI a4]),(90400,.arr 1 59 (x49.2.2.map ag.pd))] (dG h49)<|sN<|WC.region Z Z<|sV (rI (rW (s6+(1:Int))))<|sM Z<|sN ?_
     cases oI h
     exact⟨rfl,rfl⟩
    refine sA Z ?_
    refine sN<|sO<|cF<|qK<|WC.region Z Z<|sV (rI (rW (s6+(1:Int))))<|sM Z<|sN ?_
    cases oI h
    exact⟨rfl,rfl⟩
   refine sM Z<|k3<|k3<|k3<|sK<|sU<|sA Z ?_
   refine sN<|sO<|cF<|qK<|WC.region Z Z<|sV (rI (rW (s6+(1:Int))))<|sM Z<|sN ?_
   cases oI h
   exact⟨rfl,rfl⟩
  refine sN<|qS<|cF<|qX ?_
  cases oI h
  exact⟨nofun,rfl,rfl⟩
 intro e R' B' he hq
 obtain⟨rfl,hI⟩:=hq
 refine qE<|qS<|gS Z hI<|sM Z<|sE (rI (a3.length:Int)) (hF _ _)<|sV (r0)<|sN<|bE h fun o84 ho84 h=>WC.block (WC.loop (WL.jg ho84 (fun s=>gI 0 8 27 [(5,.ptr 80 0),(7,.ptr 112 0),(9,.ptr 144 0),(14,.ptr 224 0),(15,.ptr 240 0),(16,.clo 27 [.ptr 240 0,.ptr 112 0,.ptr 224 0,.ptr 144 0]),(17,.ref 592 0),(18,.ref 640 0),(135,rM ai.pd a3),(136,rI (a3.length:Int)),(137,rI s.1)] [(80,.var (aC.rc a0)),(112,.var [rI s.2.1]),(144,.var [rI a4]),(224,.var [.ref 90400 0]),(240,.var [rB s.2.2.1]),(592,.arr 0 61 (s.2.2.2.1.map am.pd)),(640,.arr 0 4 (o61.2.2.2.1.map PD.bool)),(90400,.arr 0 59 (s.2.2.2.2.map ag.pd))]) (fun o=>gX 3 0 8 34 [(14,.ptr 224 0),(15,.ptr 240 0),(17,.ref 592 0)] [(224,.var [.ref 90400 0]),(240,.var [rB o.1]),(592,.arr 0 61 (o.2.1.map am.pd)),(90400,.arr 0 59 (o.2.2.map ag.pd))]) Z ?_ ?_))
 ·rintro⟨s62,s63,s64,s65,s66⟩ R' B' q70 hI h
  refine gS Z hI<|sF h ?_ ?_<;>intro h
  ·refine sN<|qS<|cT<|qK<|qS<|qB<|gU Z<|sM Z<|bE h fun x72 h72 h=>eG h72 Z<|sV (.d (ai.pd x72))<|sB (.ptr 384 0) 384 (.var zZ2)<|sA Z<|sH 384 (.var (ai.rc x72))<|sN ?_
   refine gU Z<|mM Z<|bE h fun x74 h74 h=>WO.mU h74 Z Z Z Z Z Z Z Z<|bE h fun x75 h75 h=>WO.mY h75 Z Z Z Z Z Z<|sF h ?_ ?_<;>intro h
   ·refine sM Z<|sV (.d (aC.pd a0))<|sV (.d (ai.pd x72))<|sL Z<|bE h fun x77 h77 h=>cD (rule_Timely_ev h77)<|sF h ?_ ?_<;>intro h
    ·refine sN<|cT<|WC.iu Z Z<|sL Z<|sV (.ptr 384 0)<|sV (.d (ae.pd x72.aq))<|sV (.d (aC.pd a0))<|sV (.d (ai.pd x72))<|bE h fun x79 h79 h=>cD (dM h79)<|sV (.d (ai.pd x72))<|bE h fun x80 h80 h=>cD (ci h80)<|sL Z<|sG (.d (.agg [.int .i64 s63,.bool false,.str x72.aq.ar.aM,.str x72.aq.ar.aN,.str x72.aq.ar.ac,.str x72.aq.ar.aO,.int .i64 x72.aq.aL,.int .i64 x72.aq.aY,.int .i64 x72.aq.bh,.int .i64 x72.aq.aF,.int .i64 x72.aq.aH,.int .i64 x79,.str x80.aq.ar.aM,.str x80.aq.ar.aN,.str x80.aq.ar.ac,.str x80.aq.ar.aO,.int .i64 x80.aq.aL,.int .i64 x80.aq.aY,.int .i64 x80.aq.bh,.int .i64 x80.aq.aF,.int .i64 x80.aq.aH,.lst (x80.aa.aB.map ae.pd),.int .i64 x80.aa.ac.aP.fX,.int .i64 x80.aa.ac.aP.fY,.int .i64 x80.aa.ac.aP.fZ,.int .i64 x80.aa.ac.aL,.int .i64 x80.aa.ac.aQ,.int .i64 x80.aa.ac.bq,.int .i64 x80.aa.ac.aD.aX.fX,.int .i64 x80.aa.ac.aD.aX.fY,.int .i64 x80.aa.ac.aD.aX.fZ,.int .i64 x80.aa.ac.aD.aJ.fX,.int .i64 x80.aa.ac.aD.aJ.fY,.int .i64 x80.aa.ac.aD.aJ.fZ,.int .i64 x80.aa.av.aX,.int .i64 x80.aa.av.aJ,.int .i64 x80.aa.bd,.int .i64 a4])) ?_
     refine sB (.ptr 400 0) 400 (.var zZ0)<|sH 400 (.var (rI s63::rB false::ae.rc x72.aq++rI x79::ai.rc x80++[rI a4])) ?_
     refine sN<|sO<|gU Z<|sM Z<|sV (.d (.agg [.int .i64 s63,.bool false,.str x72.aq.ar.aM,.str x72.aq.ar.aN,.str x72.aq.ar.ac,.str x72.aq.ar.aO,.int .i64 x72.aq.aL,.int .i64 x72.aq.aY,.int .i64 x72.aq.bh,.int .i64 x72.aq.aF,.int .i64 x72.aq.aH,.int .i64 x79,.str x80.aq.ar.aM,.str x80.aq.ar.aN,.str x80.aq.ar.ac,.str x80.aq.ar.aO,.int .i64 x80.aq.aL,.int .i64 x80.aq.aY,.int .i64 x80.aq.bh,.int .i64 x80.aq.aF,.int .i64 x80.aq.aH,.lst (x80.aa.aB.map ae.pd),.int .i64 x80.aa.ac.aP.fX,.int .i64 x80.aa.ac.aP.fY,.int .i64 x80.aa.ac.aP.fZ,.int .i64 x80.aa.ac.aL,.int .i64 x80.aa.ac.aQ,.int .i64 x80.aa.ac.bq,.int .i64 x80.aa.ac.aD.aX.fX,.int .i64 x80.aa.ac.aD.aX.fY,.int .i64 x80.aa.ac.aD.aX.fZ,.int .i64 x80.aa.ac.aD.aJ.fX,.int .i64 x80.aa.ac.aD.aJ.fY,.int .i64 x80.aa.ac.aD.aJ.fZ,.int .i64 x80.aa.av.aX,.int .i64 x80.aa.av.aJ,.int .i64 x80.aa.bd,.int .i64 a4]))<|sG (.d (.lst ([(am.mk s63 false x72.aq x79 x80 a4)].map am.pd)))<|bE h fun x81 h81 h=>aR h81 (fun _=>Z) Z<|sA Z<|sN<|WC.region Z Z<|sM Z<|sV (.d (.agg [.int .i64 s63,.bool false,.str x72.aq.ar.aM,.str x72.aq.ar.aN,.str x72.aq.ar.ac,.str x72.aq.ar.aO,.int .i64 x72.aq.aL,.int .i64 x72.aq.aY,.int .i64 x72.aq.bh,.int .i64 x72.aq.aF,.int .i64 x72.aq.aH,.int .i64 x79,.str x80.aq.ar.aM,.str x80.aq.ar.aN,.str x80.aq.ar.ac,.str x80.aq.ar.aO,.int .i64 x80.aq.aL,.int .i64 x80.aq.aY,.int .i64 x80.aq.bh,.int .i64 x80.aq.aF,.int .i64 x80.aq.aH,.lst (x80.aa.aB.map ae.pd),.int .i64 x80.aa.ac.aP.fX,.int .i64 x80.aa.ac.aP.fY,.int .i64 x80.aa.ac.aP.fZ,.int .i64 x80.aa.ac.aL,.int .i64 x80.aa.ac.aQ,.int .i64 x80.aa.ac.bq,.int .i64 x80.aa.ac.aD.aX.fX,.int .i64 x80.aa.ac.aD.aX.fY,.int .i64 x80.aa.ac.aD.aX.fZ,.int .i64 x80.aa.ac.aD.aJ.fX,.int .i64 x80.aa.ac.aD.aJ.fY,.int .i64 x80.aa.ac.aD.aJ.fZ,.int .i64 x80.aa.av.aX,.int .i64 x80.aa.av.aJ,.int .i64 x80.aa.bd,.int .i64 a4]))<|bE h fun x82 h82 h=>cR (.tup []) [(240,.var [rB x82.1]),(112,.var [rI x82.2.1]),(224,.var [.ref 90400 1]),(144,.var [rI a4]),(90400,.arr 1 59 (x82.2.2.map ag.pd))] (dG h82)<|sN ?_
     refine WC.region Z Z<|sV (rI (rW (s62+(1:Int))))<|sM Z<|sN ?_
     cases oI h
     exact⟨rfl,rfl⟩
    refine sN<|cF<|qK<|WC.region Z Z<|sV (rI (rW (s62+(1:Int))))<|sM Z<|sN ?_
    cases oI h
    exact⟨rfl,rfl⟩
   refine sM Z<|k3<|sK<|sU<|sN<|cF<|qK<|WC.region Z Z<|sV (rI (rW (s62+(1:Int))))<|sM Z<|sN ?_
   cases oI h
   exact⟨rfl,rfl⟩
  refine sN<|qS<|cF<|qX ?_
  cases oI h
  exact⟨nofun,rfl,rfl⟩
 intro e R' B' he hq
 obtain⟨rfl,hI⟩:=hq
 refine qE<|qS<|gS Z hI<|sM Z<|WO.lenR Z Z Z Z Z Z Z Z Z<|sF h ?_ ?_<;>intro h
 ·refine sM Z<|sK<|sT<|sN<|cT<|gU Z<|sV .iZ<|sV .iZ<|sV (rI 8)<|sN<|qR ?_
  exact oI h▸qD
 refine sM Z<|sL Z<|sF h ?_ ?_<;>intro h
 ·refine sN<|cT<|gU Z<|sV .iZ<|sV .iZ<|sV (rI 8)<|sN<|qR ?_
  exact oI h▸qD
 refine sN<|cF<|qK<|WC.iu Z Z<|sM Z<|sL Z<|sA Z<|sA Z<|sV (r0) ?_
 refine sN<|sO<|qR ?_
 exact oI h▸qD
theorem source_plain_ev{a0:Int}{r:Bool}(h:fP a0=some r):EvP prog aU ext 242 [.d (.int .u8 a0)] [] (rB r,[]):=by
 refine Ev.body Z Tryz.func242 Z Zk<|gU Z<|sU<|sN<|gU Z<|sM Z<|sF h ?_ ?_<;>intro h
 ·refine mM Z<|sV (rB (decide (a0<=(90:Int))))<|sF h ?_ ?_<;>intro h
  ·refine sM Z<|k3<|k3<|sT<|sA Z<|sN<|qR ?_
   exact oI h▸qD
  refine mM Z<|sF h ?_ ?_<;>intro h
  ·refine mM Z<|sV (rB (decide (a0<=(57:Int))))<|sV (rB (decide (a0<=(57:Int))))<|sV (rB (decide (a0<=(57:Int))))<|sA Z<|sN<|qR ?_
   exact oI h▸qD
  refine sM Z<|sK<|sK<|sU<|sU<|sA Z<|sN<|qR ?_
  exact oI h▸qD
 refine sM Z<|sK<|sK<|sU<|mM Z<|sF h ?_ ?_<;>intro h
 ·refine mM Z<|sV (rB (decide (a0<=(57:Int))))<|sV (rB (decide (a0<=(57:Int))))<|sV (rB (decide (a0<=(57:Int))))<|sA Z<|sN<|qR ?_
  exact oI h▸qD
 refine sM Z<|sK<|sK<|sU<|sU<|sA Z<|sN<|qR ?_
 exact oI h▸qD
theorem dz{a0:(List UInt8)}{a1:Int}{a2:Int}{r:Bool}(h:cE a0 a1 a2=some r):EvP prog aU ext 205 [rS a0,rI a1,rI a2] [] (rB r,[]):=by
 refine Ev.body Z Tryz.func205 Z Zk<|gU Z<|sU<|sN<|qS<|gU Z<|sM Z<|sV (rI (a0.length:Int))<|sV (r0)<|sN<|bE h fun o8 ho8 h=>WC.block (WC.loop (WL.jg ho8 (fun s=>gI 0 205 2 [(0,rS a0),(1,rI a1),(2,rI a2),(9,rI (a0.length:Int)),(10,rI s)] []) (fun o=>match o with| .inl y=>gX 0 0 205 7 [(0,rS a0),(1,rI a1),(2,rI a2)] []| .inr r=>gF 205 Tryz.f205 0 (rB r,[])) Z ?_ ?_))
 ·rintro s1 R' B' q2 hI h
  refine gS Z hI<|sF h ?_ ?_<;>intro h
  ·refine sN<|qS<|cT<|qK<|qS<|qB<|gU Z<|sM Z<|sA Z<|sN<|gU Z<|mM Z<|bE h fun x4 h4 h=>WO.byteG h4 Z Z Z Z Z Z ?_
   refine bE h fun x5 h5 h=>cD (source_plain_ev h5)<|sF h ?_ ?_<;>intro h
   ·refine sN<|cT<|gU Z<|sU<|sN<|qR ?_
    cases oI h
    exact⟨nofun,rfl,rfl⟩
   refine sN<|cF<|qK<|WC.region Z Z<|sV (rI (rW (s1+(1:Int))))<|sM Z<|sN ?_
   cases oI h
   exact⟨rfl,rfl⟩
  refine sN<|qS<|cF<|qX ?_
  cases oI h
  exact⟨nofun,rfl,rfl⟩
 intro e R' B' he hq
 rcases o8 with y9|r10
 ·obtain⟨rfl,hI⟩:=hq
  refine qE<|gS Z hI<|sM Z<|sV (rI (a0.length:Int))<|sM Z<|sF h ?_ ?_<;>intro h
  ·refine mM Z<|sV (rI (a0.length:Int))<|sM Z<|sV (rB (decide ((a0.length:Int)<=a2)))<|sV (rB (decide ((a0.length:Int)<=a2)))<|sA Z<|sN<|qR ?_
   exact oI h▸qD
  refine sM Z<|k3<|sK<|sU<|sA Z<|sN<|qR ?_
  exact oI h▸qD
 obtain⟨rfl,hf⟩:=hq
 cases oI h
 exact hf
theorem dO{a0:ap}{r:Bool}(h:ct a0=some r):EvP prog aU ext 148 [.d (ap.pd a0)] [] (rB r,[]):=by
 refine Ev.body Z Tryz.func148 Z Zk<|gU Z<|sB (.ptr 16 0) 16 (.var (ap.rc a0))<|sU<|sN<|gU Z<|sV (.ptr 16 0)<|sL Z<|bE h fun x1 h1 h=>jJ h (fun hb2 h=>?_) (fun hb2 h=>?_)
 ·refine WO.j3 (v:=rB true) (u:=[]) Z Z (fun _=>Z) Z Z Z Z Z (dz h1) Z Z (congrArg (fun b=>RV.d (.bool b)) hb2) Z<|sM Z<|sV (.ptr 16 1)<|sL Z<|bE h fun x3 h3 h=>cD (dz h3)<|sF h ?_ ?_<;>intro h
  ·refine sM Z<|sV (.ptr 16 2)<|sL Z<|bE h fun x5 h5 h=>cD (dz h5)<|sF h ?_ ?_<;>intro h
   ·refine sM Z<|sV (.ptr 16 2)<|sL Z<|sV (rI (a0.ac.length:Int))<|sV (rB ((a0.ac.length:Int) != (1:Int)))<|sF h ?_ ?_<;>intro h
    ·refine sM Z<|sV (.ptr 16 3)<|sL Z<|bE h fun x8 h8 h=>cD (dz h8)<|sV (rB x8)<|sA Z<|sN<|qR ?_
     exact oI h▸qD
    refine sM Z<|k3<|sU<|sA Z<|sN<|qR ?_
    exact oI h▸qD
   refine sM Z<|k3<|sK<|sU<|sM Z<|k3<|sU<|sA Z<|sN<|qR ?_
   exact oI h▸qD
  refine sM Z<|k3<|sU<|sM Z<|k3<|sK<|sU<|sM Z<|sK<|sK<|sK ?_
  refine sU<|sA Z<|sN<|qR ?_
  exact oI h▸qD
 refine WO.j3 (v:=rB false) (u:=[]) Z Z (fun _=>Z) Z Z Z Z Z (dz h1) Z Z (congrArg (fun b=>RV.d (.bool b)) hb2) Z<|sM Z<|k3<|sU<|sM Z<|k3<|sU<|sM Z<|sK<|sK<|sK ?_
 refine sK<|sU<|sM Z<|k3<|sU<|sA Z<|sN<|qR ?_
 exact oI h▸qD
theorem iO{a0:Int}{a1:Int}{a2:Int}{r:Bool}(h:fQ a0 a1 a2=some r):EvP prog aU ext 149 [rI a0,rI a1,rI a2] [] (rB r,[]):=by
 refine Ev.body Z Tryz.func149 Z Zk<|gU Z<|sU<|sN<|gU Z<|mM Z<|sF h ?_ ?_<;>intro h
 ·refine mM Z<|sM Z<|sV (rB (decide (a0<=a2)))<|sV (rB (decide (a0<=a2)))<|sA Z<|sN<|qR ?_
  exact oI h▸qD
 refine sM Z<|k3<|sU<|sA Z<|sN<|qR ?_
 exact oI h▸qD
end Go.Dw.Fa
