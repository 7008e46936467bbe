
import Derived.Test.YthkfkgoddhehcaaGreatEfFn
import Derived.Test.YthkfkgoddhehcaaGreatEfBenD
import Derived.Test.YthkfkgoddhehcaaGreatDwShort
import Derived.Test.YthkfkgoddhehcaaGreatDwNest
import Derived.Test.YthkfkgoddhehcaaGreatDwAuto
import Derived.Test.YthkfkgoddhehcaaGreatProg
import Derived.Test.YthkfkgoddhehcaaGreatDwClone
import Derived.Test.YthkfkgoddhehcaaGreatDwSortI
import Derived.Test.YthkfkgoddhehcaaGreatDwConst
import Derived.Test.YthkfkgoddhehcaaGreatDwSort
set_option linter.unusedVariables false
set_option linter.unusedSimpArgs false
open Go.Dw.WC renaming region->Gb

set_option maxRecDepth 100000
set_option maxHeartbeats 4000000
namespace Go.Dw.Ef
open Go.Proofs Go.Proofs.Tryz Go.Dw
@[reducible] def rW(n:Int):Int:=IntKind.wrap .i64 n
@[reducible] def rI(n:Int):RV:= .d (.int .i64 n)
@[reducible] def r0:RV:= .d (.int .i64 0)
@[reducible] def rS(s:List UInt8):RV:= .d (.str s)
@[reducible] def rB(b:Bool):RV:= .d (.bool b)
@[reducible] def rM{α:Type}(g:α->PD)(l:List α):RV:= .d (.lst (l.map g))
@[reducible] def rL(l:List Int):RV:= .d (.lst (l.map (PD.int .i64)))
@[reducible] def zZ0:List RV:=[.d (.int .i64 0),.d (.int .i64 0),.d (.int .i64 0),.d (.int .i64 0),.d (.int .i64 0),.d (.int .i64 0),.d (.int .i64 0),.d (.int .i64 0),.d (.int .i64 0),.d (.int .i64 0),.d (.int .i64 0),.d (.int .i64 0)]
@[reducible] def ai.rc(x:ai):List RV:=[.d (.int .i64 x.ae.bt.bo.fX),.d (.int .i64 x.ae.bt.bo.fY),.d (.int .i64 x.ae.bt.bo.fZ),.d (.int .i64 x.ae.bt.ba.fX),.d (.int .i64 x.ae.bt.ba.fY),.d (.int .i64 x.ae.bt.ba.fZ),.d (.int .i64 x.ae.bP.b9),.d (.lst (x.ae.bP.bo.map (PD.int .i64))),.d (.lst (x.ae.bP.ba.map (PD.int .i64))),.d (.int .i64 x.ae.eV),.d (.int .i64 x.ae.bD),.d (.int .i64 x.ae.df),.d (.int .i64 x.ae.dH),.d (.int .i64 x.ae.de),.d (.int .i64 x.bX.bN.b9),.d (.lst (x.bX.bN.bo.map (PD.int .i64))),.d (.lst (x.bX.bN.ba.map (PD.int .i64))),.d (.int .i64 x.bX.bR),.d (.int .i64 x.bX.bO),.d (.int .i64 x.bD)]
@[reducible] def ac.rc(x:ac):List RV:=[.d (.str x.az.bI),.d (.str x.az.bB),.d (.str x.az.bg),.d (.str x.az.bL),.d (.int .i64 x.bS),.d (.int .i64 x.bA),.d (.int .i64 x.bY),.d (.int .i64 x.bG),.d (.int .i64 x.bM)]
@[reducible] def bw.rc(x:bw):List RV:=[.d (.int .i64 x.cU),.d (.int .i64 x.bR.a0),.d (.int .i64 x.bR.a1),.d (.int .i64 x.bR.a2),.d (.int .i64 x.bO.a0),.d (.int .i64 x.bO.a1),.d (.int .i64 x.bO.a2),.d (.lst (x.cx.map (PD.int .i64))),.d (.int .i64 x.b8),.d (.int .i64 x.cM)]
@[reducible] def cj.rc(x:cj):List RV:=[.d (.int .i64 x.fp.bt.bo.fX),.d (.int .i64 x.fp.bt.bo.fY),.d (.int .i64 x.fp.bt.bo.fZ),.d (.int .i64 x.fp.bt.ba.fX),.d (.int .i64 x.fp.bt.ba.fY),.d (.int .i64 x.fp.bt.ba.fZ),.d (.int .i64 x.fp.bP.b9),.d (.lst (x.fp.bP.bo.map (PD.int .i64))),.d (.lst (x.fp.bP.ba.map (PD.int .i64))),.d (.lst (x.fp.cB.map al.pd)),.d (.int .i64 x.fp.eV),.d (.lst (x.oD.map aq.pd)),.d (.int .i64 x.mL),.d (.int .i64 x.ftaken),.d (.bool x.ffound),.d (.int .i64 x.cy.bU.fX),.d (.int .i64 x.cy.bU.fY),.d (.int .i64 x.cy.bU.fZ),.d (.int .i64 x.cy.bS),.d (.int .i64 x.cy.cA),.d (.int .i64 x.cy.ml),.d (.int .i64 x.cy.ca.bo.fX),.d (.int .i64 x.cy.ca.bo.fY),.d (.int .i64 x.cy.ca.bo.fZ),.d (.int .i64 x.cy.ca.ba.fX),.d (.int .i64 x.cy.ca.ba.fY),.d (.int .i64 x.cy.ca.ba.fZ)]
@[reducible] def aw.rc(x:aw):List RV:=[.d (.int .i64 x.bt.bo.fX),.d (.int .i64 x.bt.bo.fY),.d (.int .i64 x.bt.bo.fZ),.d (.int .i64 x.bt.ba.fX),.d (.int .i64 x.bt.ba.fY),.d (.int .i64 x.bt.ba.fZ),.d (.int .i64 x.bP.b9),.d (.lst (x.bP.bo.map (PD.int .i64))),.d (.lst (x.bP.ba.map (PD.int .i64))),.d (.int .i64 x.eV),.d (.int .i64 x.bD),.d (.int .i64 x.df),.d (.int .i64 x.dH),.d (.int .i64 x.de)]
@[reducible] def ap.rc(x:ap):List RV:=[.d (.int .i64 x.bU.fX),.d (.int .i64 x.bU.fY),.d (.int .i64 x.bU.fZ),.d (.int .i64 x.bS),.d (.int .i64 x.cA),.d (.int .i64 x.ml),.d (.int .i64 x.ca.bo.fX),.d (.int .i64 x.ca.bo.fY),.d (.int .i64 x.ca.bo.fZ),.d (.int .i64 x.ca.ba.fX),.d (.int .i64 x.ca.ba.fY),.d (.int .i64 x.ca.ba.fZ)]
@[reducible] def aj.rc(x:aj):List RV:=[.d (.int .i64 x.bt.bo.fX),.d (.int .i64 x.bt.bo.fY),.d (.int .i64 x.bt.bo.fZ),.d (.int .i64 x.bt.ba.fX),.d (.int .i64 x.bt.ba.fY),.d (.int .i64 x.bt.ba.fZ),.d (.int .i64 x.bP.b9),.d (.lst (x.bP.bo.map (PD.int .i64))),.d (.lst (x.bP.ba.map (PD.int .i64))),.d (.lst (x.cB.map al.pd)),.d (.int .i64 x.eV)]
@[reducible] def aq.rc(x:aq):List RV:=[.d (.int .i64 x.ey.bo.fX),.d (.int .i64 x.ey.bo.fY),.d (.int .i64 x.ey.bo.fZ),.d (.int .i64 x.ey.ba.fX),.d (.int .i64 x.ey.ba.fY),.d (.int .i64 x.ey.ba.fZ),.d (.int .i64 x.cg),.d (.int .i64 x.mL)]
@[reducible] def ak.rc(x:ak):List RV:=[.d (.int .i64 x.bo.fX),.d (.int .i64 x.bo.fY),.d (.int .i64 x.bo.fZ),.d (.int .i64 x.ba.fX),.d (.int .i64 x.ba.fY),.d (.int .i64 x.ba.fZ)]
@[reducible] def bQ.rc(x:bQ):List RV:=[.d (.lst (x.gm.map ac.pd)),.d (.int .i64 x.bg.bU.fX),.d (.int .i64 x.bg.bU.fY),.d (.int .i64 x.bg.bU.fZ),.d (.int .i64 x.bg.bS),.d (.int .i64 x.bg.cA),.d (.int .i64 x.bg.ml),.d (.int .i64 x.bg.ca.bo.fX),.d (.int .i64 x.bg.ca.bo.fY),.d (.int .i64 x.bg.ca.bo.fZ),.d (.int .i64 x.bg.ca.ba.fX),.d (.int .i64 x.bg.ca.ba.fY),.d (.int .i64 x.bg.ca.ba.fZ),.d (.int .i64 x.ed.bo),.d (.int .i64 x.ed.ba),.d (.int .i64 x.qU)]
@[reducible] def bz.rc(x:bz):List RV:=[.d (.lst (x.cf.map (PD.int .i64))),.d (.int .i64 x.bU.fX),.d (.int .i64 x.bU.fY),.d (.int .i64 x.bU.fZ),.d (.int .i64 x.bS)]
@[reducible] def bd.rc(x:bd):List RV:=[.d (.str x.cL.az.bI),.d (.str x.cL.az.bB),.d (.str x.cL.az.bg),.d (.str x.cL.az.bL),.d (.int .i64 x.cL.bS),.d (.int .i64 x.cL.bA),.d (.int .i64 x.cL.bY),.d (.int .i64 x.cL.bG),.d (.int .i64 x.cL.bM),.d (.lst (x.bT.gm.map ac.pd)),.d (.int .i64 x.bT.bg.bU.fX),.d (.int .i64 x.bT.bg.bU.fY),.d (.int .i64 x.bT.bg.bU.fZ),.d (.int .i64 x.bT.bg.bS),.d (.int .i64 x.bT.bg.cA),.d (.int .i64 x.bT.bg.ml),.d (.int .i64 x.bT.bg.ca.bo.fX),.d (.int .i64 x.bT.bg.ca.bo.fY),.d (.int .i64 x.bT.bg.ca.bo.fZ),.d (.int .i64 x.bT.bg.ca.ba.fX),.d (.int .i64 x.bT.bg.ca.ba.fY),.d (.int .i64 x.bT.bg.ca.ba.fZ),.d (.int .i64 x.bT.ed.bo),.d (.int .i64 x.bT.ed.ba),.d (.int .i64 x.bT.qU)]
@[reducible] def bn.rc(x:bn):List RV:=[.d (.str x.bI),.d (.str x.bB),.d (.str x.bg),.d (.str x.bL)]
@[reducible] def ah.rc(x:ah):List RV:=[.d (.lst (x.fL.map (PD.int .i64))),.d (.int .i64 x.fAt)]
@[reducible] def bc.rc(x:bc):List RV:=[.d (.int .i64 x.b9),.d (.lst (x.bo.map (PD.int .i64))),.d (.lst (x.ba.map (PD.int .i64)))]
@[reducible] def bK.rc(x:bK):List RV:=[.d (.int .i64 x.bN.b9),.d (.lst (x.bN.bo.map (PD.int .i64))),.d (.lst (x.bN.ba.map (PD.int .i64))),.d (.int .i64 x.bR),.d (.int .i64 x.bO)]
@[reducible] def bV.rc(x:bV):List RV:=[.d (.lst (x.qV.map (PD.int .i64))),.d (.lst (x.fback.map (PD.int .i64)))]
@[reducible] def aa.rc(x:aa):List RV:=[.d (.int .i64 x.fX),.d (.int .i64 x.fY),.d (.int .i64 x.fZ)]
theorem Z{α:Sort _}{a:α}:a=a:=rfl
theorem Zk{α:Sort _}{a b:α}(h:a=b:=by kernel_rfl):a=b:=h
theorem gU{P:Program}{H:Hints}{ext:FuncId->Option tI}{f:FuncId}{a:Nat}{R:List (Nat×RV)}{B:List (Nat×Box)}{Q:Ex->List (Nat×RV)->List (Nat×Box)->Prop}{id:Nat}{ops:Array Oper}{l:List Oper}{R0:List (Nat×RV)}{B0:List (Nat×Box)}{b:Code}(c:(ops.toList,tH P a (A R B) (H.at_ f a id))=(l,some (A R0 B0)))
    (h:WO P H ext (H.hf f) ops l R0 B0 λj g _=>WC P H ext f a b j g Q):WC P H ext f a (.seq (.region id ops false) b) R B Q:=gS (congrArg Prod.fst c) (congrArg Prod.snd c) h
theorem mM{P:Program}{H:Hints}{ext:FuncId->Option tI}{mt:Hf}{ops:Array Oper}{l:List Oper}{R:List (Nat×RV)}{B:List (Nat×Box)}{K:List (Nat×RV)->List (Nat×Box)->List Tr->Prop}{d e:Nat}{ty j:TypeId}{p q:String}{a c:Array Edge}{g k:Option (Nat×Bool)}{x y:Operand}{v w:RV}(f:((A R B).opd x,(A ((d,v)::R) B).opd y)=(some v,some w))(h:WO P H ext mt ops l ((e,w)::(d,v)::R) B λt r ts=>K t r (⟨[],[]⟩::⟨[],[]⟩::ts))(hw:tz ops (A R B) ⟨some d,.move x,ty,p,a,g⟩=some true:=by exact rfl)(hu:tz ops (A ((d,v)::R) B) ⟨some e,.move y,j,q,c,k⟩=some true:=by exact rfl):WO P H ext mt ops (⟨some d,.move x,ty,p,a,g⟩::⟨some e,.move y,j,q,c,k⟩::l) R B K:=
  sM (congrArg Prod.fst f) (sM (congrArg Prod.snd f) h hu) hw
@[reducible] def hHn(i n:Nat)(a b:List Nat)(e:List yk):List yk:=if i=n then [.j0 a b] else e
def hintAt:FuncId->Nat->Nat->List yk:=λf a id=>
  if f<161 then(if f<73 then(if f<31 then(if f<15 then(if f<10 then(if f<5 then(if f=3 then(if a=0 then(hHn id 9 [2,4,5,9,10,11,12,13] [64,80,160,176,208,736]<|hHn id 10 [2,5,9,11,12,65,66,67] [80,176,736]<|hHn id 13 [2,5,9,11,12,15,65,66,67,76,77,78] [80,176,240,736]<|hHn id 16 [2,5,9,11,12,15,17,65,66,67,76,77,78,84,85,86] [80,176,240,272,736]<|hHn id 25 [2,5,9,11,12,15,17,20,22,65,66,67,76,77,78,84,85,86,148,149] [80,176,240,272,736]<|hHn id 30 [2,5,9,11,12,15,17,65,66,67,76,77,78,84,85,86] [80,176,240,272,736]<|hHn id 31 [2,5,9,11,12,15,65,66,67,76,77,78] [80,176,240,736]<|hHn id 32 [2,5,9,11,12,65,66,67] [80,176,736]<|hHn id 33 [] []<|[])else [])else [])else(if f<9 then(if f=5 then(if a=0 then(hHn id 2 [1,7,8] [16]<|hHn id 7 [1,3,7,8,25,26] [16]<|hHn id 12 [1,7,8] [16]<|hHn id 13 [1] [16]<|[])else [])else [])else(if f=9 then(if a=1 then(if id=3 then [.ownp (.cell 80 0) 1104 67,.j0 [0,1,4,5,6] [0,64,80,1104]]else hHn id 16 [4,5] [0,64,80,1104]<|[])else [])else [])))else(if f<13 then(if f<12 then(if f=10 then(if a=1 then(if id=4 then [.own 9 2192 78,.j0 [0,5,6,9,10,11,12] [0,80,96,160,2192]]else hHn id 12 [0,5,6,9,10,11,12,13,14,16] [0,80,96,160,208,224,2192]<|hHn id 14 [0,5,6,9,10,11,12,13,16] [0,80,96,160,208,2192]<|hHn id 18 [0,5,6,9,10,11,12,13] [0,80,96,160,208,2192]<|hHn id 21 [9] [0,2192]<|[])else [])else [])else(if f=12 then(if a=1 then(if id=3 then [.ownp (.cell 80 0) 400 67,.j0 [0,4,5,10,11,12] [0,64,80,400]]else hHn id 8 [0,4,5] [0,64,80,400]<|[])else [])else []))else(if f<14 then(if f=13 then(if a=0 then(if id=7 then [.zm 848,.ownn (.reg 11) 848 38 78,.j0 [3,8,9,11,12,29,30,31] [48,848]]else if id=10 then [.zm 848,.ownn (.reg 11) 848 38 78,.j0 [3,8,9,11,14,29,30,31] [48,848]]else if id=12 then [.lend 848 none 1088]else if id=14 then [.zm 848,.j0 [11] [848]]else if id=15 then [.zm 848,.j0 [11,77,78,79] [848]]else if id=16 then [.lend 848 (some 79) 1312]else if id=19 then [.zm 848,.frzn (.reg 11),.j0 [11] []]else [])else [])else [])else(if f=14 then(if a=0 then(if id=7 then [.zm 992,.ownn (.reg 11) 992 38 78,.j0 [3,8,11,12,13] [48,992]]else if id=10 then [.zm 992,.ownn (.reg 11) 992 38 78,.j0 [3,8,11,12,13] [48,992]]else if id=11 then [.lend 992 none 1152]else if id=12 then [.zm 992,.j0 [11] [992]]else if id=13 then [.zm 992,.j0 [11,14] [992]]else if id=15 then [.lend 992 (some 14) 1504]else if id=16 then [.zm 992,.frzn (.reg 11),.j0 [11] []]else [])else [])else []))))else(if f<20 then(if f<17 then(if f<16 then(if f=15 then(if a=0 then(if id=9 then [.own 14 1360 86,.j0 [3,4,9,13,14,47,48,49] [48,64,1360]]else if id=13 then [.own 17 1056 78,.j0 [3,4,9,13,14,17,47,48,49,54,55,56] [48,64,1056,1360]]else hHn id 17 [3,4,9,13,14,17,47,48,49] [48,64,1056,1360]<|hHn id 22 [9,13,14] [1360]<|if id=25 then [.own 22 1648 78,.j0 [9,14,22,91,92,93] [1360,1648]]else hHn id 29 [14,22] [1360,1648]<|[])else [])else [])else(if f=16 then(if a=0 then(if id=9 then [.frz (.reg 14),.j0 [3,4,9,12,13,14,15] [48,64]]else if id=13 then [.own 16 1088 78,.j0 [3,4,9,12,13,14,15,16,56,57,58] [48,64,1088]]else hHn id 17 [3,4,9,12,13,14,15,16] [48,64,1088]<|hHn id 21 [9,13,14] []<|if id=23 then [.own 21 1584 78,.j0 [9,14,21,87,88,89] [1584]]else hHn id 27 [14,21] [1584]<|[])else [])else []))else(if f<18 then(if f=17 then(if a=0 then(hHn id 4 [0,1,5] []<|hHn id 8 [] []<|[])else [])else [])else(if f=18 then(if a=0 then(hHn id 4 [0,1,5] []<|hHn id 8 [] []<|[])else [])else [])))else(if f<25 then(if f<21 then(if f=20 then(if a=0 then(hHn id 3 [3,27,28,29] []<|[])else [])else [])else(if f=21 then(if a=0 then(hHn id 2 [1,6,7] [16]<|hHn id 7 [1] [16]<|[])else [])else []))else(if f<28 then(if f=25 then(if a=1 then(hHn id 3 [2,3,16,17] [0,32,48,96,97]<|hHn id 7 [2,3] [0,32,48,96,97]<|[])else [])else [])else(if f=28 then(if a=1 then(if id=3 then [.ownp (.cell 48 0) 1040 129,.j0 [0,2,3,4] [0,32,48,1040]]else hHn id 13 [2,3] [0,32,48,1040]<|[])else [])else [])))))else(if f<42 then(if f<36 then(if f<34 then(if f=31 then(if a=0 then(hHn id 2 [2,4,6,13,14,15] [64,96]<|hHn id 5 [2,4,6,9,13,14,15,20,21,22] [64,96,144]<|hHn id 10 [2,4,6,13,14,15] [64,96]<|hHn id 11 [6] [96]<|[])else [])else [])else(if f<35 then(if f=34 then(if a=1 then(if id=5 then [.frz (.cell 80 1),.frz (.cell 80 2),.j0 [4,5] [0,64,80]]else if id=13 then [.frz (.cell 80 1),.j0 [4,5] [0,64,80,192]]else if id=15 then [.frz (.cell 80 2),.j0 [4,5] [0,64,80,128]]else [])else [])else [])else(if f=35 then(if a=0 then(if id=8 then [.own 9 656 78,.own 10 720 107,.j0 [3,4,9,10,24,25,26] [48,64,656,720]]else hHn id 14 [9,10] [656,720]<|[])else [])else [])))else(if f<40 then(if f<39 then(if f=36 then(if a=0 then(hHn id 3 [1,3,9,10] [16,112]<|hHn id 7 [1,3] [16,112]<|[])else [])else [])else(if f=39 then(if a=0 then(if id=10 then [.own 10 736 107,.j0 [3,4,9,10,11] [48,64,736]]else hHn id 14 [9,10] [736]<|[])else [])else []))else(if f<41 then(if f=40 then(if a=0 then(if id=3 then [.own 3 464 3,.j0 [0,3,4] [464]]else hHn id 6 [0,3,4,5] [464]<|hHn id 8 [0,3,4,5] [464]<|hHn id 11 [3] [464]<|[])else [])else [])else(if f=41 then(if a=0 then(if id=3 then [.own 3 816 78,.j0 [0,3,4] [816]]else hHn id 6 [0,3,4,5] [816]<|hHn id 8 [0,3,4,5] [816]<|hHn id 9 [0,3,4,5] [816]<|hHn id 12 [3] [816]<|[])else [])else []))))else(if f<56 then(if f<49 then(if f<47 then(if f=42 then(if a=0 then(if id=8 then [.own 8 2432 115,.own 9 2576 3,.j0 [1,2,8,9,10,11] [32,176,560,561,2432,2576]]else if id=13 then [.own 13 1120 107,.j0 [1,2,8,9,10,11,12,13,55,56,57] [32,176,560,561,1120,2432,2576]]else if id=17 then [.frz (.reg 13),.j0 [1,2,8,9,10,11,12,13] [32,176,560,561,2432,2576]]else if id=25 then [.own 19 1840 3,.j0 [1,2,8,9,10,11,12,16,18,19,98,99,100] [32,176,256,560,561,1840,2432,2576]]else hHn id 30 [1,2,8,9,10,11,12,16,19] [32,176,256,560,561,1840,2432,2576]<|if id=33 then [.ownp (.cell 352 0) 2288 3,.j0 [1,2,8,9,10,11,22,127,128,129] [32,176,352,560,561,1840,2288,2432,2576]]else hHn id 38 [1,2,8,9,10,11,22] [32,176,352,560,561,2288,2432,2576]<|hHn id 40 [1,2,8,9,10,11,12] [32,176,560,561,2432,2576]<|hHn id 42 [8,9] [2432,2576]<|[])else [])else [])else(if f=47 then(if a=0 then(if id=7 then [.own 8 640 115,.own 9 800 3,.j0 [1,2,8,9,10] [32,640,800]]else hHn id 16 [8,9] [640,800]<|[])else [])else []))else(if f<50 then(if f=49 then(if a=0 then(hHn id 2 [0,3,5] [48]<|hHn id 4 [0,3,5] [48]<|[])else [])else [])else(if f=50 then(if a=0 then(hHn id 3 [0,2,3,4] [32,48]<|hHn id 7 [2,3] [32,48]<|[])else [])else [])))else(if f<68 then(if f<60 then(if f=56 then(if a=1 then(if id=4 then [.ownp (.cell 48 1) 432 3,.ownp (.cell 48 2) 512 3,.j0 [0,2,3,4,5,6] [0,32,48,432,512]]else hHn id 9 [2,3] [0,32,48,432,512]<|[])else [])else [])else(if f=60 then(if a=0 then(hHn id 2 [1,6,7,8] [16]<|hHn id 7 [1] [16]<|[])else [])else []))else(if f<72 then(if f=68 then(if a=0 then(hHn id 3 [3,6,7,8] []<|hHn id 8 [3] []<|[])else [])else [])else(if f=72 then(if a=0 then(hHn id 2 [1,3] [16]<|hHn id 3 [1,3] [16]<|hHn id 7 [1,3,4] [16,64]<|hHn id 8 [1,3,4,5] [16,64]<|hHn id 12 [1] [16]<|[])else [])else []))))))else(if f<97 then(if f<86 then(if f<78 then(if f<76 then(if f=73 then(if a=0 then(if id=3 then [.own 7 480 78,.j0 [3,4,7,13,14,15] [48,64,208,480]]else hHn id 9 [7] [480]<|[])else [])else [])else(if f<77 then(if f=76 then(if a=0 then(hHn id 5 [41,42] []<|[])else [])else [])else(if f=77 then(if a=0 then(hHn id 6 [2,52,53,54] [32]<|hHn id 12 [] []<|[])else [])else [])))else(if f<81 then(if f<80 then(if f=78 then(if a=0 then(hHn id 3 [0,2,3,13,14] [32,48,112,160]<|hHn id 7 [2,3] [32,48,112,160]<|[])else [])else [])else(if f=80 then(if a=0 then(if id=4 then [.own 9 928 3,.j0 [2,3,4,5,9,10,11] [64,80,928]]else hHn id 7 [9] [928]<|[])else if a=2 then(if id=4 then [.own 9 928 3,.j0 [2,3,4,5,9,10,11] [0,1,64,80,928]]else hHn id 7 [9] [0,1,928]<|[])else [])else []))else(if f<83 then(if f=81 then(if a=0 then(hHn id 7 [4,8,37,38,39] [64,128]<|hHn id 13 [4,8] [64,128]<|[])else [])else [])else(if f=83 then(if a=0 then(hHn id 8 [2,10,33,34,35] [512]<|hHn id 12 [10] [512]<|[])else [])else []))))else(if f<93 then(if f<90 then(if f<88 then(if f=86 then(if a=0 then(if id=7 then [.ownp (.cell 128 0) 704 78,.ownp (.cell 128 1) 784 107,.ownp (.cell 128 2) 864 75,.j0 [3,4,6,8,25,26,27] [48,64,96,128,704,784,864]]else hHn id 13 [6,8] [96,128,704,784,864]<|[])else [])else [])else(if f=88 then(if a=0 then(if id=3 then [.own 7 816 82,.j0 [3,4,5,7,13,14,15] [48,64,80,816]]else hHn id 9 [7] [816]<|[])else [])else []))else(if f<92 then(if f=90 then(if a=0 then(hHn id 5 [0,1,4,5,6] [64,80]<|hHn id 9 [4,5] [64,80]<|[])else [])else [])else(if f=92 then(if a=1 then(hHn id 2 [0,1,2,3,4,10,11] [0]<|[])else [])else [])))else(if f<95 then(if f<94 then(if f=93 then(if a=0 then(hHn id 6 [1,2,5] [32]<|hHn id 13 [] []<|[])else [])else [])else(if f=94 then(if a=0 then(if id=3 then [.own 9 864 3,.j0 [1,2,3,6,9,10,11] [48,96,864]]else hHn id 7 [1,3,6,9,10] [48,96,864]<|if id=9 then [.frz (.reg 9),.j0 [1,3,6,9,10] [48,96]]else if id=15 then [.own 10 1664 3,.j0 [3,6,9,10,13,15,17] [48,96,208,1664]]else if id=19 then [.frz (.reg 10),.j0 [3,6,10,13] [48,96,208]]else [])else [])else []))else(if f<96 then(if f=95 then(if a=0 then(if id=3 then [.own 5 416 3,.j0 [0,1,5,6] [416]]else hHn id 7 [5] [416]<|[])else [])else [])else(if f=96 then(if a=0 then(if id=3 then [.own 3 496 3,.j0 [0,3,4] [496]]else hHn id 6 [0,3,4,5] [496]<|hHn id 8 [0,3,4,5] [496]<|hHn id 11 [3] [496]<|[])else [])else [])))))else(if f<129 then(if f<104 then(if f<99 then(if f=97 then(if a=0 then(if id=7 then [.ownp (.cell 128 9) 816 107,.j0 [3,4,6,8,34,35,36] [48,64,96,128,816]]else hHn id 12 [6,8] [96,128,816]<|[])else [])else [])else(if f<100 then(if f=99 then(if a=0 then(if id=9 then [.own 10 1072 82,.j0 [4,5,7,10,29,30,31] [64,80,112,1072]]else hHn id 16 [10] [1072]<|[])else [])else [])else(if f=100 then(if a=0 then(if id=5 then [.own 4 576 3,.own 5 704 3,.j0 [0,2,4,5,6] [32,576,704]]else hHn id 10 [2,4,5] [32,576,704]<|[])else [])else [])))else(if f<108 then(if f<106 then(if f=104 then(if a=0 then(hHn id 2 [0,5,6,7] []<|hHn id 7 [0] []<|[])else [])else [])else(if f=106 then(if a=1 then(hHn id 4 [0,3] [0]<|hHn id 9 [0,3,4,5] [0]<|hHn id 14 [0,3] [0]<|hHn id 16 [0] [0]<|[])else [])else []))else(if f<119 then(if f=108 then(if a=2 then(hHn id 2 [0,1,2,6,7,8] [0,1]<|hHn id 6 [0,1,2,6,7] [0,1]<|hHn id 7 [0,1,2,6] [0,1]<|hHn id 9 [0,1,2,6,7,8] [0,1]<|hHn id 13 [0,1,2,6,7] [0,1]<|[])else [])else [])else(if f=119 then(if a=0 then(hHn id 4 [0,2] []<|hHn id 7 [0,2] []<|[])else [])else []))))else(if f<147 then(if f<136 then(if f<133 then(if f=129 then(if a=0 then(hHn id 5 [2,6,8,10] [96,128]<|hHn id 9 [6] [96]<|[])else [])else [])else(if f=133 then(if a=0 then(hHn id 6 [1,4,5,33,34] [16]<|hHn id 12 [] []<|[])else [])else []))else(if f<137 then(if f=136 then(if a=0 then(hHn id 10 [1,7] [304,368]<|if id=14 then [.frz (.cell 304 11),.j0 [7] [304]]else [])else [])else [])else(if f=137 then(if a=0 then(hHn id 5 [4,5,6,7,8,31] [64,80,96,112,128]<|[])else [])else [])))else(if f<159 then(if f<150 then(if f=147 then(if a=0 then(if id=3 then [.own 5 304 3,.j0 [1,5,8,9,10] [304]]else hHn id 7 [5] [304]<|[])else [])else [])else(if f=150 then(if a=1 then(hHn id 1 [0,1,2,3,8] [0]<|hHn id 2 [0,1,2,3,8] [0]<|hHn id 4 [0,1,2,3,8,9] [0]<|[])else [])else []))else(if f<160 then(if f=159 then(if a=0 then(if id=3 then [.ownp (.cell 112 9) 512 107,.j0 [1,2,6,7,8] [96,112,512]]else hHn id 6 [6,7] [96,112,512]<|[])else [])else [])else(if f=160 then(if a=0 then(if id=8 then [.own 10 672 3,.j0 [2,8,10,11] [672]]else hHn id 11 [10] [672]<|[])else [])else [])))))))else(if f<285 then(if f<225 then(if f<186 then(if f<173 then(if f<162 then(if f=161 then(if a=0 then(hHn id 2 [0,1,5] []<|hHn id 6 [] []<|[])else [])else [])else(if f<168 then(if f=162 then(if a=0 then(hHn id 10 [1,2,4,10,11,12] [32,64,176,736]<|hHn id 12 [1,2,4,10,11,12,13] [32,64,176,736]<|hHn id 19 [1,2,4,10,11,12,13] [32,64,176,736]<|hHn id 25 [4,10,11,12] [64,176,736]<|hHn id 27 [4,10,11,12,25] [64,176,736]<|hHn id 31 [4,11,12] [64,176]<|[])else [])else [])else(if f=168 then(if a=0 then(hHn id 2 [0,1,2,9,10] []<|hHn id 7 [0,1,2] []<|[])else [])else [])))else(if f<182 then(if f<181 then(if f=173 then(if a=2 then(hHn id 1 [0,1,2,3,8] [0,1]<|hHn id 2 [0,1,2,3,8] [0,1]<|hHn id 4 [0,1,2,3,8,9] [0,1]<|[])else [])else [])else(if f=181 then(if a=0 then(hHn id 4 [1,3] [16]<|hHn id 10 [] []<|[])else [])else []))else(if f<185 then(if f=182 then(if a=0 then(hHn id 2 [0,1,2,7] []<|hHn id 6 [0,1,2] []<|[])else [])else [])else(if f=185 then(if a=0 then(hHn id 3 [1,3,4] [16]<|hHn id 11 [1] [16]<|[])else [])else []))))else(if f<200 then(if f<195 then(if f<194 then(if f=186 then(if a=0 then(hHn id 2 [2,3,4,6] [32,48,64]<|hHn id 6 [4] [64]<|[])else [])else [])else(if f=194 then(if a=0 then(hHn id 14 [1,38,39,40] [16]<|hHn id 20 [] []<|[])else [])else []))else(if f<197 then(if f=195 then(if a=1 then(if id=5 then [.ownp (.cell 0 11) 80176 226,.mv (.cell 0 11) 90081,.j0 [6] [0,90081]]else [])else if a=2 then(if id=5 then [.ownp (.cell 0 11) 80176 226,.bumpp (.cell 0 11),.j0 [6] [0,1]]else [])else [])else [])else(if f=197 then(if a=2 then(if id=2 then [.bumpp (.cell 0 11),.j0 [] [0,1]]else [])else [])else [])))else(if f<218 then(if f<215 then(if f=200 then(if a=0 then(hHn id 3 [2,3,6,16,17,18] [32,48,224]<|hHn id 10 [6] [224]<|[])else [])else [])else(if f=215 then(if a=0 then(hHn id 5 [2,7,8,9,28,29] [128,144]<|[])else [])else []))else(if f<222 then(if f=218 then(if a=0 then(hHn id 2 [0,1,7,8] []<|hHn id 7 [] []<|[])else [])else [])else(if f=222 then(if a=0 then(if id=8 then [.own 7 688 215,.j0 [2,3,7,8] [32,48,688]]else hHn id 12 [7] [688]<|[])else [])else [])))))else(if f<250 then(if f<234 then(if f<227 then(if f=225 then(if a=0 then(hHn id 12 [1,3] [16]<|hHn id 19 [] []<|[])else [])else [])else(if f<232 then(if f=227 then(if a=0 then(hHn id 3 [0,3,4] []<|hHn id 7 [3] []<|[])else [])else [])else(if f=232 then(if a=0 then(hHn id 7 [1,2,3,6,8,9] [48,96,128]<|hHn id 13 [6,8] [96,128]<|[])else [])else [])))else(if f<246 then(if f<241 then(if f=234 then(if a=0 then(hHn id 8 [0,4,5] []<|hHn id 11 [4] []<|[])else [])else [])else(if f=241 then(if a=0 then(if id=3 then [.own 3 496 3,.j0 [0,3,4] [496]]else hHn id 6 [0,3,4,5] [496]<|hHn id 8 [0,3,4,5] [496]<|hHn id 11 [3] [496]<|[])else [])else []))else(if f<247 then(if f=246 then(if a=0 then(hHn id 2 [3,4,9,10,11] [48,64]<|hHn id 7 [4] [64]<|[])else [])else [])else(if f=247 then(if a=0 then(hHn id 2 [1,4,9,10,11] [64]<|hHn id 7 [4] [64]<|[])else [])else []))))else(if f<268 then(if f<252 then(if f<251 then(if f=250 then(if a=0 then(hHn id 1 [0,1] []<|hHn id 3 [0] []<|[])else [])else [])else(if f=251 then(if a=0 then(if id=6 then [.fixv 16,.j0 [1,3] []]else [])else [])else []))else(if f<256 then(if f=252 then(if a=0 then(if id=3 then [.ownp (.cell 48 0) 816 67,.j0 [1,2,3,4] [16,32,48,816]]else if id=7 then [.ownp (.cell 80 4) 720 75,.j0 [1,2,3,4,5,6] [16,32,48,80,720,816]]else hHn id 10 [1,2,3,4,5] [16,32,48,80,720,816]<|hHn id 11 [2,3] [32,48,816]<|[])else [])else [])else(if f=256 then(if a=0 then(hHn id 3 [0,3,4] []<|hHn id 8 [3] []<|[])else [])else [])))else(if f<275 then(if f<273 then(if f=268 then(if a=0 then(hHn id 7 [1,2,6,8,31,32,33] [96,128]<|hHn id 17 [6,8] [96,128]<|[])else [])else [])else(if f=273 then(if a=2 then(hHn id 2 [1,5,6] [0,1]<|hHn id 7 [5] [0,1]<|[])else [])else []))else(if f<280 then(if f=275 then(if a=0 then(hHn id 5 [0,3,4] []<|hHn id 10 [3] []<|[])else [])else [])else(if f=280 then(if a=0 then(hHn id 3 [1,2,6,7,8] [32]<|hHn id 6 [1,2,6,7,8,39,40,41] [32]<|hHn id 11 [1,2,6,7,8,39,40,41] [32]<|hHn id 12 [6,7] []<|[])else [])else []))))))else(if f<318 then(if f<296 then(if f<289 then(if f<286 then(if f=285 then(if a=0 then(hHn id 2 [0,3] []<|hHn id 5 [3] []<|[])else [])else [])else(if f<287 then(if f=286 then(if a=0 then(hHn id 3 [0,1,5,6] []<|hHn id 10 [0,5] []<|[])else [])else [])else(if f=287 then(if a=0 then(hHn id 2 [0,3] []<|hHn id 6 [0] []<|[])else [])else [])))else(if f<293 then(if f<292 then(if f=289 then(if a=0 then(hHn id 1 [0,1] []<|hHn id 3 [0] []<|[])else [])else [])else(if f=292 then(if a=0 then(if id=6 then [.fixv 16,.j0 [1,3] []]else [])else [])else []))else(if f<294 then(if f=293 then(if a=0 then(hHn id 3 [3,6,7,8] []<|hHn id 10 [3] []<|[])else [])else [])else(if f=294 then(if a=0 then(hHn id 3 [1,2,10,11,12] [16,32,112]<|hHn id 7 [1,2] [16,32,112]<|[])else [])else []))))else(if f<301 then(if f<299 then(if f<297 then(if f=296 then(if a=0 then(hHn id 2 [0,3] []<|hHn id 6 [] []<|[])else [])else [])else(if f=297 then(if a=0 then(hHn id 3 [0,3,4] []<|hHn id 6 [3] []<|[])else [])else []))else(if f<300 then(if f=299 then(if a=0 then(hHn id 3 [1,2,6,18,19,20] [32,272]<|hHn id 7 [1,2,6] [32,272]<|hHn id 11 [1,2,9,10,45,46,47] [32,272]<|hHn id 17 [9,10] []<|[])else [])else [])else(if f=300 then(if a=2 then(hHn id 0 [0,1] [0,1]<|[])else [])else [])))else(if f<311 then(if f<302 then(if f=301 then(if a=2 then(hHn id 2 [0,1,2,7] [0,1]<|hHn id 8 [0,1,2,7,9] [0,1]<|hHn id 11 [1,7] [0,1]<|[])else [])else [])else(if f=302 then(if a=0 then(hHn id 5 [2,3,4,16] [32,48,64]<|[])else [])else []))else(if f<313 then(if f=311 then(if a=0 then(hHn id 9 [0,1,5,6] []<|[])else [])else [])else(if f=313 then(if a=0 then(hHn id 3 [1,2,3,7,8] [48]<|hHn id 6 [7] []<|[])else [])else [])))))else(if f<333 then(if f<323 then(if f<320 then(if f=318 then(if a=0 then(hHn id 2 [0,1,7,8] []<|hHn id 7 [] []<|[])else [])else [])else(if f<322 then(if f=320 then(if a=0 then(hHn id 3 [3,6,7,8] []<|hHn id 7 [3] []<|[])else [])else [])else(if f=322 then(if a=0 then(hHn id 3 [1,2,13,14] [16,32,112]<|hHn id 7 [1,2] [16,32,112]<|[])else [])else [])))else(if f<329 then(if f<324 then(if f=323 then(if a=0 then(if id=3 then [.ownp (.cell 48 0) 416 129,.j0 [1,2,3,4] [16,32,48,416]]else hHn id 8 [2,3] [32,48,416]<|[])else [])else [])else(if f=324 then(if a=0 then(hHn id 3 [1,2,3,7,11,12,13] [48]<|hHn id 8 [7] []<|[])else [])else []))else(if f<332 then(if f=329 then(if a=0 then(hHn id 3 [1,5,16,17,18] [240]<|hHn id 7 [1,5,6,7,8,16,17,18,25,26] [240]<|hHn id 14 [1,5,16,17,18] [240]<|hHn id 15 [5] [240]<|[])else [])else [])else(if f=332 then(if a=0 then(if id=4 then [.own 4 208 3,.j0 [0,4] [208]]else hHn id 7 [4] [208]<|[])else [])else []))))else(if f<342 then(if f<339 then(if f<335 then(if f=333 then(if a=0 then(if id=6 then [.own 6 912 3,.j0 [0,1,6,7,8] [912]]else hHn id 8 [0,1,6,7,8] [912]<|hHn id 10 [0,1,6,7,8] [912]<|hHn id 12 [0,1,6,7,8] [912]<|hHn id 14 [6] [912]<|[])else [])else [])else(if f=335 then(if a=0 then(hHn id 3 [0,1,5,6] [224]<|hHn id 4 [0,1,5,6] [224]<|hHn id 7 [0,1,5,6,7,8] [224]<|hHn id 9 [0,1,5,6,7,8] [224]<|hHn id 12 [0,1,5,6,7,8] [224]<|hHn id 14 [5] [224]<|[])else [])else []))else(if f<341 then(if f=339 then(if a=0 then(if id=4 then [.own 4 240 3,.j0 [0,4] [240]]else hHn id 7 [4] [240]<|[])else [])else [])else(if f=341 then(if a=0 then(if id=6 then [.own 6 560 3,.j0 [0,1,6,7,18,19] [560]]else hHn id 12 [6] [560]<|[])else [])else [])))else(if f<345 then(if f<344 then(if f=342 then(if a=0 then(hHn id 1 [0] []<|hHn id 3 [0] []<|[])else [])else [])else(if f=344 then(if a=0 then(hHn id 2 [0,1,7,8] []<|hHn id 7 [] []<|[])else [])else []))else(if f<346 then(if f=345 then(if a=0 then(hHn id 1 [0] []<|hHn id 3 [0] []<|[])else [])else [])else(if f=346 then(if a=0 then(hHn id 2 [0,1,7,8] []<|hHn id 7 [] []<|[])else [])else [])))))))
instance :EN aa aa.pd:=⟨⟩
instance :EN ak ak.pd:=⟨⟩
instance :EN bc bc.pd:=⟨⟩
instance :EN aw aw.pd:=⟨⟩
instance :EN bK bK.pd:=⟨⟩
instance :EN ai ai.pd:=⟨⟩
instance :EN bn bn.pd:=⟨⟩
instance :EN cd cd.pd:=⟨⟩
instance :EN bH bH.pd:=⟨⟩
instance :EN bw bw.pd:=⟨⟩
instance :EN bv bv.pd:=⟨⟩
instance :EN bi bi.pd:=⟨⟩
instance :EN av av.pd:=⟨⟩
instance :EN ag ag.pd:=⟨⟩
instance :EN ac ac.pd:=⟨⟩
instance :EN pW pW.pd:=⟨⟩
instance :EN ah ah.pd:=⟨⟩
instance :EN al al.pd:=⟨⟩
instance :EN bC bC.pd:=⟨⟩
instance :EN A4_Int A4_Int.pd:=⟨⟩
instance :EN rt rt.pd:=⟨⟩
instance :EN ap ap.pd:=⟨⟩
instance :EN bh bh.pd:=⟨⟩
instance :EN bQ bQ.pd:=⟨⟩
instance :EN bd bd.pd:=⟨⟩
instance :EN bz bz.pd:=⟨⟩
instance :EN bV bV.pd:=⟨⟩
instance :EN aj aj.pd:=⟨⟩
instance :EN aq aq.pd:=⟨⟩
instance :EN cj cj.pd:=⟨⟩
instance :EN bZ bZ.pd:=⟨⟩
instance :EN bu bu.pd:=⟨⟩
instance :EN eL eL.pd:=⟨⟩
instance :EN bq bq.pd:=⟨⟩
def bj:Hints:={ at_:=hintAt,mt:=λf i=>(f==9&&i==28)||(f==12&&i==16)||(f==13&&i==52)||(f==14&&i==61)||(f==34&&i==8)||(f==34&&i==12)||(f==49&&i==24)||(f==162&&i==46)||(f==368&&i==19),by_:=λf i=>(f==37&&i==0)||(f==45&&i==0)||(f==63&&i==0)||(f==80&&i==0)||(f==84&&i==0)||(f==85&&i==0)||(f==92&&i==0)||(f==106&&i==0)||(f==108&&i==0)||(f==150&&i==0)||(f==173&&i==0)||(f==367&&i==0),own:=λf i=>(f==41&&i==0)||(f==56&&i==0)||(f==78&&i==0)||(f==105&&i==0)||(f==141&&i==0)||(f==294&&i==0)||(f==321&&i==0)||(f==338&&i==0) }
@[reducible] def gI(a f id:Nat)(R:List (Nat×RV))(B:List (Nat×Box))(g:List (Nat×RV))(c:List (Nat×Box)):Prop:=tH prog a (A g c) (bj.at_ f a id)=some (A R B)
@[reducible] def gX(x g f id:Nat)(R:List (Nat×RV))(B:List (Nat×Box))(e:Ex)(c:List (Nat×RV))(a:List (Nat×Box)):Prop:=e= .exit x∧gI g f id R B c a
@[reducible] def gF(f:Nat)(fn:Func)(g:Nat)(x:RV×List Box)(e:Ex)(c:List (Nat×RV))(a:List (Nat×Box)):Prop:=e= .ret∧finish prog (bj.own f) fn g (A c a)=some x
theorem eqE_78(a b:ac):zK prog .eql 78 (.d a.pd) (.d b.pd)=some (.bool (((a.az.bI==b.az.bI)&&((a.az.bB==b.az.bB)&&((a.az.bg==b.az.bg)&&((a.az.bL==b.az.bL)&&true))))&&((a.bS==b.bS)&&((a.bA==b.bA)&&((a.bY==b.bY)&&((a.bG==b.bG)&&((a.bM==b.bM)&&true)))))),true):=by kernel_rfl
theorem eqN_78(a b:ac):zK prog .neq 78 (.d a.pd) (.d b.pd)=some (.bool (!(((a.az.bI==b.az.bI)&&((a.az.bB==b.az.bB)&&((a.az.bg==b.az.bg)&&((a.az.bL==b.az.bL)&&true))))&&((a.bS==b.bS)&&((a.bA==b.bA)&&((a.bY==b.bY)&&((a.bG==b.bG)&&((a.bM==b.bM)&&true))))))),true):=by kernel_rfl
theorem fw(a b:bH):zK prog .eql 127 (.d a.pd) (.d b.pd)=some (.bool ((a.a0==b.a0)&&((a.a1==b.a1)&&((a.a2==b.a2)&&true))),true):=by kernel_rfl
theorem T_api_Pick_inj:∀x y:ac,x.pd=y.pd->x=y:=by
  rintro⟨⟨p,z2,z3,z4⟩,z5,q,r,t,z9⟩ ⟨⟨a,c,z12,f⟩,g,j,k,z17,l⟩ h
  cases h;rfl
def ext0:FuncId->Option tI:=λ_=>none
theorem nO{a0:(List UInt8)}{r:Bool}(h:iq a0=some r):EvP prog bj ext0 180 [rS a0] [] (rB r,[]):=by
 refine Ev.body Z func180 Z Zk<|gU Z<|sU<|sN<|gU Z<|mM Z<|sV (rB (!(a0==a0)))<|sA Z<|sN<|qR ?_
 exact oI h▸qD
theorem fH{a0:(List UInt8)}{a1:(List UInt8)}{r:Int}(h:dV a0 a1=some r):EvP prog bj ext0 120 [rS a0,rS a1] [] (rI r,[]):=by
 refine Ev.body Z func120 Z Zk<|gU Z<|sV (r0)<|sN<|gU Z<|sM Z<|bE h λc h1 h=>cD (nO h1)<|sA Z<|sN<|gU Z<|sM Z<|bE h λf a h=>cD (nO a)<|sA Z ?_
 refine sN<|qS<|gU Z<|sF h ?_ ?_<;>intro h
 ·refine sN<|cT<|qS<|gU Z<|sF h ?_ ?_<;>intro h
  ·refine sN<|cT<|gU Z<|sV (r0)<|sN<|qR ?_
   exact oI h▸qD
  refine sN<|cF<|qK<|gU Z<|sV (rI (-1))<|sN<|qR ?_
  exact oI h▸qD
 refine sN<|cF<|qK<|qS<|gU Z<|sF h ?_ ?_<;>intro h
 ·refine sN<|cT<|gU Z<|sV (rI 1)<|sN<|qR ?_
  exact oI h▸qD
 refine sN<|cF<|qK<|qS<|gU Z<|mM Z<|sF h ?_ ?_<;>intro h
 ·refine sN<|cT<|gU Z<|sV (rI (-1))<|sN<|qR ?_
  exact oI h▸qD
 refine sN<|cF<|qK<|qS<|gU Z<|mM Z<|sF h ?_ ?_<;>intro h
 ·refine sN<|cT<|gU Z<|sV (rI 1)<|sN<|qR ?_
  exact oI h▸qD
 refine sN<|cF<|qK<|gU Z<|sV (r0)<|sN<|qR ?_
 exact oI h▸qD
theorem qT{a0:(List Int)}{r:Int}(h:dW a0=some r):EvP prog bj ext0 68 [rL a0] [] (rI r,[]):=by
 refine Ev.body Z func68 Z Zk<|gU Z<|sV (r0)<|sN<|gU Z<|sV (r0)<|sN<|qS<|gU Z<|sM Z<|sE (rI (a0.length:Int)) (uf _ _)<|sV (r0)<|sN<|bE h λl c h=>WC.block (WC.loop (WL.tS c (λs=>gI 0 68 3 [(3,r0),(6,rL a0),(7,rI (a0.length:Int)),(8,rI s)] []) (λo=>match o with| .inl y=>gX 0 0 68 8 [(3,r0)] []| .inr r=>gF 68 f68 0 (rI r,[])) Z ?_ ?_))
 ·rintro s1 j g p a h
  refine gS Z a<|sF h ?_ ?_<;>intro h
  ·refine sN<|qS<|cT<|qK<|qS<|qB<|gU Z<|bE h λt k h=>eG k Z<|sC Z<|sA Z<|sN<|gU Z<|sM Z<|sM Z ?_
   refine sF h ?_ ?_<;>intro h
   ·refine sN<|cT<|gU Z<|sM Z<|sA Z<|sN<|qR ?_
    cases oI h
    exact⟨nofun,rfl,rfl⟩
   refine sN<|cF<|qK<|Gb Z Z<|sV (rI (rW (s1+(1:Int))))<|sM Z<|sN ?_
   cases oI h
   exact⟨rfl,rfl⟩
  refine sN<|qS<|cF<|qX ?_
  cases oI h
  exact⟨nofun,rfl,rfl⟩
 intro e j g he f
 rcases l with u|q
 ·obtain⟨rfl,a⟩:=f
  refine qE<|gS Z a<|sM Z<|sA Z<|sN<|qR ?_
  exact oI h▸qD
 obtain⟨rfl,hf⟩:=f
 cases oI h
 exact hf
theorem sn{a0:bn}{a1:bn}{r:Int}(h:iR a0 a1=some r):EvP prog bj ext0 69 [.d (bn.pd a0),.d (bn.pd a1)] [] (rI r,[]):=by
 refine Ev.body Z func69 Z Zk<|gU Z<|sB (.ptr 32 0) 32 (.var (bn.rc a0))<|sB (.ptr 48 0) 48 (.var (bn.rc a1))<|sV (r0)<|sN<|WC.tw Z Z<|sV (.ptr 32 0)<|sL Z<|sV (.ptr 48 0)<|sL Z<|bE h λj h1 h=>cD (fH h1)<|sV (.ptr 32 1)<|sL Z ?_
 refine sV (.ptr 48 1)<|sL Z<|bE h λk a h=>cD (fH a)<|sV (.ptr 32 2)<|sL Z<|sV (.ptr 48 2)<|sL Z<|bE h λl c h=>cD (fH c)<|sV (.ptr 32 3)<|sL Z<|sV (.ptr 48 3)<|sL Z<|bE h λp f h=>?_
 refine cD (fH f)<|sV (.d (.lst ([j,k,l,p].map (PD.int .i64))))<|bE h λq g h=>cD (qT g)<|sA Z ?_
 refine sN<|sO<|qR ?_
 exact oI h▸qD
theorem oZ{a0:Int}{r:Bool}(h:lL a0=some r):EvP prog bj ext0 121 [rI a0] [] (rB r,[]):=by
 refine Ev.body Z func121 Z Zk<|gU Z<|sU<|sN<|gU Z<|mM Z<|sV (rB (a0 != a0))<|sA Z<|sN<|qR ?_
 exact oI h▸qD
theorem fE{a0:Int}{a1:Int}{r:Int}(h:cn a0 a1=some r):EvP prog bj ext0 70 [rI a0,rI a1] [] (rI r,[]):=by
 refine Ev.body Z func70 Z Zk<|gU Z<|sV (r0)<|sN<|gU Z<|sM Z<|bE h λc h1 h=>cD (oZ h1)<|sA Z<|sN<|gU Z<|sM Z<|bE h λf a h=>cD (oZ a)<|sA Z ?_
 refine sN<|qS<|gU Z<|sF h ?_ ?_<;>intro h
 ·refine sN<|cT<|qS<|gU Z<|sF h ?_ ?_<;>intro h
  ·refine sN<|cT<|gU Z<|sV (r0)<|sN<|qR ?_
   exact oI h▸qD
  refine sN<|cF<|qK<|gU Z<|sV (rI (-1))<|sN<|qR ?_
  exact oI h▸qD
 refine sN<|cF<|qK<|qS<|gU Z<|sF h ?_ ?_<;>intro h
 ·refine sN<|cT<|gU Z<|sV (rI 1)<|sN<|qR ?_
  exact oI h▸qD
 refine sN<|cF<|qK<|qS<|gU Z<|mM Z<|sF h ?_ ?_<;>intro h
 ·refine sN<|cT<|gU Z<|sV (rI (-1))<|sN<|qR ?_
  exact oI h▸qD
 refine sN<|cF<|qK<|qS<|gU Z<|mM Z<|sF h ?_ ?_<;>intro h
 ·refine sN<|cT<|gU Z<|sV (rI 1)<|sN<|qR ?_
  exact oI h▸qD
 refine sN<|cF<|qK<|gU Z<|sV (r0)<|sN<|qR ?_
 exact oI h▸qD
theorem sl{a0:ac}{a1:ac}{r:Int}(h:cJ a0 a1=some r):EvP prog bj ext0 38 [.d (ac.pd a0),.d (ac.pd a1)] [] (rI r,[]):=by
 refine Ev.body Z func38 Z Zk<|gU Z<|sB (.ptr 32 0) 32 (.var (ac.rc a0))<|sB (.ptr 48 0) 48 (.var (ac.rc a1))<|sV (r0)<|sN<|WC.tw Z Z<|sV (.ptr 32 0)<|sV (.d (bn.pd a0.az))<|sV (.ptr 48 0)<|sV (.d (bn.pd a1.az))<|bE h λl h1 h=>cD (sn h1)<|sV (.ptr 32 4)<|sL Z ?_
 refine sV (.ptr 48 4)<|sL Z<|bE h λp a h=>cD (fE a)<|sV (.ptr 32 5)<|sL Z<|sV (.ptr 48 5)<|sL Z<|bE h λq c h=>cD (fE c)<|sV (.ptr 32 6)<|sL Z<|sV (.ptr 48 6)<|sL Z<|bE h λt f h=>?_
 refine cD (fE f)<|sV (.ptr 32 7)<|sL Z<|sV (.ptr 48 7)<|sL Z<|bE h λu g h=>cD (fE g)<|sV (.ptr 32 8)<|sL Z<|sV (.ptr 48 8)<|sL Z<|bE h λx j h=>cD (fE j)<|sV (.d (.lst ([l,p,q,t,u,x].map (PD.int .i64))))<|bE h λy k h=>?_
 refine cD (qT k)<|sA Z ?_
 refine sN<|sO<|qR ?_
 cases oI h
 exact qG
noncomputable def ext:FuncId->Option tI:=λf=>if f=12 then some bentD else if f=37 then some (Da 38 78 ac.pd cJ)else if f=105 then some (wN 78 9 104)else if f=321 then some (wN 75 8 80)else if f=338 then some (wN 129 10 96)else if f=141 then some (wN 3 1 8)else if f=85 then some (AD 3)else if f=6 then some (Cb (rB true))else none
abbrev CEf{α:Type}(m:Option α):=@CE prog bj ext α m
theorem sort_37_38{l r:List ac}(h:xH cJ l=some r):EvP prog bj ext 37 [.ref 0 0,.d (.raw (.func (.func 38) #[] #[]))] [.arr 0 78 (l.map ac.pd)] (.tup [],[.arr 0 78 (r.map ac.pd)]):=sort_ev rfl (sortD_of T_api_Pick_inj h)
instance {l}:CEf (xH cJ l) 37 [.ref 0 0,.d (.raw (.func (.func 38) #[] #[]))] [.arr 0 78 (l.map ac.pd)] λr=>(.tup [],[.arr 0 78 (r.map ac.pd)]):=⟨λh=>sort_37_38 h⟩
theorem sJ{r:Bool}(h:ry=some r):EvP prog bj ext 6 [] [] (rB r,[]):=by cases h;exact Ev.lib (g:=Cb (rB true)) rfl rfl
theorem sortI_85{l r:List Int}(h:vp l=some r):EvP prog bj ext 85 [.ref 0 0] [.arr 0 3 (l.map (PD.int .i64))] (.tup [],[.arr 0 3 (r.map (PD.int .i64))]):=sortI_ev rfl h
instance {l}:CEf (vp l) 85 [.ref 0 0] [.arr 0 3 (l.map (PD.int .i64))] λr=>(.tup [],[.arr 0 3 (r.map (PD.int .i64))]):=⟨λh=>sortI_85 h⟩
theorem clone_105{l r:List ac}(h:uK 104 l=some r):EvP prog bj ext 105 [rM ac.pd l] [] (.ref 0 0,[.arr 0 78 (r.map ac.pd)]):=zO (g:=ac.pd) rfl (λ_=>rfl) h
instance {l}:CEf (uK 104 l) 105 [rM ac.pd l] [] λr=>(.ref 0 0,[.arr 0 78 (r.map ac.pd)]):=⟨λh=>clone_105 h⟩
theorem clone_321{l r:List bi}(h:uK 80 l=some r):EvP prog bj ext 321 [rM bi.pd l] [] (.ref 0 0,[.arr 0 75 (r.map bi.pd)]):=zO (g:=bi.pd) rfl (λ_=>rfl) h
instance {l}:CEf (uK 80 l) 321 [rM bi.pd l] [] λr=>(.ref 0 0,[.arr 0 75 (r.map bi.pd)]):=⟨λh=>clone_321 h⟩
theorem clone_338{l r:List bw}(h:uK 96 l=some r):EvP prog bj ext 338 [rM bw.pd l] [] (.ref 0 0,[.arr 0 129 (r.map bw.pd)]):=zO (g:=bw.pd) rfl (λ_=>rfl) h
instance {l}:CEf (uK 96 l) 338 [rM bw.pd l] [] λr=>(.ref 0 0,[.arr 0 129 (r.map bw.pd)]):=⟨λh=>clone_338 h⟩
theorem clone_141{l r:List Int}(h:uK 8 l=some r):EvP prog bj ext 141 [rL l] [] (.ref 0 0,[.arr 0 3 (r.map (PD.int .i64))]):=zO (g:=(PD.int .i64)) rfl (λ_=>rfl) h
instance {l}:CEf (uK 8 l) 141 [rL l] [] λr=>(.ref 0 0,[.arr 0 3 (r.map (PD.int .i64))]):=⟨λh=>clone_141 h⟩
section
attribute [local irreducible] HM HU HF HB WO WC QS QB vh
instance {a0}:CEf (jp a0) 19 [.d (bc.pd a0)] [] λr=>(rB r,[]):=⟨λh=>Ev.au h func19⟩
instance {a0}:CEf (pc a0) 20 [.d (ak.pd a0)] [] λr=>(rI r,[]):=⟨λh=>Ev.au h func20⟩
instance {a0}:CEf (f8 a0) 4 [.d (ai.pd a0)] [] λr=>(rB r,[]):=⟨λh=>Ev.au h func4⟩
instance {a0}:LI (jK a0) 2 (λs=>[(7,rI s)]) (λs=>[]) (jY 7 (λy=>[]) (λy=>[]) f21 λr=>(rB r,[])):=⟨⟩
instance {a0}:CEf (jg a0) 21 [.d (bv.pd a0)] [] λr=>(rB r,[]):=⟨λh=>Ev.au h func21⟩
instance {a0}:LI (iw a0) 2 (λs=>[(8,rI s)]) (λs=>[]) (jY 13 (λy=>[]) (λy=>[]) f5 λr=>(rB r,[])):=⟨⟩
instance {a a0 s1}:LI (iv a a0 s1) 7 (λs=>[(26,rI s)]) (λs=>[]) (jY 12 (λy=>[(8,rI y)]) (λy=>[]) f5 λr=>(rB r,[])):=⟨⟩
instance {a0}:CEf (ie a0) 5 [.d (ag.pd a0)] [] λr=>(rB r,[]):=⟨λh=>Ev.au h func5⟩
instance {a0}:CEf (sZ a0) 7 [rL a0] [] λr=>(.ptr 0 0,[.var (ah.rc r)]):=⟨λh=>Ev.au h func7⟩
instance {d0}:CEf (sD d0) 57 [.ptr 0 0] [.var (ah.rc d0)] λr=>(rI r.1,[.var (ah.rc r.2)]):=⟨λh=>Ev.au h func57⟩
instance {a0 a1}:CEf (pK a0 a1) 52 [rI a0,rI a1] [] λr=>(rI r,[]):=⟨λh=>Ev.au h func52⟩
instance {a1 d0}:CEf (dS a1 d0) 29 [.ptr 0 0,rI a1] [.var (ah.rc d0)] λr=>(rI r.1,[.var (ah.rc r.2)]):=⟨λh=>Ev.au h func29⟩
instance {a1 d0}:CEf (om a1 d0) 27 [.ptr 0 0,rI a1] [.var (ah.rc d0)] λr=>(.d (aa.pd r.1),[.var (ah.rc r.2)]):=⟨λh=>Ev.au h func27⟩
instance {a1 a2 d0}:CEf (Src_Box a1 a2 d0) 55 [.ptr 0 0,rI a1,rI a2] [.var (ah.rc d0)] λr=>(.d (ak.pd r.1),[.var (ah.rc r.2)]):=⟨λh=>Ev.au h func55⟩
instance {a1 d0}:CEf (em a1 d0) 26 [.ptr 0 0,rL a1] [.var (ah.rc d0)] λr=>(rI r.1,[.var (ah.rc r.2)]):=⟨λh=>Ev.au h func26⟩
instance {a}:LI (pw a) 4 (λs=>[(4,rI s.1),(5,rI s.2.1),(6,rI s.2.2.1)]) (λs=>[(0,.var [rL s.2.2.2.1,rI s.2.2.2.2.1]),(432,.arr 0 3 (s.2.2.2.2.2.1.map (PD.int .i64))),(512,.arr 0 3 (s.2.2.2.2.2.2.map (PD.int .i64)))]) (jX 9 (λo=>[]) λo=>[(0,.var [rL o.1,rI o.2.1]),(432,.arr 0 3 (o.2.2.1.map (PD.int .i64))),(512,.arr 0 3 (o.2.2.2.map (PD.int .i64)))]):=⟨⟩
instance {d0}:CEf (pE d0) 56 [.ptr 0 0] [.var (ah.rc d0)] λr=>(.agg [rI r.1.b9,.ref 1 0,.ref 2 0],[.var (ah.rc r.2),.arr 0 3 (r.1.bo.map (PD.int .i64)),.arr 0 3 (r.1.ba.map (PD.int .i64))]):=⟨λh=>Ev.au h func56⟩
instance {a1 d0}:CEf (lY a1 d0) 24 [.ptr 0 0,rI a1] [.var (ah.rc d0)] λr=>(.d (aw.pd r.1),[.var (ah.rc r.2)]):=⟨λh=>Ev.au h func24⟩
instance {a}:LI (pu a) 3 (λs=>[(17,rI s.1)]) (λs=>[(96,.arr 0 3 (s.2.1.map (PD.int .i64))),(97,.arr 0 3 (s.2.2.map (PD.int .i64)))]) (jX 7 (λo=>[]) λo=>[(96,.arr 0 3 (o.1.map (PD.int .i64))),(97,.arr 0 3 (o.2.map (PD.int .i64)))]):=⟨⟩
instance {d0}:CEf (ru d0) 25 [.ptr 0 0] [.var (ah.rc d0)] λr=>(.d (bK.pd r.1),[.var (ah.rc r.2)]):=⟨λh=>Ev.au h func25⟩
instance {a1 d0}:CEf (oc a1 d0) 8 [.ptr 0 0,rI a1] [.var (ah.rc d0)] λr=>(.d (ai.pd r.1),[.var (ah.rc r.2)]):=⟨λh=>Ev.au h func8⟩
instance :LI (la) 3 (λs=>[(4,rI s.1)]) (λs=>[(0,.var [rL s.2.1,rI s.2.2.1]),(1040,.arr 0 129 (s.2.2.2.map bw.pd))]) (jX 13 (λo=>[]) λo=>[(0,.var [rL o.1,rI o.2.1]),(1040,.arr 0 129 (o.2.2.map bw.pd))]):=⟨⟩
instance {d0}:CEf (i9 d0) 28 [.ptr 0 0] [.var (ah.rc d0)] λr=>(.d (bv.pd r.1),[.var (ah.rc r.2)]):=⟨λh=>Ev.au h func28⟩
instance {a0}:CEf (kf a0) 22 [rI a0] [] λr=>(.d (bn.pd r),[]):=⟨λh=>Ev.au h func22⟩
instance {a1}:LI (nv a1) 3 (λs=>[(6,rI s.1)]) (λs=>[(0,.var [rL s.2.1,rI s.2.2.1]),(1104,.arr 0 67 (s.2.2.2.map av.pd))]) (jX 16 (λo=>[]) λo=>[(0,.var [rL o.1,rI o.2.1]),(1104,.arr 0 67 (o.2.2.map av.pd))]):=⟨⟩
instance {a1 d0}:CEf (oq a1 d0) 9 [.ptr 0 0,rI a1] [.var (ah.rc d0)] λr=>(.d (ag.pd r.1),[.var (ah.rc r.2)]):=⟨λh=>Ev.au h func9⟩
instance {a1 a2 d0}:CEf (oo a1 a2 d0) 58 [.ptr 0 0,rI a1,rI a2] [.var (ah.rc d0)] λr=>(rI r.1,[.var (ah.rc r.2)]):=⟨λh=>Ev.au h func58⟩
instance {a1 d0}:CEf (pD a1 d0) 30 [.ptr 0 0,.d (ak.pd a1)] [.var (ah.rc d0)] λr=>(.d (aa.pd r.1),[.var (ah.rc r.2)]):=⟨λh=>Ev.au h func30⟩
instance {a0 a1 a2}:LI (oG a0 a1 a2) 2 (λs=>[(15,rI s)]) (λs=>[]) (jY 11 (λy=>[]) (λy=>[]) f31 λr=>(.tup [.d (aa.pd r.1),rB r.2],[])):=⟨⟩
instance {a a1 a2 s1}:LI (oF a a1 a2 s1) 5 (λs=>[(22,rI s)]) (λs=>[]) (jY 10 (λy=>[(15,rI y)]) (λy=>[]) f31 λr=>(.tup [.d (aa.pd r.1),rB r.2],[])):=⟨⟩
instance {a0 a1 a2}:CEf (qe a0 a1 a2) 31 [.d (ag.pd a0),.d (bn.pd a1),rI a2] [] λr=>(.tup [.d (aa.pd r.1),rB r.2],[]):=⟨λh=>Ev.au h func31⟩
instance {a0}:CEf (rD a0) 32 [rI a0] [] λr=>(rI r,[]):=⟨λh=>Ev.au h func32⟩
instance {a1 a2}:LI (pr a1 a2) 4 (λs=>[(11,rI s.1),(12,rI s.2.1)]) (λs=>[(0,.var [rL s.2.2.1,rI s.2.2.2.1]),(160,.var [rI s.2.2.2.2.2.1,rI s.2.2.2.2.2.2.1,rI s.2.2.2.2.2.2.2]),(2192,.arr 0 78 (s.2.2.2.2.1.map ac.pd))]) (jX 21 (λo=>[]) λo=>[(0,.var [rL o.2.1,rI o.2.2]),(2192,.arr 0 78 (o.1.map ac.pd))]):=⟨⟩
instance {f l a c g j k}:LI (nu f l a c g j k) 12 (λs=>[(16,rI s)]) (λs=>[]) (jX 14 (λo=>[(11,rI o.1),(12,rI o.2.1),(16,rI o.2.2.1)]) λo=>[(160,.var [rI o.2.2.2.2.1,rI o.2.2.2.2.2.1,rI o.2.2.2.2.2.2]),(2192,.arr 0 78 (o.2.2.2.1.map ac.pd))]):=⟨⟩
instance {a1 a2 a3 d0}:CEf (pC a1 a2 a3 d0) 10 [.ptr 0 0,.d (ai.pd a1),.d (ag.pd a2),rI a3] [.var (ah.rc d0)] λr=>(rM ac.pd r.1,[.var (ah.rc r.2)]):=⟨λh=>Ev.au h func10⟩
instance {a1 d0}:CEf (sw a1 d0) 33 [.ptr 0 0,.d (ak.pd a1)] [.var (ah.rc d0)] λr=>(.d (ak.pd r.1),[.var (ah.rc r.2)]):=⟨λh=>Ev.au h func33⟩
instance {a1 d0}:CEf (lJ a1 d0) 34 [.ptr 0 0,.d (bc.pd a1)] [.var (ah.rc d0)] λr=>(.d (bc.pd r.1),[.var (ah.rc r.2)]):=⟨λh=>Ev.au h func34⟩
end
theorem rN{a1:ai}{d0:ah}{r:ai×ah}(h:k9 a1 d0=some r):EvP prog bj ext 11 [.ptr 0 0,.d (ai.pd a1)] [.var (ah.rc d0)] (.d (ai.pd r.1),[.var (ah.rc r.2)]):=by
 refine Ev.body Z func11 Z Zk<|gU Z<|sB (.ptr 48 0) 48 (.var (ai.rc a1))<|sB (.ptr 64 0) 64 (.var [r0,r0,r0,r0,r0,r0,r0,.tC,.tC,r0,r0,r0,r0,r0,r0,.tC,.tC,r0,r0,r0])<|sN<|qS<|gU Z<|sM Z<|bE h λq h1 h=>cR (rI q.1) [(0,.var (ah.rc q.2))] (ce h1)<|sN<|qB<|gU Z<|sF h ?_ ?_<;>intro h
 ·refine sA Z<|sN<|cT<|Gb Z Z<|sM Z<|sV (.ptr 48 0)<|sV (.ptr 48 0)<|sV (.d (ak.pd a1.ae.bt))<|bE h λg t h=>cR (.d (ak.pd g.1)) [(0,.var (ah.rc g.2))] (ce t)<|sV (.ptr 48 0)<|sV (.ptr 48 0)<|sH 48 (.var (ak.rc g.1++bc.rc a1.ae.bP++rI a1.ae.eV::rI a1.ae.bD::rI a1.ae.df::rI a1.ae.dH::rI a1.ae.de::bK.rc a1.bX++[rI a1.bD]))<|sN<|gU Z ?_
  refine sV (.d (ai.pd (ai.mk (aw.mk g.1 a1.ae.bP a1.ae.eV a1.ae.bD a1.ae.df a1.ae.dH a1.ae.de) a1.bX a1.bD)))<|sH 64 (.var (ak.rc g.1++bc.rc a1.ae.bP++rI a1.ae.eV::rI a1.ae.bD::rI a1.ae.df::rI a1.ae.dH::rI a1.ae.de::bK.rc a1.bX++[rI a1.bD]))<|sN<|qR ?_
  cases oI h
  exact qG
 refine sA Z<|sN<|cF<|gU Z<|sF h ?_ ?_<;>intro h
 ·refine sA Z<|sN<|cT<|Gb Z Z<|sM Z<|sV (.ptr 48 0)<|sV (.ptr 48 6)<|sV (.d (bc.pd a1.ae.bP))<|bE h λf u h=>cR (.d (bc.pd f.1)) [(0,.var (ah.rc f.2))] (ce u)<|sV (.ptr 48 0)<|sV (.ptr 48 6)<|sS 48 (.var (ak.rc a1.ae.bt++bc.rc f.1++rI a1.ae.eV::rI a1.ae.bD::rI a1.ae.df::rI a1.ae.dH::rI a1.ae.de::bK.rc a1.bX++[rI a1.bD]))<|sN<|gU Z ?_
  refine sV (.d (.agg [.int .i64 a1.ae.bt.bo.fX,.int .i64 a1.ae.bt.bo.fY,.int .i64 a1.ae.bt.bo.fZ,.int .i64 a1.ae.bt.ba.fX,.int .i64 a1.ae.bt.ba.fY,.int .i64 a1.ae.bt.ba.fZ,.int .i64 f.1.b9,.lst (f.1.bo.map (PD.int .i64)),.lst (f.1.ba.map (PD.int .i64)),.int .i64 a1.ae.eV,.int .i64 a1.ae.bD,.int .i64 a1.ae.df,.int .i64 a1.ae.dH,.int .i64 a1.ae.de,.int .i64 a1.bX.bN.b9,.lst (a1.bX.bN.bo.map (PD.int .i64)),.lst (a1.bX.bN.ba.map (PD.int .i64)),.int .i64 a1.bX.bR,.int .i64 a1.bX.bO,.int .i64 a1.bD]))<|sH 64 (.var (ak.rc a1.ae.bt++bc.rc f.1++rI a1.ae.eV::rI a1.ae.bD::rI a1.ae.df::rI a1.ae.dH::rI a1.ae.de::bK.rc a1.bX++[rI a1.bD]))<|sN<|qR ?_
  cases oI h
  exact qG
 refine sA Z<|sN<|cF<|gU Z<|sF h ?_ ?_<;>intro h
 ·refine sA Z<|sN<|cT<|Gb Z Z<|sM Z<|sV (.d (.lst ([-1,0,1099511627776,1099511627777].map (PD.int .i64))))<|bE h λj x h=>cR (rI j.1) [(0,.var (ah.rc j.2))] (ce x)<|sV (.ptr 48 0)<|sV (.ptr 48 9)<|sS 48 (.var (ak.rc a1.ae.bt++bc.rc a1.ae.bP++rI j.1::rI a1.ae.bD::rI a1.ae.df::rI a1.ae.dH::rI a1.ae.de::bK.rc a1.bX++[rI a1.bD]))<|sN<|gU Z<|sV (.d (ai.pd (ai.mk (aw.mk a1.ae.bt a1.ae.bP j.1 a1.ae.bD a1.ae.df a1.ae.dH a1.ae.de) a1.bX a1.bD)))<|sH 64 (.var (ak.rc a1.ae.bt++bc.rc a1.ae.bP++rI j.1::rI a1.ae.bD::rI a1.ae.df::rI a1.ae.dH::rI a1.ae.de::bK.rc a1.bX++[rI a1.bD])) ?_
  refine sN<|qR ?_
  cases oI h
  exact qG
 refine sA Z<|sN<|cF<|gU Z<|sF h ?_ ?_<;>intro h
 ·refine sA Z<|sN<|cT<|Gb Z Z<|sM Z<|sV (.d (.lst ([-1,0,1099511627776,1099511627777].map (PD.int .i64))))<|bE h λk y h=>cR (rI k.1) [(0,.var (ah.rc k.2))] (ce y)<|sV (.ptr 48 19)<|sS 48 (.var (aw.rc a1.ae++bK.rc a1.bX++[rI k.1]))<|sN<|gU Z<|sV (.d (ai.pd (ai.mk a1.ae a1.bX k.1)))<|sH 64 (.var (aw.rc a1.ae++bK.rc a1.bX++[rI k.1]))<|sN ?_
  refine qR ?_
  cases oI h
  exact qG
 refine sA Z<|sN<|cF<|gU Z<|sF h ?_ ?_<;>intro h
 ·refine sA Z<|sN<|cT<|Gb Z Z<|sM Z<|sV (.ptr 48 14)<|sV (.ptr 48 14)<|sV (.d (bc.pd a1.bX.bN))<|bE h λa l h=>cR (.d (bc.pd a.1)) [(0,.var (ah.rc a.2))] (ce l)<|sV (.ptr 48 14)<|sV (.ptr 48 14)<|sS 48 (.var (aw.rc a1.ae++bc.rc a.1++[rI a1.bX.bR,rI a1.bX.bO,rI a1.bD]))<|sN<|gU Z ?_
  refine sV (.d (.agg [.int .i64 a1.ae.bt.bo.fX,.int .i64 a1.ae.bt.bo.fY,.int .i64 a1.ae.bt.bo.fZ,.int .i64 a1.ae.bt.ba.fX,.int .i64 a1.ae.bt.ba.fY,.int .i64 a1.ae.bt.ba.fZ,.int .i64 a1.ae.bP.b9,.lst (a1.ae.bP.bo.map (PD.int .i64)),.lst (a1.ae.bP.ba.map (PD.int .i64)),.int .i64 a1.ae.eV,.int .i64 a1.ae.bD,.int .i64 a1.ae.df,.int .i64 a1.ae.dH,.int .i64 a1.ae.de,.int .i64 a.1.b9,.lst (a.1.bo.map (PD.int .i64)),.lst (a.1.ba.map (PD.int .i64)),.int .i64 a1.bX.bR,.int .i64 a1.bX.bO,.int .i64 a1.bD]))<|sH 64 (.var (aw.rc a1.ae++bc.rc a.1++[rI a1.bX.bR,rI a1.bX.bO,rI a1.bD]))<|sN<|qR ?_
  cases oI h
  exact qG
 refine sA Z<|sN<|cF<|Gb Z Z<|sM Z<|sV (.d (.lst ([-1,0,1,65536,65537].map (PD.int .i64))))<|bE h λc p h=>cR (rI c.1) [(0,.var (ah.rc c.2))] (ce p)<|sV (.ptr 48 14)<|sV (.ptr 48 18)<|sS 48 (.var (aw.rc a1.ae++bc.rc a1.bX.bN++[rI a1.bX.bR,rI c.1,rI a1.bD]))<|sN<|gU Z<|sV (.d (ai.pd (ai.mk a1.ae (bK.mk a1.bX.bN a1.bX.bR c.1) a1.bD)))<|sH 64 (.var (aw.rc a1.ae++bc.rc a1.bX.bN++[rI a1.bX.bR,rI c.1,rI a1.bD])) ?_
 refine sN<|qR ?_
 cases oI h
 exact qG
theorem qN{a1:ag}{d0:ah}{r:ag×ah}(h:dT a1 d0=some r):EvP prog bj ext 12 [.ptr 0 0,.d (ag.pd a1)] [.var (ah.rc d0)] (.d (ag.pd r.1),[.var (ah.rc r.2)]):=bentD_ev rfl h
section
attribute [local irreducible] HM HU HF HB WO WC QS QB vh
instance {a0}:CEf (cb a0) 191 [.d (aa.pd a0)] [] λr=>(.d (bH.pd r),[]):=⟨λh=>Ev.au h func191⟩
instance {a0}:CEf (er a0) 190 [.d (aa.pd a0)] [] λr=>(rB r,[]):=⟨λh=>Ev.au h func190⟩
instance {a0}:CEf (co a0) 132 [.d (ak.pd a0)] [] λr=>(rB r,[]):=⟨λh=>Ev.au h func132⟩
instance {a0}:LI (lI a0) 6 (λs=>[(4,rI s.1),(5,rI s.2.1),(34,rI s.2.2)]) (λs=>[]) (jY 12 (λy=>[]) (λy=>[]) f133 λr=>(rI r,[])):=⟨⟩
instance {a0}:CEf (dO a0) 133 [.d (bc.pd a0)] [] λr=>(rI r,[]):=⟨λh=>Ev.au h func133⟩
instance {a0 a1 a2}:CEf (ja a0 a1 a2) 134 [rI a0,rI a1,rI a2] [] λr=>(rB r,[]):=⟨λh=>Ev.au h func134⟩
instance {a0}:CEf (io a0) 192 [.d (al.pd a0)] [] λr=>(rB r,[]):=⟨λh=>Ev.au h func192⟩
instance {a0 a1 a2}:CEf (fT a0 a1 a2) 216 [rI a0,rI a1,rI a2] [] λr=>(rI r,[]):=⟨λh=>Ev.au h func216⟩
instance {a0 a1}:CEf (fI a0 a1) 215 [.d (ak.pd a0),.d (aa.pd a1),.d (.raw (.func (.func 216) #[] #[]))] [] λr=>(rI r,[]):=⟨λh=>Ev.au h func215⟩
instance {a0 a1}:CEf (fN a0 a1) 143 [.d (ak.pd a0),.d (aa.pd a1)] [] λr=>(rI r,[]):=⟨λh=>Ev.au h func143⟩
instance {a0 a1 a2}:CEf (fx a0 a1 a2) 217 [rI a0,rI a1,rI a2] [] λr=>(rI r,[]):=⟨λh=>Ev.au h func217⟩
instance {a0 a1}:CEf (fy a0 a1) 215 [.d (ak.pd a0),.d (aa.pd a1),.d (.raw (.func (.func 217) #[] #[]))] [] λr=>(rI r,[]):=⟨λh=>Ev.au h func215⟩
instance {a0 a1}:CEf (je a0 a1) 144 [.d (ak.pd a0),.d (aa.pd a1)] [] λr=>(rI r,[]):=⟨λh=>Ev.au h func144⟩
instance {a0 a1 a2}:CEf (lK a0 a1 a2) 258 [.d (bc.pd a0),.d (ak.pd a1),.d (aa.pd a2)] [] λr=>(.tup [.d (bc.pd r.1),rI r.2.1,rI r.2.2],[]):=⟨λh=>Ev.au h func258⟩
instance {a0}:CEf (sf a0) 119 [.d (.int .u64 a0)] [] λr=>(rI r,[]):=⟨λh=>Ev.au h func119⟩
instance {a0}:CEf (nN a0) 67 [.d (.int .u64 a0)] [] λr=>(rI r,[]):=⟨λh=>Ev.au h func67⟩
instance {a0}:LI (jf a0) 5 (λs=>[(3,rI s.1),(4,rI s.2)]) (λs=>[]) (jX 10 (λo=>[(3,rI o)]) λo=>[]):=⟨⟩
instance {a0}:CEf (ir a0) 275 [rI a0] [] λr=>(rI r,[]):=⟨λh=>Ev.au h func275⟩
instance {a0}:CEf (fM a0) 271 [rI a0] [] λr=>(rI r,[]):=⟨λh=>Ev.au h func271⟩
instance {a0}:CEf (ol a0) 272 [.d (bc.pd a0)] [] λr=>(rI r,[]):=⟨λh=>Ev.au h func272⟩
instance {a0 d0 d1}:CEf (lH a0 d0 d1) 274 [rI a0,.ptr 0 0,.ptr 1 0] [.var (bc.rc d0),.var [rI d1]] λr=>(rB r,[.var (bc.rc d0),.var [rI d1]]):=⟨λh=>Ev.au h func274⟩
instance {d0 d1}:LI (lG d0 d1) 2 (λs=>[(5,rI s.1),(6,rI s.2)]) (λs=>[]) (jX 7 (λo=>[(5,rI o)]) λo=>[]):=⟨⟩
instance {a0 d0 d1}:CEf (lz a0 d0 d1) 273 [rI a0,.clo 274 [.ptr 0 0,.ptr 1 0]] [.var (bc.rc d0),.var [rI d1]] λr=>(rI r,[.var (bc.rc d0),.var [rI d1]]):=⟨λh=>Ev.au h func273⟩
instance {a0 a1 a2}:CEf (fq a0 a1 a2) 211 [.d (bc.pd a0),rI a1,rI a2] [] λr=>(.tup [rI r.1,rI r.2.1,rI r.2.2],[]):=⟨λh=>Ev.au h func211⟩
instance {a0 a1 a2}:CEf (dI a0 a1 a2) 193 [.d (bc.pd a0),.d (ak.pd a1),.d (aa.pd a2)] [] λr=>(.tup [rI r.1,rI r.2.1,rI r.2.2],[]):=⟨λh=>Ev.au h func193⟩
instance {a0 a1 a2}:CEf (jd a0 a1 a2) 135 [.d (bc.pd a0),.d (ak.pd a1),.d (al.pd a2)] [] λr=>(.tup [.d (bC.pd r.1),rI r.2],[]):=⟨λh=>Ev.au h func135⟩
instance {a1 a0}:LI (dG a1 a0) 6 (λs=>[(54,rI s)]) (λs=>[]) (jY 12 (λy=>[]) (λy=>[]) f77 λr=>(rI r,[])):=⟨⟩
instance {a0 a1}:CEf (ex a0 a1) 77 [.d (aw.pd a0),rM al.pd a1] [] λr=>(rI r,[]):=⟨λh=>Ev.au h func77⟩
instance {a0}:CEf (dC a0) 102 [.d (bK.pd a0)] [] λr=>(rB r,[]):=⟨λh=>Ev.au h func102⟩
instance {a0}:CEf (ek a0) 59 [.d (ai.pd a0)] [] λr=>(rI r,[]):=⟨λh=>Ev.au h func59⟩
instance {a0}:CEf (oj a0) 242 [.d (.int .u8 a0)] [] λr=>(rB r,[]):=⟨λh=>Ev.au h func242⟩
instance {a0}:LI (kZ a0) 2 (λs=>[(10,rI s)]) (λs=>[]) (jY 7 (λy=>[]) (λy=>[]) f168 λr=>(rB r,[])):=⟨⟩
instance {a0 a1 a2}:CEf (kY a0 a1 a2) 168 [rS a0,rI a1,rI a2] [] λr=>(rB r,[]):=⟨λh=>Ev.au h func168⟩
instance {a0}:CEf (lB a0) 103 [.d (bn.pd a0)] [] λr=>(rB r,[]):=⟨λh=>Ev.au h func103⟩
instance {a0 a1 a2}:CEf (rJ a0 a1 a2) 288 [rI a0,rI a1,rI a2] [] λr=>(rB r,[]):=⟨λh=>Ev.au h func288⟩
instance :LI (pf) 1 (λs=>[(0,rI s.1),(1,rI s.2)]) (λs=>[]) (jX 3 (λo=>[(0,rI o)]) λo=>[]):=⟨⟩
instance {a0 a1}:CEf (pP a0 a1) 289 [rI a0,rI a1] [] λr=>(rI r,[]):=⟨λh=>Ev.au h func289⟩
instance {a0}:CEf (ni a0) 243 [.d (cd.pd a0)] [] λr=>(rB r,[]):=⟨λh=>Ev.au h func243⟩
instance {a0 a1 a2}:CEf (cX a0 a1 a2) 307 [rI a0,rI a1,rI a2] [] λr=>(rB r,[]):=⟨λh=>Ev.au h func307⟩
instance {a0}:CEf (il a0) 337 [rI a0] [] λr=>(rB r,[]):=⟨λh=>Ev.au h func337⟩
instance {a0}:LI (cH a0) 2 (λs=>[(8,rI s)]) (λs=>[]) (jY 7 (λy=>[]) (λy=>[]) f346 λr=>(rI r,[])):=⟨⟩
instance {a0}:CEf (eX a0) 346 [rL a0,.d (.raw (.func (.func 337) #[] #[]))] [] λr=>(rI r,[]):=⟨λh=>Ev.au h func346⟩
instance {a0}:CEf (ew a0) 336 [rL a0,.d (.raw (.func (.func 337) #[] #[]))] [] λr=>(rB r,[]):=⟨λh=>Ev.au h func336⟩
instance {a0}:CEf (dm a0) 319 [rL a0] [] λr=>(rB r,[]):=⟨λh=>Ev.au h func319⟩
instance {a0}:LI (jy a0) 3 (λs=>[(3,rI s.1),(8,rI s.2)]) (λs=>[]) (jX 7 (λo=>[(3,rI o)]) λo=>[]):=⟨⟩
instance {a0}:CEf (dU a0) 320 [rL a0] [] λr=>(rI r,[]):=⟨λh=>Ev.au h func320⟩
end
end Go.Dw.Ef
