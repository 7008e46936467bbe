
import Derived.Test.YtfmoipelhfkdkaaGreatDoorDwHole
import Derived.Test.YtfmoipelhfkdkaaGreatDoorDwSortIP
import Derived.Test.YtfmoipelhfkdkaaGreatDoorDwSort
import Derived.Lib.Join
import Derived.Lib.ItoaNum
set_option linter.unusedVariables false
set_option linter.unusedSimpArgs false
open Go.IntKind renaming wrap->FN
open Int renaming toNat->FT

namespace Go.Dw.Re
open Go.Dw
noncomputable section
structure ai where
  fL:(List Int)
  fAt:Int
  deriving DecidableEq
def ai.pd(x:ai):PD:= .agg [.lst (x.fL.map (PD.int .i64)),.int .i64 x.fAt]
structure ag where
  fX:Int
  fY:Int
  fZ:Int
  deriving DecidableEq
def ag.pd(x:ag):PD:= .agg [.int .i64 x.fX,.int .i64 x.fY,.int .i64 x.fZ]
structure al where
  bt:ag
  bd:ag
  deriving DecidableEq
def al.pd(x:al):PD:= .agg [.int .i64 x.bt.fX,.int .i64 x.bt.fY,.int .i64 x.bt.fZ,.int .i64 x.bd.fX,.int .i64 x.bd.fY,.int .i64 x.bd.fZ]
structure bc where
  bR:Int
  bt:(List Int)
  bd:(List Int)
  deriving DecidableEq
def bc.pd(x:bc):PD:= .agg [.int .i64 x.bR,.lst (x.bt.map (PD.int .i64)),.lst (x.bd.map (PD.int .i64))]
structure bh where
  bn:al
  bJ:bc
  dw:Int
  bA:Int
  cw:Int
  dT:Int
  cq:Int
  deriving DecidableEq
def bh.pd(x:bh):PD:= .agg [.int .i64 x.bn.bt.fX,.int .i64 x.bn.bt.fY,.int .i64 x.bn.bt.fZ,.int .i64 x.bn.bd.fX,.int .i64 x.bn.bd.fY,.int .i64 x.bn.bd.fZ,.int .i64 x.bJ.bR,.lst (x.bJ.bt.map (PD.int .i64)),.lst (x.bJ.bd.map (PD.int .i64)),.int .i64 x.dw,.int .i64 x.bA,.int .i64 x.cw,.int .i64 x.dT,.int .i64 x.cq]
structure bO where
  bF:bc
  cf:Int
  bY:Int
  deriving DecidableEq
def bO.pd(x:bO):PD:= .agg [.int .i64 x.bF.bR,.lst (x.bF.bt.map (PD.int .i64)),.lst (x.bF.bd.map (PD.int .i64)),.int .i64 x.cf,.int .i64 x.bY]
structure ah where
  ac:bh
  bQ:bO
  bA:Int
  deriving DecidableEq
def ah.pd(x:ah):PD:= .agg [.int .i64 x.ac.bn.bt.fX,.int .i64 x.ac.bn.bt.fY,.int .i64 x.ac.bn.bt.fZ,.int .i64 x.ac.bn.bd.fX,.int .i64 x.ac.bn.bd.fY,.int .i64 x.ac.bn.bd.fZ,.int .i64 x.ac.bJ.bR,.lst (x.ac.bJ.bt.map (PD.int .i64)),.lst (x.ac.bJ.bd.map (PD.int .i64)),.int .i64 x.ac.dw,.int .i64 x.ac.bA,.int .i64 x.ac.cw,.int .i64 x.ac.dT,.int .i64 x.ac.cq,.int .i64 x.bQ.bF.bR,.lst (x.bQ.bF.bt.map (PD.int .i64)),.lst (x.bQ.bF.bd.map (PD.int .i64)),.int .i64 x.bQ.cf,.int .i64 x.bQ.bY,.int .i64 x.bA]
structure bi where
  bI:(List UInt8)
  bw:(List UInt8)
  ba:(List UInt8)
  bL:(List UInt8)
  deriving DecidableEq
def bi.pd(x:bi):PD:= .agg [.str x.bI,.str x.bw,.str x.ba,.str x.bL]
structure cA where
  cf:Int
  bY:Int
  deriving DecidableEq
def cA.pd(x:cA):PD:= .agg [.int .i64 x.cf,.int .i64 x.bY]
structure bN where
  a0:Int
  a1:Int
  a2:Int
  deriving DecidableEq
def bN.pd(x:bN):PD:= .agg [.int .i64 x.a0,.int .i64 x.a1,.int .i64 x.a2]
structure bg where
  jZ:Int
  cf:bN
  bY:bN
  ep:(List Int)
  eE:Int
  eT:Int
  deriving DecidableEq
def bg.pd(x:bg):PD:= .agg [.int .i64 x.jZ,.int .i64 x.cf.a0,.int .i64 x.cf.a1,.int .i64 x.cf.a2,.int .i64 x.bY.a0,.int .i64 x.bY.a1,.int .i64 x.bY.a2,.lst (x.ep.map (PD.int .i64)),.int .i64 x.eE,.int .i64 x.eT]
structure bu where
  cQ:(List bg)
  deriving DecidableEq
def bu.pd(x:bu):PD:= .agg [.lst (x.cQ.map bg.pd)]
structure az where
  b7:Int
  fTo:Int
  nl:cA
  bU:ag
  bV:bu
  deriving DecidableEq
def az.pd(x:az):PD:= .agg [.int .i64 x.b7,.int .i64 x.fTo,.int .i64 x.nl.cf,.int .i64 x.nl.bY,.int .i64 x.bU.fX,.int .i64 x.bU.fY,.int .i64 x.bU.fZ,.lst (x.bV.cQ.map bg.pd)]
structure aj where
  a7:bi
  cn:(List az)
  deriving DecidableEq
def aj.pd(x:aj):PD:= .agg [.str x.a7.bI,.str x.a7.bw,.str x.a7.ba,.str x.a7.bL,.lst (x.cn.map az.pd)]
structure ae where
  a8:(List aj)
  deriving DecidableEq
def ae.pd(x:ae):PD:= .agg [.lst (x.a8.map aj.pd)]
structure aa where
  a7:bi
  bS:Int
  bv:Int
  cg:Int
  bG:Int
  bT:Int
  deriving DecidableEq
def aa.pd(x:aa):PD:= .agg [.str x.a7.bI,.str x.a7.bw,.str x.a7.ba,.str x.a7.bL,.int .i64 x.bS,.int .i64 x.bv,.int .i64 x.cg,.int .i64 x.bG,.int .i64 x.bT]
structure ap where
  bM:ag
  bS:Int
  b8:Int
  mn:Int
  ch:al
  deriving DecidableEq
def ap.pd(x:ap):PD:= .agg [.int .i64 x.bM.fX,.int .i64 x.bM.fY,.int .i64 x.bM.fZ,.int .i64 x.bS,.int .i64 x.b8,.int .i64 x.mn,.int .i64 x.ch.bt.fX,.int .i64 x.ch.bt.fY,.int .i64 x.ch.bt.fZ,.int .i64 x.ch.bd.fX,.int .i64 x.ch.bd.fY,.int .i64 x.ch.bd.fZ]
structure bo where
  bt:Int
  bd:Int
  deriving DecidableEq
def bo.pd(x:bo):PD:= .agg [.int .i64 x.bt,.int .i64 x.bd]
structure bH where
  ew:(List aa)
  ba:ap
  fc:bo
  qA:Int
  deriving DecidableEq
def bH.pd(x:bH):PD:= .agg [.lst (x.ew.map aa.pd),.int .i64 x.ba.bM.fX,.int .i64 x.ba.bM.fY,.int .i64 x.ba.bM.fZ,.int .i64 x.ba.bS,.int .i64 x.ba.b8,.int .i64 x.ba.mn,.int .i64 x.ba.ch.bt.fX,.int .i64 x.ba.ch.bt.fY,.int .i64 x.ba.ch.bt.fZ,.int .i64 x.ba.ch.bd.fX,.int .i64 x.ba.ch.bd.fY,.int .i64 x.ba.ch.bd.fZ,.int .i64 x.fc.bt,.int .i64 x.fc.bd,.int .i64 x.qA]
structure ar where
  eR:aa
  cU:bH
  deriving DecidableEq
def ar.pd(x:ar):PD:= .agg [.str x.eR.a7.bI,.str x.eR.a7.bw,.str x.eR.a7.ba,.str x.eR.a7.bL,.int .i64 x.eR.bS,.int .i64 x.eR.bv,.int .i64 x.eR.cg,.int .i64 x.eR.bG,.int .i64 x.eR.bT,.lst (x.cU.ew.map aa.pd),.int .i64 x.cU.ba.bM.fX,.int .i64 x.cU.ba.bM.fY,.int .i64 x.cU.ba.bM.fZ,.int .i64 x.cU.ba.bS,.int .i64 x.cU.ba.b8,.int .i64 x.cU.ba.mn,.int .i64 x.cU.ba.ch.bt.fX,.int .i64 x.cU.ba.ch.bt.fY,.int .i64 x.cU.ba.ch.bt.fZ,.int .i64 x.cU.ba.ch.bd.fX,.int .i64 x.cU.ba.ch.bd.fY,.int .i64 x.cU.ba.ch.bd.fZ,.int .i64 x.cU.fc.bt,.int .i64 x.cU.fc.bd,.int .i64 x.cU.qA]
structure bq where
  ew:(List aa)
  gx:(List ar)
  pp:(List aa)
  deriving DecidableEq
def bq.pd(x:bq):PD:= .agg [.lst (x.ew.map aa.pd),.lst (x.gx.map ar.pd),.lst (x.pp.map aa.pd)]
structure av where
  bp:ah
  co:ae
  bP:(List bq)
  deriving DecidableEq
def av.pd(x:av):PD:= .agg [.int .i64 x.bp.ac.bn.bt.fX,.int .i64 x.bp.ac.bn.bt.fY,.int .i64 x.bp.ac.bn.bt.fZ,.int .i64 x.bp.ac.bn.bd.fX,.int .i64 x.bp.ac.bn.bd.fY,.int .i64 x.bp.ac.bn.bd.fZ,.int .i64 x.bp.ac.bJ.bR,.lst (x.bp.ac.bJ.bt.map (PD.int .i64)),.lst (x.bp.ac.bJ.bd.map (PD.int .i64)),.int .i64 x.bp.ac.dw,.int .i64 x.bp.ac.bA,.int .i64 x.bp.ac.cw,.int .i64 x.bp.ac.dT,.int .i64 x.bp.ac.cq,.int .i64 x.bp.bQ.bF.bR,.lst (x.bp.bQ.bF.bt.map (PD.int .i64)),.lst (x.bp.bQ.bF.bd.map (PD.int .i64)),.int .i64 x.bp.bQ.cf,.int .i64 x.bp.bQ.bY,.int .i64 x.bp.bA,.lst (x.co.a8.map aj.pd),.lst (x.bP.map bq.pd)]
structure aw where
  bw:ag
  bv:Int
  cg:Int
  cz:Int
  deriving DecidableEq
def aw.pd(x:aw):PD:= .agg [.int .i64 x.bw.fX,.int .i64 x.bw.fY,.int .i64 x.bw.fZ,.int .i64 x.bv,.int .i64 x.cg,.int .i64 x.cz]
structure bz where
  b7:Int
  fTo:Int
  deriving DecidableEq
def bz.pd(x:bz):PD:= .agg [.int .i64 x.b7,.int .i64 x.fTo]
structure bB where
  dg:(List Int)
  bM:ag
  bS:Int
  deriving DecidableEq
def bB.pd(x:bB):PD:= .agg [.lst (x.dg.map (PD.int .i64)),.int .i64 x.bM.fX,.int .i64 x.bM.fY,.int .i64 x.bM.fZ,.int .i64 x.bS]
structure cx where
  fnext:(List Int)
  fback:(List Int)
  deriving DecidableEq
def cx.pd(x:cx):PD:= .agg [.lst (x.fnext.map (PD.int .i64)),.lst (x.fback.map (PD.int .i64))]
structure ak where
  bn:al
  bJ:bc
  bK:(List aw)
  dw:Int
  deriving DecidableEq
def ak.pd(x:ak):PD:= .agg [.int .i64 x.bn.bt.fX,.int .i64 x.bn.bt.fY,.int .i64 x.bn.bt.fZ,.int .i64 x.bn.bd.fX,.int .i64 x.bn.bd.fY,.int .i64 x.bn.bd.fZ,.int .i64 x.bJ.bR,.lst (x.bJ.bt.map (PD.int .i64)),.lst (x.bJ.bd.map (PD.int .i64)),.lst (x.bK.map aw.pd),.int .i64 x.dw]
structure aq where
  mI:al
  dx:Int
  mo:Int
  deriving DecidableEq
def aq.pd(x:aq):PD:= .agg [.int .i64 x.mI.bt.fX,.int .i64 x.mI.bt.fY,.int .i64 x.mI.bt.fZ,.int .i64 x.mI.bd.fX,.int .i64 x.mI.bd.fY,.int .i64 x.mI.bd.fZ,.int .i64 x.dx,.int .i64 x.mo]
structure cm where
  fp:ak
  mp:(List aq)
  mo:Int
  ftaken:Int
  ffound:Bool
  cu:ap
  deriving DecidableEq
def cm.pd(x:cm):PD:= .agg [.int .i64 x.fp.bn.bt.fX,.int .i64 x.fp.bn.bt.fY,.int .i64 x.fp.bn.bt.fZ,.int .i64 x.fp.bn.bd.fX,.int .i64 x.fp.bn.bd.fY,.int .i64 x.fp.bn.bd.fZ,.int .i64 x.fp.bJ.bR,.lst (x.fp.bJ.bt.map (PD.int .i64)),.lst (x.fp.bJ.bd.map (PD.int .i64)),.lst (x.fp.bK.map aw.pd),.int .i64 x.fp.dw,.lst (x.mp.map aq.pd),.int .i64 x.mo,.int .i64 x.ftaken,.bool x.ffound,.int .i64 x.cu.bM.fX,.int .i64 x.cu.bM.fY,.int .i64 x.cu.bM.fZ,.int .i64 x.cu.bS,.int .i64 x.cu.b8,.int .i64 x.cu.mn,.int .i64 x.cu.ch.bt.fX,.int .i64 x.cu.ch.bt.fY,.int .i64 x.cu.ch.bt.fZ,.int .i64 x.cu.ch.bd.fX,.int .i64 x.cu.ch.bd.fY,.int .i64 x.cu.ch.bd.fZ]
structure bD where
  gE:(List aa)
  fj:(List aw)
  kb:(List az)
  deriving DecidableEq
def bD.pd(x:bD):PD:= .agg [.lst (x.gE.map aa.pd),.lst (x.fj.map aw.pd),.lst (x.kb.map az.pd)]
structure bC where
  cf:(List Int)
  bY:(List Int)
  deriving DecidableEq
def bC.pd(x:bC):PD:= .agg [.lst (x.cf.map (PD.int .i64)),.lst (x.bY.map (PD.int .i64))]
structure ey where
  deriving DecidableEq
def ey.pd(x:ey):PD:= .agg []
structure A4_Int where
  a0:Int
  a1:Int
  a2:Int
  a3:Int
  deriving DecidableEq
def A4_Int.pd(x:A4_Int):PD:= .agg [.int .i64 x.a0,.int .i64 x.a1,.int .i64 x.a2,.int .i64 x.a3]
structure oJ where
  a0:Int
  a1:Int
  deriving DecidableEq
def oJ.pd(x:oJ):PD:= .agg [.int .i64 x.a0,.int .i64 x.a1]
structure qd where
  a0:oJ
  a1:oJ
  a2:oJ
  a3:oJ
  a4:oJ
  deriving DecidableEq
def qd.pd(x:qd):PD:= .agg [.int .i64 x.a0.a0,.int .i64 x.a0.a1,.int .i64 x.a1.a0,.int .i64 x.a1.a1,.int .i64 x.a2.a0,.int .i64 x.a2.a1,.int .i64 x.a3.a0,.int .i64 x.a3.a1,.int .i64 x.a4.a0,.int .i64 x.a4.a1]
def oB(a b:aa):Bool:=(((a.a7.bI==b.a7.bI)&&((a.a7.bw==b.a7.bw)&&((a.a7.ba==b.a7.ba)&&((a.a7.bL==b.a7.bL)&&true))))&&((a.bS==b.bS)&&((a.bv==b.bv)&&((a.cg==b.cg)&&((a.bG==b.bG)&&((a.bT==b.bT)&&true))))))
def ko(a0:(List Int)):Option (ai):=
  (zq a0 0 (if 2000<(a0.length:Int)then 2000 else(a0.length:Int))).bind fun f=>some (ai.mk f 0)
def Src_Raw(d0:ai):Option (Int×ai):=
  if(decide (d0.fAt>=(d0.fL.length:Int)))=true then(some (0,d0))else((nZ d0.fL (FN .i64 ((FN .i64 (d0.fAt+1))-1))).bind fun f=>some (f,(ai.mk d0.fL (FN .i64 (d0.fAt+1)))))
def pG(a0:Int)(a1:Int):Option (Int):=
  if(decide (a1<1))=true then(some 0)else((wQ a0 a1).bind fun f=>if(decide (f<0))=true then(some (FN .i64 (f+a1)))else(some f))
def dm(a1:Int)(d0:ai):Option (Int×ai):=
  (Src_Raw d0).bind fun f=>(pG f.1 a1).bind fun g=>some (g,f.2)
def mN(a1:Int)(d0:ai):Option (ag×ai):=
  (dm (FN .i64 ((FN .i64 (2*a1))+1)) d0).bind fun f=>(dm (FN .i64 ((FN .i64 (2*a1))+1)) f.2).bind fun g=>(dm (FN .i64 (a1+1)) g.2).bind fun j=>some ((ag.mk (FN .i64 (f.1-a1)) (FN .i64 (g.1-a1)) j.1),j.2)
def oN(a1:Int)(a2:Int)(d0:ai):Option (al×ai):=
  (mN a1 d0).bind fun f=>(dm (FN .i64 (a2+1)) f.2).bind fun g=>(dm (FN .i64 (a2+1)) g.2).bind fun j=>(dm (FN .i64 (a2+1)) j.2).bind fun k=>some ((al.mk f.1 (ag.mk (FN .i64 (f.1.fX+g.1)) (FN .i64 (f.1.fY+j.1)) (FN .i64 (f.1.fZ+k.1)))),k.2)
def dY(a1:(List Int))(d0:ai):Option (Int×ai):=
  (dm (a1.length:Int) d0).bind fun f=>(nZ a1 f.1).bind fun g=>some (g,f.2)
def lq(G:Int×ai):(Int×Int×Int×(List Int)×Int×(List Int)×(List Int))->Option (il (Int×Int×Int×(List Int)×Int×(List Int)×(List Int)) ((List Int)×Int×(List Int)×(List Int))):=fun(q,r,D,H,I,E,F)=>
  (tu .i64 400 G.1).bind fun u=>(dm 3 (ai.mk H I)).bind fun f=>if(decide (D<=(FN .i64 (u+f.1))))=true then((rE E [q] 8).bind fun B=>(rE F [r] 8).bind fun C=>(dY [0,10,20,35] f.2).bind fun g=>(tu .i64 G.1 4).bind fun j=>(dY [0,0,5,30] g.2).bind fun k=>some (.next ((FN .i64 (q+(FN .i64 (g.1+j)))),(FN .i64 ((if(FN .i64 (q+(FN .i64 (g.1+j))))>r then(FN .i64 (q+(FN .i64 (g.1+j))))else r)+k.1)),(FN .i64 (D+1)),k.2.fL,k.2.fAt,B,C)))else(some (.stop (f.2.fL,f.2.fAt,E,F)))
def kM(d0:ai):Option (bc×ai):=
  (dY [20,25,40,100] d0).bind fun g=>(dm 3 g.2).bind fun j=>(cI (lq g) (0,j.1,0,j.2.fL,j.2.fAt,([]:(List Int)),([]:(List Int)))).bind fun f=>some ((bc.mk g.1 f.2.2.1 f.2.2.2),(ai.mk f.1 f.2.1))
def eQ(a1:Int)(d0:ai):Option (bh×ai):=
  (oN 20 a1 d0).bind fun f=>(kM f.2).bind fun g=>(dY [10,50,200] g.2).bind fun j=>(dY [0,0,10,40] j.2).bind fun k=>(dY [0,50,200,400] k.2).bind fun q=>(dY [0,5,20] q.2).bind fun r=>(dm 2 r.2).bind fun u=>some ((bh.mk f.1 g.1 j.1 k.1 q.1 r.1 (FN .i64 (2+u.1))),u.2)
def lm(D:bc×ai):(Int×(List Int)×(List Int))->Option (il (Int×(List Int)×(List Int)) ((List Int)×(List Int))):=fun(f,g,j)=>
  if(decide (f<(D.1.bt.length:Int)))=true then((inO g f).bind fun _=>(nZ g f).bind fun k=>(tu .i64 k 3).bind fun q=>(inO j f).bind fun _=>(nZ j f).bind fun r=>(tu .i64 r 3).bind fun u=>(inO g f).bind fun _=>(tF g f q).bind fun B=>(inO j f).bind fun _=>(tF j f u).bind fun C=>some (.next ((FN .i64 (f+1)),B,C)))else(some (.stop (g,j)))
def lT(d0:ai):Option (bO×ai):=
  (kM d0).bind fun g=>(dm 20 g.2).bind fun j=>(dm 9 j.2).bind fun k=>(cI (lm g) (0,g.1.bt,g.1.bd)).bind fun f=>some ((bO.mk (bc.mk g.1.bR f.1 f.2) j.1 (FN .i64 (1+k.1))),k.2)
def dL(a1:Int)(d0:ai):Option (ah×ai):=
  (eQ a1 d0).bind fun f=>(lT f.2).bind fun g=>(dY [0,0,10,40] g.2).bind fun j=>some ((ah.mk f.1 g.1 j.1),j.2)
def kL:(Int×(List Int)×Int×(List bg))->Option (il (Int×(List Int)×Int×(List bg)) ((List Int)×Int×(List bg))):=fun(s2,J,K,F)=>
  if(decide (s2>0))=true then((dm 3 (ai.mk J K)).bind fun f=>if(f.1==0)=true then((dY [0,1,9,99,1048575] f.2).bind fun q=>(dY [0,0,2,9,999] q.2).bind fun g=>(rE F [(bg.mk f.1 (bN.mk (FN .i64 (1+q.1)) 0 0) (bN.mk (FN .i64 (1+g.1)) 0 0) [] 0 0)] 96).bind fun G=>some (.next ((FN .i64 (s2-1)),g.2.fL,g.2.fAt,G)))else(if(f.1==1)=true then((dm 5 f.2).bind fun r=>(dm 7 r.2).bind fun u=>(dm 3 u.2).bind fun B=>(dm 5 B.2).bind fun C=>(dm 7 C.2).bind fun D=>(dm 3 D.2).bind fun j=>(rE F [(bg.mk f.1 (bN.mk r.1 (FN .i64 (u.1-3)) (FN .i64 (B.1-1))) (bN.mk (FN .i64 (1+C.1)) D.1 j.1) [] 0 0)] 96).bind fun H=>some (.next ((FN .i64 (s2-1)),j.2.fL,j.2.fAt,H)))else((dm 3 f.2).bind fun E=>(dm 4 E.2).bind fun k=>(rE F [(bg.mk f.1 (bN.mk 0 0 0) (bN.mk 0 0 0) [(FN .i64 (1+E.1)),2,1] 1 k.1)] 96).bind fun I=>some (.next ((FN .i64 (s2-1)),k.2.fL,k.2.fAt,I)))))else(some (.stop (J,K,F)))
def gN(d0:ai):Option (bu×ai):=
  (dm 4 d0).bind fun g=>(cI (kL) (g.1,g.2.fL,g.2.fAt,([]:(List bg)))).bind fun f=>some ((bu.mk f.2.2),(ai.mk f.1 f.2.1))
def gc(a0:Int):Option (bi):=
  (pG a0 6).bind fun f=>(nZ [[83,49],[83,50],[83,51],[83,52],[83,53],[83,54]] f).bind fun g=>some (bi.mk [65,66] g [48,48] [66,72,90])
def lp(a1:Int):(Int×(List Int)×Int×(List aj))->Option (il (Int×(List Int)×Int×(List aj)) ((List Int)×Int×(List aj))):=fun(s1,s2,E,C)=>
  if(decide (s1<a1))=true then(if(decide (s1<6))=true then((mN 60 (ai.mk s2 E)).bind fun f=>(gN f.2).bind fun g=>(gc s1).bind fun q=>(dm 6 g.2).bind fun j=>if(j.1==0)=true then((dm 500 j.2).bind fun r=>(mN 60 r.2).bind fun D=>(gN D.2).bind fun u=>(inO [(az.mk 0 100000 (cA.mk 100 1) f.1 g.1)] 0).bind fun _=>(xy [(az.mk 0 100000 (cA.mk 100 1) f.1 g.1)] 0 (fun(z22:az)=>(az.mk z22.b7 (FN .i64 (1500+r.1)) z22.nl z22.bU z22.bV))).bind fun F=>(rE F [(az.mk (FN .i64 (1500+r.1)) 100000 (cA.mk 100 1) D.1 u.1)] 80).bind fun G=>(rE C [(aj.mk q G)] 88).bind fun H=>some (.next ((FN .i64 (s1+1)),u.2.fL,u.2.fAt,H)))else(if(j.1==1)=true then((dm 1500 j.2).bind fun B=>(inO [(az.mk 0 100000 (cA.mk 100 1) f.1 g.1)] 0).bind fun _=>(xy [(az.mk 0 100000 (cA.mk 100 1) f.1 g.1)] 0 (fun(k:az)=>(az.mk B.1 k.fTo k.nl k.bU k.bV))).bind fun I=>(rE C [(aj.mk q I)] 88).bind fun J=>some (.next ((FN .i64 (s1+1)),B.2.fL,B.2.fAt,J)))else((rE C [(aj.mk q [(az.mk 0 100000 (cA.mk 100 1) f.1 g.1)])] 88).bind fun K=>some (.next ((FN .i64 (s1+1)),j.2.fL,j.2.fAt,K)))))else(some (.stop (s2,E,C))))else(some (.stop (s2,E,C)))
def gH(a1:Int)(d0:ai):Option (ae×ai):=
  (cI (lp a1) (0,d0.fL,d0.fAt,([]:(List aj)))).bind fun f=>some ((ae.mk f.2.2),(ai.mk f.1 f.2.1))
def nL(a1:Int)(a2:Int)(d0:ai):Option (Int×ai):=
  (dm (FN .i64 ((FN .i64 (a2-a1))+1)) d0).bind fun f=>some ((FN .i64 (a1+f.1)),f.2)
def ow(a1:al)(d0:ai):Option (ag×ai):=
  (nL a1.bt.fX a1.bd.fX d0).bind fun f=>(nL a1.bt.fY a1.bd.fY f.2).bind fun g=>(nL a1.bt.fZ a1.bd.fZ g.2).bind fun j=>some ((ag.mk f.1 g.1 j.1),j.2)
def nT(f:aj)(a1:bi)(a2:Int)(s1:Int):Int->Option (il (Int) ((Int)⊕(ag×Bool))):=fun g=>
  if(decide (g<(f.cn.length:Int)))=true then((nZ f.cn g).bind fun j=>if((f.a7.bI==a1.bI)&&((f.a7.bw==a1.bw)&&((f.a7.ba==a1.ba)&&((f.a7.bL==a1.bL)&&true))))=true then(if(decide (j.b7<=a2))=true then(if(decide (a2<j.fTo))=true then(some (.stop (.inr (j.bU,true))))else(some (.next (FN .i64 (g+1)))))else(some (.next (FN .i64 (g+1)))))else(some (.next (FN .i64 (g+1)))))else(some (.stop (.inl s1)))
def nU(a0:ae)(a1:bi)(a2:Int):Int->Option (il (Int) ((Unit)⊕(ag×Bool))):=fun s1=>
  if(decide (s1<(a0.a8.length:Int)))=true then((nZ a0.a8 s1).bind fun k=>(cI (nT k a1 a2 s1) 0).bind fun f=>match f with| .inl j=>(some (.next (FN .i64 (j+1))))| .inr g=>(some (.stop (.inr g))))else(some (.stop (.inl ())))
def oV(a0:ae)(a1:bi)(a2:Int):Option (ag×Bool):=
  (cI (nU a0 a1 a2) 0).bind fun f=>match f with| .inl _=>(some ((ag.mk 0 0 0),false))| .inr g=>(some g)
def qi(a0:Int):Option (Int):=
  some (FN .i64 (a0*a0))
def jH(F:bi)(G:Int×ai)(H:Int×ai)(k:Int)(q:Int)(r:(List Int))(u:Int)(B:(List aa))(C:Int)(D:Int)(E:Int)(f:Int):Option (il (Int×Int×(List Int)×Int×(List aa)×Int×Int×Int) ((List aa)×(List Int)×Int)):=
  (dm 5 (ai.mk r u)).bind fun g=>(dm 5 g.2).bind fun j=>(rE B [(aa.mk F (FN .i64 (f+g.1)) f (FN .i64 ((FN .i64 (f+g.1))+j.1)) G.1 (FN .i64 (H.1-1)))] 104).bind fun I=>some (.next (k,(FN .i64 (q-1)),j.2.fL,j.2.fAt,I,C,D,E))
def m6(g:ag×Bool)(B:Int)(j:Int)(k:Int)(C:Int)(D:Int)(E:(List aa)):Int->Option (il (Int) (Int×Int×Int×(List aa)×Int×Int×Int)):=fun f=>
  (qi (FN .i64 (g.1.fX-B))).bind fun q=>(qi (FN .i64 (g.1.fY-j))).bind fun r=>(qi (FN .i64 (g.1.fZ-k))).bind fun u=>if(decide ((FN .i64 (f*f))<(FN .i64 ((FN .i64 (q+r))+u))))=true then(some (.next (FN .i64 (f+1))))else(some (.stop (C,D,f,E,B,j,k)))
def ol(a1:ah)(a2:ae):(Int×Int×(List Int)×Int×(List aa)×Int×Int×Int)->Option (il (Int×Int×(List Int)×Int×(List aa)×Int×Int×Int) ((List aa)×(List Int)×Int)):=fun(F,G,O,Q,H,L,B,C)=>
  if(decide (G>0))=true then((dm 6 (ai.mk O Q)).bind fun I=>(gc I.1).bind fun j=>(dY [0,1,50,1000,1048576] I.2).bind fun k=>(dm 3 k.2).bind fun q=>(dm 2000 q.2).bind fun r=>(dm 6 r.2).bind fun g=>if(g.1==0)=true then((ow a1.ac.bn g.2).bind fun u=>(dm 900 u.2).bind fun D=>jH j k q (FN .i64 (F+D.1)) G D.2.fL D.2.fAt H u.1.fX u.1.fY u.1.fZ (FN .i64 (1000+r.1)))else(if(g.1==1)=true then(jH j k q F G g.2.fL g.2.fAt H L B C (FN .i64 (1000+r.1)))else((oV a2 j F).bind fun J=>if J.2=true then((cI (m6 J L B C F G H) 0).bind fun f=>(tu .i64 f.2.2.1 a1.ac.bJ.bR).bind fun K=>(nZ a1.ac.bJ.bt (if(FN .i64 ((a1.ac.bJ.bt.length:Int)-1))<K then(FN .i64 ((a1.ac.bJ.bt.length:Int)-1))else K)).bind fun N=>(dm 6 g.2).bind fun E=>jH j k q f.1 f.2.1 E.2.fL E.2.fAt f.2.2.2.1 f.2.2.2.2.1 f.2.2.2.2.2.1 f.2.2.2.2.2.2 (FN .i64 ((FN .i64 (f.1+N))+E.1)))else(jH j k q F G g.2.fL g.2.fAt H L B C (FN .i64 (1000+r.1))))))else(some (.stop (H,O,Q)))
def kK(a1:ah)(a2:ae)(a3:Int)(d0:ai):Option ((List aa)×ai):=
  (ow a1.ac.bn d0).bind fun g=>(dm 500 g.2).bind fun k=>(dm (FN .i64 (a3+1)) k.2).bind fun j=>(cI (ol a1 a2) ((FN .i64 (1000+k.1)),j.1,j.2.fL,j.2.fAt,([]:(List aa)),g.1.fX,g.1.fY,g.1.fZ)).bind fun f=>some (f.1,(ai.mk f.2.1 f.2.2))
def bX(a0:ag):Option (bN):=
  some (bN.mk a0.fX a0.fY a0.fZ)
def dZ(a0:ag):Option (Bool):=
  (bX a0).bind fun f=>if(decide (f.a0<(-1048576)))=true then(some false)else(if(decide (f.a0>1048576))=true then(some false)else(if(decide (f.a1<(-1048576)))=true then(some false)else(if(decide (f.a1>1048576))=true then(some false)else(if(decide (f.a2<(-16384)))=true then(some false)else(if(decide (f.a2>1048576))=true then(some false)else(some true))))))
def cp(a0:al):Option (Bool):=
  (dZ a0.bt).bind fun j=>if(!j)=true then(some false)else((dZ a0.bd).bind fun k=>if(!k)=true then(some false)else((bX a0.bd).bind fun f=>(bX a0.bt).bind fun g=>if(decide (g.a0>f.a0))=true then(some false)else(if(decide (g.a1>f.a1))=true then(some false)else(if(decide (g.a2>f.a2))=true then(some false)else(some true)))))
def lj(a0:bc):(Int×Int×Int)->Option (il (Int×Int×Int) ((Unit)⊕(Int))):=fun(C,D,f)=>
  if(decide (f<(a0.bt.length:Int)))=true then((nZ a0.bt f).bind fun g=>if(decide (g<C))=true then(some (.stop (.inr 21)))else((nZ a0.bd f).bind fun j=>if(decide (j<D))=true then(some (.stop (.inr 21)))else((nZ a0.bt f).bind fun k=>(nZ a0.bd f).bind fun q=>if(decide (k>q))=true then(some (.stop (.inr 21)))else((nZ a0.bd f).bind fun r=>if(decide (r>1099511627776))=true then(some (.stop (.inr 21)))else((nZ a0.bt f).bind fun u=>(nZ a0.bd f).bind fun B=>some (.next (u,B,(FN .i64 (f+1)))))))))else(some (.stop (.inl ())))
def ed(a0:bc):Option (Int):=
  if(decide (a0.bR<1))=true then(some 21)else(if(decide (a0.bR>1048576))=true then(some 21)else(if((a0.bt.length:Int) != (a0.bd.length:Int))=true then(some 21)else(if(decide ((a0.bt.length:Int)<2))=true then(some 21)else(if(decide ((a0.bt.length:Int)>256))=true then(some 21)else((cI (lj a0) (0,0,0)).bind fun f=>match f with| .inl _=>(some 0)| .inr g=>(some g))))))
def fi(a0:Int)(a1:Int)(a2:Int):Option (Bool):=
  if(decide (a0>=a1))=true then(some (decide (a0<=a2)))else(some false)
def ge(a0:aw):Option (Bool):=
  (dZ a0.bw).bind fun f=>if f=true then(if(decide (a0.bv>=0))=true then(if(decide (a0.bv<=a0.cg))=true then(if(decide (a0.cg<=18014398509481984))=true then(if(decide (a0.cz>=1))=true then(some (decide (a0.cz<=100)))else(some false))else(some false))else(some false))else(some false))else(some false)
def gh(a0:Int)(a1:Int)(a2:Int):Option (Int):=
  some (if 0>(if(FN .i64 (a0-a2))>(FN .i64 (a1-a0))then(FN .i64 (a0-a2))else(FN .i64 (a1-a0)))then 0 else(if(FN .i64 (a0-a2))>(FN .i64 (a1-a0))then(FN .i64 (a0-a2))else(FN .i64 (a1-a0))))
def jk(a0:al)(a1:ag):Option (Int):=
  (cp a0).bind fun u=>if(!u)=true then(some 0)else((dZ a1).bind fun B=>if(!B)=true then(some 0)else((bX a0.bt).bind fun g=>(bX a0.bd).bind fun j=>(bX a1).bind fun k=>(gh k.a0 g.a0 j.a0).bind fun q=>(gh k.a1 g.a1 j.a1).bind fun r=>(gh k.a2 g.a2 j.a2).bind fun f=>some (FN .i64 ((FN .i64 ((FN .i64 (0+(FN .i64 (q*q))))+(FN .i64 (r*r))))+(FN .i64 (f*f))))))
def f8(a0:al)(a1:ag):Option (Int):=
  (jk a0 a1).bind fun f=>some f
def fH(a0:Int)(a1:Int)(a2:Int):Option (Int):=
  some (if(FN .i64 (a0-a1))>(FN .i64 (a2-a0))then(FN .i64 (a0-a1))else(FN .i64 (a2-a0)))
def iF(a0:al)(a1:ag):Option (Int):=
  (cp a0).bind fun u=>if(!u)=true then(some 0)else((dZ a1).bind fun B=>if(!B)=true then(some 0)else((bX a0.bt).bind fun g=>(bX a0.bd).bind fun j=>(bX a1).bind fun k=>(fH k.a0 g.a0 j.a0).bind fun q=>(fH k.a1 g.a1 j.a1).bind fun r=>(fH k.a2 g.a2 j.a2).bind fun f=>some (FN .i64 ((FN .i64 ((FN .i64 (0+(FN .i64 (q*q))))+(FN .i64 (r*r))))+(FN .i64 (f*f))))))
def ji(a0:al)(a1:ag):Option (Int):=
  (iF a0 a1).bind fun f=>some f
def m7(a0:bc)(a1:al)(a2:ag):Option (bc×Int×Int):=
  (f8 a1 a2).bind fun f=>(ji a1 a2).bind fun g=>some (a0,f,g)
def lr(f:Int)(g:Int):Option (Int):=
  if(decide (f>=256))=true then((wK [0,1,2,2,3,3,3,3,4,4,4,4,4,4,4,4,5,5,5,5,5,5,5,5,5,5,5,5,5,5,5,5,6,6,6,6,6,6,6,6,6,6,6,6,6,6,6,6,6,6,6,6,6,6,6,6,6,6,6,6,6,6,6,6,7,7,7,7,7,7,7,7,7,7,7,7,7,7,7,7,7,7,7,7,7,7,7,7,7,7,7,7,7,7,7,7,7,7,7,7,7,7,7,7,7,7,7,7,7,7,7,7,7,7,7,7,7,7,7,7,7,7,7,7,7,7,7,7,8,8,8,8,8,8,8,8,8,8,8,8,8,8,8,8,8,8,8,8,8,8,8,8,8,8,8,8,8,8,8,8,8,8,8,8,8,8,8,8,8,8,8,8,8,8,8,8,8,8,8,8,8,8,8,8,8,8,8,8,8,8,8,8,8,8,8,8,8,8,8,8,8,8,8,8,8,8,8,8,8,8,8,8,8,8,8,8,8,8,8,8,8,8,8,8,8,8,8,8,8,8,8,8,8,8,8,8,8,8,8,8,8,8,8,8,8,8,8,8,8,8,8,8,8,8,8,8] (FN .u8 (sc .u64 f 8))).bind fun j=>some (FN .i64 ((FN .i64 (g+8))+(FN .i64 j))))else((wK [0,1,2,2,3,3,3,3,4,4,4,4,4,4,4,4,5,5,5,5,5,5,5,5,5,5,5,5,5,5,5,5,6,6,6,6,6,6,6,6,6,6,6,6,6,6,6,6,6,6,6,6,6,6,6,6,6,6,6,6,6,6,6,6,7,7,7,7,7,7,7,7,7,7,7,7,7,7,7,7,7,7,7,7,7,7,7,7,7,7,7,7,7,7,7,7,7,7,7,7,7,7,7,7,7,7,7,7,7,7,7,7,7,7,7,7,7,7,7,7,7,7,7,7,7,7,7,7,8,8,8,8,8,8,8,8,8,8,8,8,8,8,8,8,8,8,8,8,8,8,8,8,8,8,8,8,8,8,8,8,8,8,8,8,8,8,8,8,8,8,8,8,8,8,8,8,8,8,8,8,8,8,8,8,8,8,8,8,8,8,8,8,8,8,8,8,8,8,8,8,8,8,8,8,8,8,8,8,8,8,8,8,8,8,8,8,8,8,8,8,8,8,8,8,8,8,8,8,8,8,8,8,8,8,8,8,8,8,8,8,8,8,8,8,8,8,8,8,8,8,8,8,8,8,8,8] (FN .u8 f)).bind fun k=>some (FN .i64 (g+(FN .i64 k))))
def ke(f:Int)(g:Int):Option (Int):=
  if(decide (f>=65536))=true then(lr (sc .u64 f 16) (FN .i64 (g+16)))else(lr f g)
def nQ(a0:Int):Option (Int):=
  if(decide (a0>=4294967296))=true then(ke (sc .u64 a0 32) 32)else(ke a0 0)
def gP(a0:Int):Option (Int):=
  (nQ a0).bind fun f=>some f
def jj(a0:Int):(Int×Int)->Option (il (Int×Int) (Int)):=fun(g,f)=>
  if(decide (f>0))=true then((tu .i64 a0 (orI .i64 g f)).bind fun j=>if(decide ((orI .i64 g f)<=j))=true then(some (.next ((orI .i64 g f),(sc .i64 f 1))))else(some (.next (g,(sc .i64 f 1)))))else(some (.stop g))
def kl(a0:Int):Option (Int):=
  if(decide (a0<=0))=true then(some 0)else((gP (FN .u64 a0)).bind fun g=>(tu .i64 (FN .i64 (g-1)) 2).bind fun j=>(yn .i64 1 j).bind fun k=>(cI (jj a0) (0,k)).bind fun f=>some f)
def m8(a0:Int):Option (Int):=
  (kl a0).bind fun f=>if(decide ((FN .i64 (f*f))<a0))=true then(some (FN .i64 (f+1)))else(some f)
def nJ(a0:bc):Option (Int):=
  some (FN .i64 (a0.bR*(FN .i64 ((a0.bt.length:Int)-1))))
def iD(a0:Int)(d0:bc)(d1:Int):Option (Bool):=
  some (decide ((FN .i64 (a0*d0.bR))>=d1))
def iC(d0:bc)(d1:Int):(Int×Int)->Option (il (Int×Int) (Int)):=fun(s1,s2)=>
  if(decide (s1<s2))=true then((iD (FN .i64 (sc .u64 (FN .u64 (FN .i64 (s1+s2))) 1)) d0 d1).bind fun f=>if(!f)=true then(some (.next ((FN .i64 ((FN .i64 (sc .u64 (FN .u64 (FN .i64 (s1+s2))) 1))+1)),s2)))else(some (.next (s1,(FN .i64 (sc .u64 (FN .u64 (FN .i64 (s1+s2))) 1))))))else(some (.stop s1))
def gj(a0:Int)(d0:bc)(d1:Int):Option (Int):=
  (cI (iC d0 d1) (0,a0)).bind fun f=>some f
def dh(a0:bc)(a1:Int)(a2:Int):Option (Int×Int×Int):=
  (ed a0).bind fun q=>if(q != 0)=true then(some (0,0,21))else(if(decide (a1<0))=true then(some (0,0,2))else(if(decide (a1>a2))=true then(some (0,0,2))else((m8 a2).bind fun k=>(nJ a0).bind fun r=>if(decide (k>r))=true then(some (0,0,22))else((gj (a0.bd.length:Int) a0 k).bind fun u=>(kl a1).bind fun B=>(tu .i64 B a0.bR).bind fun f=>(nZ a0.bt f).bind fun g=>(nZ a0.bd u).bind fun j=>some (g,j,0)))))
def mf(a0:bc)(a1:al)(a2:ag):Option (Int×Int×Int):=
  (ed a0).bind fun j=>if(j != 0)=true then(some (0,0,j))else((cp a1).bind fun k=>if(!k)=true then(some (0,0,20))else((dZ a2).bind fun q=>if(!q)=true then(some (0,0,20))else((m7 a0 a1 a2).bind fun f=>(dh f.1 f.2.1 f.2.2).bind fun g=>some (g.1,g.2.1,g.2.2))))
def eD(a0:bc)(a1:al)(a2:aw):Option (bz×Int):=
  (ed a0).bind fun g=>if(g != 0)=true then(some ((bz.mk 0 0),g))else((cp a1).bind fun j=>if(!j)=true then(some ((bz.mk 0 0),20))else((ge a2).bind fun k=>if(!k)=true then(some ((bz.mk 0 0),23))else((mf a0 a1 a2.bw).bind fun f=>if(f.2.2 != 0)=true then(some ((bz.mk 0 0),f.2.2))else(some ((bz.mk (FN .i64 (a2.bv-f.2.1)) (FN .i64 (a2.cg-f.1))),0)))))
def dl(a1:(List aw))(a0:bh):Int->Option (il (Int) ((Unit)⊕(Int))):=fun f=>
  if(decide (f<(a1.length:Int)))=true then((nZ a1 f).bind fun j=>(eD a0.bJ a0.bn j).bind fun g=>if(g.2 != 0)=true then(some (.stop (.inr g.2)))else(some (.next (FN .i64 (f+1)))))else(some (.stop (.inl ())))
def ef(a0:bh)(a1:(List aw)):Option (Int):=
  (cp a0.bn).bind fun q=>if(!q)=true then(some 27)else((ed a0.bJ).bind fun r=>if(r != 0)=true then(some 27)else((fi a0.dw 1 1099511627776).bind fun u=>if(!u)=true then(some 27)else((fi a0.bA 0 1099511627776).bind fun B=>if(!B)=true then(some 27)else((fi a0.dT 0 1099511627776).bind fun C=>if(!C)=true then(some 27)else((fi a0.cw 0 1099511627776).bind fun j=>if(!j)=true then(some 27)else((fi a0.cq 2 16).bind fun k=>if(!k)=true then(some 27)else(if(decide ((a1.length:Int)>256))=true then(some 8)else((cI (dl a1 a0) 0).bind fun f=>match f with| .inl _=>(some 0)| .inr g=>(some g)))))))))
def dG(a0:bO):Option (Bool):=
  (ed a0.bF).bind fun f=>if(f==0)=true then(if(decide (a0.cf>=0))=true then(if(decide (a0.cf<=65536))=true then(if(decide (a0.bY>=1))=true then(some (decide (a0.bY<=65536)))else(some false))else(some false))else(some false))else(some false)
def eH(a0:ah):Option (Int):=
  (ef a0.ac []).bind fun f=>if(f != 0)=true then(some 27)else((dG a0.bQ).bind fun g=>if(!g)=true then(some 27)else(if(decide (a0.bA<0))=true then(some 27)else(if(decide (a0.bA>1099511627776))=true then(some 27)else(some 0))))
def nI(a0:Int):Option (Bool):=
  if(decide (a0>=65))=true then(if(decide (a0<=90))=true then(some true)else(if(decide (a0>=48))=true then(some (decide (a0<=57)))else(some false)))else(if(decide (a0>=48))=true then(some (decide (a0<=57)))else(some false))
def kJ(a0:(List UInt8)):Int->Option (il (Int) ((Unit)⊕(Bool))):=fun s1=>
  if(decide (s1<(a0.length:Int)))=true then((wK a0 s1).bind fun f=>(nI f).bind fun g=>if(!g)=true then(some (.stop (.inr false)))else(some (.next (FN .i64 (s1+1)))))else(some (.stop (.inl ())))
def kH(a0:(List UInt8))(a1:Int)(a2:Int):Option (Bool):=
  (cI (kJ a0) 0).bind fun g=>match g with| .inl _=>(if(decide ((a0.length:Int)>=a1))=true then(some (decide ((a0.length:Int)<=a2)))else(some false))| .inr f=>(some f)
def mH(a0:bi):Option (Bool):=
  (kH a0.bI 1 2).bind fun f=>if f=true then((kH a0.bw 1 5).bind fun g=>if g=true then((kH a0.ba 0 2).bind fun j=>if j=true then(if((a0.ba.length:Int) != 1)=true then((kH a0.bL 3 3).bind fun k=>some k)else(some false))else(some false))else(some false))else(some false)
def rate_in(a0:Int)(a1:Int)(a2:Int):Option (Bool):=
  if(decide (a0>=a1))=true then(some (decide (a0<=a2)))else(some false)
def rate_gcd_l7:(Int×Int)->Option (il (Int×Int) (Int)):=fun(s1,s2)=>
  if(s2 != 0)=true then((wQ s1 s2).bind fun f=>some (.next (s2,f)))else(some (.stop s1))
def rate_gcd(a0:Int)(a1:Int):Option (Int):=
  (cI (rate_gcd_l7) (a0,a1)).bind fun f=>some f
def oY(a0:cA):Option (Bool):=
  (rate_in a0.cf 1 4096).bind fun f=>if f=true then((rate_in a0.bY 1 4096).bind fun g=>if g=true then((rate_gcd a0.cf a0.bY).bind fun j=>some (j==1))else(some false))else(some false)
def cO(a0:Int)(a1:Int)(a2:Int):Option (Bool):=
  if(decide (a0>=a1))=true then(some (decide (a0<=a2)))else(some false)
def lf(a0:Int):Option (Bool):=
  (cO a0 (-1048576) 1048576).bind fun f=>some (!f)
def ec(a0:(List Int)):Int->Option (il (Int) ((Unit)⊕(Int))):=fun s1=>
  if(decide (s1<(a0.length:Int)))=true then((nZ a0 s1).bind fun f=>(lf f).bind fun g=>if g=true then(some (.stop (.inr s1)))else(some (.next (FN .i64 (s1+1)))))else(some (.stop (.inl ())))
def gG(a0:(List Int)):Option (Int):=
  (cI (ec a0) 0).bind fun g=>match g with| .inl _=>(some (-1))| .inr f=>(some f)
def fM(a0:(List Int)):Option (Bool):=
  (gG a0).bind fun f=>some (decide (f>=0))
def dI(a0:(List Int)):Option (Bool):=
  (fM a0).bind fun f=>some (!f)
def nv(a0:(List Int)):(Int×Int)->Option (il (Int×Int) (Int)):=fun(s1,s2)=>
  if(decide (s2<(a0.length:Int)))=true then((nZ a0 s2).bind fun f=>some (.next ((FN .i64 (s1+f)),(FN .i64 (s2+1)))))else(some (.stop s1))
def fU(a0:(List Int)):Option (Int):=
  (cI (nv a0) (0,0)).bind fun f=>some f
def dU(a0:bg):Option (Bool):=
  if((a0.ep.length:Int)==0)=true then(if(a0.eE==0)=true then(if(a0.jZ==0)=true then(if(a0.eT==0)=true then(if((a0.cf.a0==a0.cf.a0)&&((a0.cf.a1==0)&&((a0.cf.a2==0)&&true)))=true then(if((a0.bY.a0==a0.bY.a0)&&((a0.bY.a1==0)&&((a0.bY.a2==0)&&true)))=true then((cO a0.cf.a0 1 1048576).bind fun L=>if L=true then((cO a0.bY.a0 1 1048576).bind fun N=>some N)else(some false))else(some false))else(some false))else(some false))else(if(a0.jZ==1)=true then(if(a0.eT==0)=true then((dI [a0.cf.a0,a0.cf.a1,a0.cf.a2]).bind fun f=>if f=true then((dI [a0.bY.a0,a0.bY.a1,a0.bY.a2]).bind fun g=>if g=true then(some (a0.bY.a0 != 0))else(some false))else(some false))else(some false))else(if(a0.jZ==2)=true then(if((a0.cf.a0==0)&&((a0.cf.a1==0)&&((a0.cf.a2==0)&&true)))=true then(if((a0.bY.a0==0)&&((a0.bY.a1==0)&&((a0.bY.a2==0)&&true)))=true then((cO (a0.ep.length:Int) 1 128).bind fun j=>if j=true then((dI a0.ep).bind fun k=>if k=true then((fU a0.ep).bind fun q=>if(q != 0)=true then((cO a0.eE 1 64).bind fun r=>if r=true then((cO a0.eT 0 40).bind fun u=>some u)else(some false))else(some false))else(some false))else(some false))else(some false))else(some false))else(some false))))else(if(a0.jZ==0)=true then(some false)else(if(a0.jZ==1)=true then(some false)else(if(a0.jZ==2)=true then(if((a0.cf.a0==0)&&((a0.cf.a1==0)&&((a0.cf.a2==0)&&true)))=true then(if((a0.bY.a0==0)&&((a0.bY.a1==0)&&((a0.bY.a2==0)&&true)))=true then((cO (a0.ep.length:Int) 1 128).bind fun B=>if B=true then((dI a0.ep).bind fun C=>if C=true then((fU a0.ep).bind fun D=>if(D != 0)=true then((cO a0.eE 1 64).bind fun E=>if E=true then((cO a0.eT 0 40).bind fun F=>some F)else(some false))else(some false))else(some false))else(some false))else(some false))else(some false))else(some false)))))else(if(a0.jZ==0)=true then(some false)else(if(a0.jZ==1)=true then(some false)else(if(a0.jZ==2)=true then(if((a0.cf.a0==0)&&((a0.cf.a1==0)&&((a0.cf.a2==0)&&true)))=true then(if((a0.bY.a0==0)&&((a0.bY.a1==0)&&((a0.bY.a2==0)&&true)))=true then((cO (a0.ep.length:Int) 1 128).bind fun G=>if G=true then((dI a0.ep).bind fun H=>if H=true then((fU a0.ep).bind fun I=>if(I != 0)=true then((cO a0.eE 1 64).bind fun J=>if J=true then((cO a0.eT 0 40).bind fun K=>some K)else(some false))else(some false))else(some false))else(some false))else(some false))else(some false))else(some false))))
def ld(a0:bg):Option (Bool):=
  (dU a0).bind fun f=>some (!f)
def dP(a0:(List bg)):Int->Option (il (Int) ((Unit)⊕(Int))):=fun s1=>
  if(decide (s1<(a0.length:Int)))=true then((nZ a0 s1).bind fun f=>(ld f).bind fun g=>if g=true then(some (.stop (.inr s1)))else(some (.next (FN .i64 (s1+1)))))else(some (.stop (.inl ())))
def f7(a0:(List bg)):Option (Int):=
  (cI (dP a0) 0).bind fun g=>match g with| .inl _=>(some (-1))| .inr f=>(some f)
def dO(a0:(List bg)):Option (Bool):=
  (f7 a0).bind fun f=>some (decide (f>=0))
def jv(a0:(List bg)):(Int×Int)->Option (il (Int×Int) ((Int)⊕(Int))):=fun(s1,s2)=>
  if(decide (s2<(a0.length:Int)))=true then((nZ a0 s2).bind fun f=>if(f.jZ != 2)=true then(some (.next (s1,(FN .i64 (s2+1)))))else(if(decide ((FN .i64 (s1*f.eE))>64))=true then(some (.stop (.inr 0)))else(some (.next ((FN .i64 (s1*f.eE)),(FN .i64 (s2+1)))))))else(some (.stop (.inl s1)))
def lL(a0:(List bg)):Option (Int):=
  (cI (jv a0) (1,0)).bind fun f=>match f with| .inl j=>(some j)| .inr g=>(some g)
def kD(a0:bu):Option (Bool):=
  if(decide ((a0.cQ.length:Int)>8))=true then(some false)else((dO a0.cQ).bind fun f=>if f=true then(some false)else((lL a0.cQ).bind fun g=>some (decide (g>0))))
def gY(a0:Int)(a1:Int)(a2:Int):Option (Bool):=
  if(decide (a0>=a1))=true then(some (decide (a0<=a2)))else(some false)
def gT(a0:az):Option (Bool):=
  if(decide (a0.b7>=0))=true then(if(decide (a0.b7<a0.fTo))=true then(if(decide (a0.fTo<=9007199254740992))=true then((oY a0.nl).bind fun j=>if j=true then((kD a0.bV).bind fun k=>if k=true then((gY a0.bU.fX (-1048576) 1048576).bind fun q=>if q=true then((gY a0.bU.fY (-1048576) 1048576).bind fun f=>if f=true then((gY a0.bU.fZ (-16384) 1048576).bind fun g=>some g)else(some false))else(some false))else(some false))else(some false))else(some false))else(some false))else(some false)
def gW(a0:(List az)):Int->Option (il (Int) ((Unit)⊕(Bool))):=fun s1=>
  if(decide (s1<(a0.length:Int)))=true then((nZ a0 s1).bind fun f=>(gT f).bind fun g=>if(!g)=true then(some (.stop (.inr false)))else(if(decide (s1>0))=true then((nZ a0 (FN .i64 (s1-1))).bind fun j=>if(decide (f.b7<j.fTo))=true then(some (.stop (.inr false)))else(some (.next (FN .i64 (s1+1)))))else(some (.next (FN .i64 (s1+1))))))else(some (.stop (.inl ())))
def kU(a0:(List az)):Option (Bool):=
  (cI (gW a0) 0).bind fun f=>match f with| .inl _=>((gY (a0.length:Int) 1 32).bind fun j=>some j)| .inr g=>(some g)
def iE(a0:(List UInt8)):Option (Bool):=
  some (!(a0==a0))
def dz(a0:(List UInt8))(a1:(List UInt8)):Option (Int):=
  (iE a0).bind fun g=>(iE a1).bind fun f=>if g=true then(if f=true then(some 0)else(some (-1)))else(if f=true then(some 1)else(if(Op.bytesLess a0 a1)=true then(some (-1))else(if(!(Op.bytesLess a0 a1||a0==a1))=true then(some 1)else(some 0))))
def eB(a0:(List Int)):Int->Option (il (Int) ((Unit)⊕(Int))):=fun s1=>
  if(decide (s1<(a0.length:Int)))=true then((nZ a0 s1).bind fun f=>if(f != 0)=true then(some (.stop (.inr f)))else(some (.next (FN .i64 (s1+1)))))else(some (.stop (.inl ())))
def dC(a0:(List Int)):Option (Int):=
  (cI (eB a0) 0).bind fun f=>match f with| .inl _=>(some 0)| .inr g=>(some g)
def jb(a0:bi)(a1:bi):Option (Int):=
  (dz a0.bI a1.bI).bind fun f=>(dz a0.bw a1.bw).bind fun g=>(dz a0.ba a1.ba).bind fun j=>(dz a0.bL a1.bL).bind fun k=>(dC [f,g,j,k]).bind fun q=>some q
def ix(a0:ae):Int->Option (il (Int) ((Unit)⊕(Bool))):=fun s1=>
  if(decide (s1<(a0.a8.length:Int)))=true then((nZ a0.a8 s1).bind fun j=>(mH j.a7).bind fun k=>if(!k)=true then(some (.stop (.inr false)))else((kU j.cn).bind fun q=>if(!q)=true then(some (.stop (.inr false)))else(if(decide (s1>0))=true then((nZ a0.a8 (FN .i64 (s1-1))).bind fun f=>(jb f.a7 j.a7).bind fun g=>if(decide (g>=0))=true then(some (.stop (.inr false)))else(some (.next (FN .i64 (s1+1)))))else(some (.next (FN .i64 (s1+1)))))))else(some (.stop (.inl ())))
def cL(a0:ae):Option (Bool):=
  (cI (ix a0) 0).bind fun f=>match f with| .inl _=>(some (decide ((a0.a8.length:Int)<=128)))| .inr g=>(some g)
def mX(a0:Int)(a1:Int)(a2:Int):Option (Bool):=
  if(decide (a0>=a1))=true then(some (decide (a0<=a2)))else(some false)
def iL(a0:aa):Option (Bool):=
  (mH a0.a7).bind fun f=>if f=true then(if(decide (a0.bv>=0))=true then(if(decide (a0.bv<=a0.bS))=true then(if(decide (a0.bS<=a0.cg))=true then(if(decide (a0.cg<=18014398509481984))=true then((mX a0.bG 0 1073741823).bind fun g=>if g=true then((mX a0.bT (-1) 1).bind fun j=>some j)else(some false))else(some false))else(some false))else(some false))else(some false))else(some false)
def jP(a0:aa):Option (Bool):=
  (iL a0).bind fun f=>some (!f)
def dV(a0:(List aa)):Int->Option (il (Int) ((Unit)⊕(Int))):=fun s1=>
  if(decide (s1<(a0.length:Int)))=true then((nZ a0 s1).bind fun f=>(jP f).bind fun g=>if g=true then(some (.stop (.inr s1)))else(some (.next (FN .i64 (s1+1)))))else(some (.stop (.inl ())))
def gt(a0:(List aa)):Option (Int):=
  (cI (dV a0) 0).bind fun g=>match g with| .inl _=>(some (-1))| .inr f=>(some f)
def fC(a0:(List aa)):Option (Bool):=
  (gt a0).bind fun f=>some (decide (f>=0))
def gg(a0:(List aa)):Option (Bool):=
  (fC a0).bind fun f=>some (!f)
def lu(a0:Int):Option (Bool):=
  some (a0 != a0)
def cb(a0:Int)(a1:Int):Option (Int):=
  (lu a0).bind fun g=>(lu a1).bind fun f=>if g=true then(if f=true then(some 0)else(some (-1)))else(if f=true then(some 1)else(if(decide (a0<a1))=true then(some (-1))else(if(decide (a0>a1))=true then(some 1)else(some 0))))
def cN(a0:aa)(a1:aa):Option (Int):=
  (jb a0.a7 a1.a7).bind fun f=>(cb a0.bS a1.bS).bind fun g=>(cb a0.bv a1.bv).bind fun j=>(cb a0.cg a1.cg).bind fun k=>(cb a0.bG a1.bG).bind fun q=>(cb a0.bT a1.bT).bind fun r=>(dC [f,g,j,k,q,r]).bind fun u=>some u
def iX(s2:Int)(d0:(List aa)):(Int×Int×(List aa))->Option (il (Int×Int×(List aa)) (Int×(List aa))):=fun(q,g,f)=>
  (lenV f.length (0+(s2:Int).toNat) (0+((d0.length:Int):Int).toNat)).bind fun r=>if(decide (g<r))=true then((inV f.length (0+(s2:Int).toNat) (0+((d0.length:Int):Int).toNat) g).bind fun _=>(nZ f (((0+(s2:Int).toNat)+(g:Int).toNat:Nat):Int)).bind fun j=>(inV f.length (0+(s2:Int).toNat) (0+((d0.length:Int):Int).toNat) (FN .i64 (g-1))).bind fun _=>(nZ f (((0+(s2:Int).toNat)+((FN .i64 (g-1)):Int).toNat:Nat):Int)).bind fun k=>if(!(((j.a7.bI==k.a7.bI)&&((j.a7.bw==k.a7.bw)&&((j.a7.ba==k.a7.ba)&&((j.a7.bL==k.a7.bL)&&true))))&&((j.bS==k.bS)&&((j.bv==k.bv)&&((j.cg==k.cg)&&((j.bG==k.bG)&&((j.bT==k.bT)&&true)))))))=true then((inV f.length (0+(s2:Int).toNat) (0+((d0.length:Int):Int).toNat) g).bind fun _=>(nZ f (((0+(s2:Int).toNat)+(g:Int).toNat:Nat):Int)).bind fun u=>(inO f q).bind fun _=>(tF f q u).bind fun B=>some (.next ((FN .i64 (q+1)),(FN .i64 (g+1)),B)))else(some (.next (q,(FN .i64 (g+1)),f))))else(some (.stop (q,f)))
def iY(d0:(List aa)):Int->Option (il (Int) ((Unit)⊕((List aa)))):=fun s2=>
  if(decide (s2<(d0.length:Int)))=true then((inO d0 s2).bind fun _=>(nZ d0 s2).bind fun j=>(inO d0 (FN .i64 (s2-1))).bind fun _=>(nZ d0 (FN .i64 (s2-1))).bind fun g=>if(((j.a7.bI==g.a7.bI)&&((j.a7.bw==g.a7.bw)&&((j.a7.ba==g.a7.ba)&&((j.a7.bL==g.a7.bL)&&true))))&&((j.bS==g.bS)&&((j.bv==g.bv)&&((j.cg==g.cg)&&((j.bG==g.bG)&&((j.bT==g.bT)&&true))))))=true then((vB d0.length s2 (d0.length:Int)).bind fun _=>(cI (iX s2 d0) (s2,1,d0)).bind fun f=>(vB f.2.length f.1 (f.2.length:Int)).bind fun _=>(AB f.2.length (0+(f.1:Int).toNat) (0+((f.2.length:Int):Int).toNat)).bind fun _=>(vB (vj f.2 (0+(f.1:Int).toNat) ((0+((f.2.length:Int):Int).toNat)-(0+(f.1:Int).toNat)) (aa.mk (bi.mk [] [] [] []) 0 0 0 0 0)).length 0 f.1).bind fun _=>some (.stop (.inr ((vj f.2 (0+(f.1:Int).toNat) ((0+((f.2.length:Int):Int).toNat)-(0+(f.1:Int).toNat)) (aa.mk (bi.mk [] [] [] []) 0 0 0 0 0)).take (f.1:Int).toNat))))else(some (.next (FN .i64 (s2+1)))))else(some (.stop (.inl ())))
def eM(d0:(List aa)):Option ((List aa)):=
  if(decide ((d0.length:Int)<2))=true then(some d0)else((cI (iY d0) 1).bind fun f=>match f with| .inl _=>(some d0)| .inr g=>(some g))
def da(a0:(List aa)):Option ((List aa)):=
  (rV 104 a0).bind fun f=>(wO cN f).bind fun g=>(eM g).bind fun j=>some j
def fG(a0:aa)(a1:aa):Option (Int):=
  (cb a0.bv a1.bv).bind fun f=>some f
def dq(a1:Int)(s1:Int):(Int×(List aa))->Option (il (Int×(List aa)) (Int×(List aa))):=fun(f,g)=>
  if(decide (f>a1))=true then((inO g f).bind fun _=>(nZ g f).bind fun k=>(inO g (FN .i64 (f-1))).bind fun _=>(nZ g (FN .i64 (f-1))).bind fun q=>(fG k q).bind fun r=>if(decide (r<0))=true then((inO g (FN .i64 (f-1))).bind fun _=>(nZ g (FN .i64 (f-1))).bind fun u=>(inO g f).bind fun _=>(nZ g f).bind fun B=>(inO g f).bind fun _=>(tF g f u).bind fun j=>(inO j (FN .i64 (f-1))).bind fun _=>(tF j (FN .i64 (f-1)) B).bind fun C=>some (.next ((FN .i64 (f-1)),C)))else(some (.stop (s1,g))))else(some (.stop (s1,g)))
def cM(a2:Int)(a1:Int):(Int×(List aa))->Option (il (Int×(List aa)) ((List aa))):=fun(s1,s2)=>
  if(decide (s1<a2))=true then((cI (dq a1 s1) (s1,s2)).bind fun f=>some (.next ((FN .i64 (f.1+1)),f.2)))else((some s2).bind fun z33=>some (.stop z33))
def bW(a1:Int)(a2:Int)(d0:(List aa)):Option ((List aa)):=
  (cI (cM a2 a1) ((FN .i64 (a1+1)),d0)).bind fun f=>some f
def cj(a1:Int):(Int×Int×(List aa))->Option (il (Int×Int×(List aa)) (Int×(List aa))):=fun(s1,s2,f)=>
  if(decide (s2<=a1))=true then((bW s1 s2 f).bind fun g=>some (.next (s2,(FN .i64 (s2+20)),g)))else(some (.stop (s1,f)))
def lR(f:Int)(a1:Int):Unit->Option (il (Unit) (Int)):=fun _=>
  if(decide ((FN .i64 (2*f))<=a1))=true then(none)else(some (.stop f))
def ei(a1:Int)(j:(List aa)):Int->Option (il (Int) ((List aa))):=fun g=>
  if(decide (g<a1))=true then((cI (lR g a1) ()).bind fun f=>if(decide ((FN .i64 (0+f))<a1))=true then(none)else(some (.next (FN .i64 (f*2)))))else((some j).bind fun z21=>some (.stop z21))
def dR(a1:Int)(d0:(List aa)):Option ((List aa)):=
  (cI (cj a1) (0,20,d0)).bind fun f=>(bW f.1 a1 f.2).bind fun j=>(cI (ei a1 j) 20).bind fun g=>some g
def dy(d0:(List aa)):Option ((List aa)):=
  (dR (d0.length:Int) d0).bind fun f=>some f
def jg(r:(List aa))(a0:Int):(Int×(List (List aa)))->Option (il (Int×(List (List aa))) ((List (List aa)))):=fun(k,j)=>
  if(decide (k<(r.length:Int)))=true then((inO r k).bind fun _=>(nZ r k).bind fun q=>if(k==0)=true then((rE j [[]] 24).bind fun f=>(zh f).bind fun u=>(inO f (FN .i64 ((f.length:Int)-1))).bind fun _=>(atO (FN .i64 ((f.length:Int)-1)) (f.length-1)).bind fun _=>(rE u [q] 104).bind fun B=>(inO f (FN .i64 ((f.length:Int)-1))).bind fun _=>(stO f.length (FN .i64 ((f.length:Int)-1)) (f.length-1)).bind fun _=>some (.next ((FN .i64 (k+1)),(f.set (f.length-1) B))))else((inO r (FN .i64 (k-1))).bind fun _=>(nZ r (FN .i64 (k-1))).bind fun C=>if(decide ((FN .i64 (q.bv-C.bv))>a0))=true then((rE j [[]] 24).bind fun g=>(zh g).bind fun D=>(inO g (FN .i64 ((g.length:Int)-1))).bind fun _=>(atO (FN .i64 ((g.length:Int)-1)) (g.length-1)).bind fun _=>(rE D [q] 104).bind fun E=>(inO g (FN .i64 ((g.length:Int)-1))).bind fun _=>(stO g.length (FN .i64 ((g.length:Int)-1)) (g.length-1)).bind fun _=>some (.next ((FN .i64 (k+1)),(g.set (g.length-1) E))))else((zh j).bind fun F=>(inO j (FN .i64 ((j.length:Int)-1))).bind fun _=>(atO (FN .i64 ((j.length:Int)-1)) (j.length-1)).bind fun _=>(rE F [q] 104).bind fun G=>(inO j (FN .i64 ((j.length:Int)-1))).bind fun _=>(stO j.length (FN .i64 ((j.length:Int)-1)) (j.length-1)).bind fun _=>some (.next ((FN .i64 (k+1)),(j.set (j.length-1) G))))))else(some (.stop j))
def jh(j:(List (List aa))):(Int×(List (List aa)))->Option (il (Int×(List (List aa))) ((List (List aa)))):=fun(f,g)=>
  if(decide (f<(j.length:Int)))=true then((nZ g f).bind fun k=>(inO g f).bind fun _=>(atO f (FT f)).bind fun _=>(wO cN k).bind fun q=>some (.next ((FN .i64 (f+1)),(g.set (FT f) q))))else(some (.stop g))
def bZ(a0:Int)(a1:(List aa)):Option ((List (List aa))):=
  (da a1).bind fun j=>(dy j).bind fun k=>(cI (jg k a0) (0,([]:(List (List aa))))).bind fun f=>(cI (jh f) (0,f)).bind fun g=>some g
def gm(a0:Int)(a1:(List aa)):Option ((List (List aa))×Int):=
  if(decide (a0<0))=true then(some (([]:(List (List aa))),2))else(if(decide (a0>1099511627776))=true then(some (([]:(List (List aa))),2))else((gg a1).bind fun f=>if(!f)=true then(some (([]:(List (List aa))),1))else((bZ a0 a1).bind fun g=>some (g,0))))
def gL(a0:ah)(a1:ae)(a2:(List aa)):Option ((List (List aa))×Int):=
  (eH a0).bind fun g=>if(g != 0)=true then(some (([]:(List (List aa))),27))else((cL a1).bind fun j=>if(!j)=true then(some (([]:(List (List aa))),1))else((gm a0.ac.cw a2).bind fun f=>some (f.1,f.2)))
def jr(B:(List bg))(u:(List az))(k:Int)(q:Int)(r:(List aj)):(Int×(List bg))->Option (il (Int×(List bg)) (Int×Int×(List aj)×(List bg))):=fun(f,g)=>
  if(decide (f<(B.length:Int)))=true then((inO g f).bind fun _=>(nZ g f).bind fun C=>(nZ g f).bind fun _=>(inO u k).bind fun _=>(atO k (FT k)).bind fun _=>(rV 8 C.ep).bind fun D=>(inO g f).bind fun _=>(atO f (FT f)).bind fun _=>some (.next ((FN .i64 (f+1)),(setF g (FT f) (fun(j:bg)=>(bg.mk j.jZ j.cf j.bY D j.eE j.eT))))))else(some (.stop (q,k,r,g)))
def js(u:(List az)):(Int×Int×(List aj)×(List az))->Option (il (Int×Int×(List aj)×(List az)) (Int×(List aj)×(List az))):=fun(k,f,q,g)=>
  if(decide (f<(u.length:Int)))=true then((nZ g f).bind fun B=>(inO g f).bind fun _=>(atO f (FT f)).bind fun _=>(rV 96 B.bV.cQ).bind fun r=>(inO g f).bind fun _=>(atO f (FT f)).bind fun _=>(inO g f).bind fun _=>(atO f (FT f)).bind fun _=>(cI (jr r g f k q) (0,r)).bind fun j=>some (.next (j.1,(FN .i64 (j.2.1+1)),j.2.2.1,(setF g (FT f) (fun(z55:az)=>(az.mk z55.b7 z55.fTo z55.nl z55.bU (bu.mk j.2.2.2)))))))else(some (.stop (k,q,g)))
def jt(a1:ae):(Int×(List aj))->Option (il (Int×(List aj)) ((List aj))):=fun(k,r)=>
  if(decide (k<(a1.a8.length:Int)))=true then((nZ a1.a8 k).bind fun g=>(rV 80 g.cn).bind fun j=>(cI (js j) (k,0,r,j)).bind fun f=>(rE f.2.1 [(aj.mk g.a7 f.2.2)] 88).bind fun q=>some (.next ((FN .i64 (f.1+1)),q)))else(some (.stop r))
def ff(a0:ah)(a1:ae):Option (av):=
  (rV 8 a0.ac.bJ.bt).bind fun g=>(rV 8 a0.ac.bJ.bd).bind fun j=>(rV 8 a0.bQ.bF.bt).bind fun k=>(rV 8 a0.bQ.bF.bd).bind fun q=>(cI (jt a1) (0,([]:(List aj)))).bind fun f=>some (av.mk (ah.mk (bh.mk a0.ac.bn (bc.mk a0.ac.bJ.bR g j) a0.ac.dw a0.ac.bA a0.ac.cw a0.ac.dT a0.ac.cq) (bO.mk (bc.mk a0.bQ.bF.bR k q) a0.bQ.cf a0.bQ.bY) a0.bA) (ae.mk f) [])
def fI(q:(List bg)):(Int×(List bg))->Option (il (Int×(List bg)) ((List bg))):=fun(s2,g)=>
  if(decide (s2<(q.length:Int)))=true then((inO g s2).bind fun _=>(nZ g s2).bind fun r=>(rV 8 r.ep).bind fun j=>(inO g s2).bind fun _=>(xy g s2 (fun(f:bg)=>(bg.mk f.jZ f.cf f.bY j f.eE f.eT))).bind fun k=>some (.next ((FN .i64 (s2+1)),k)))else(some (.stop g))
def iw(a0:az):Option (az):=
  (rV 96 a0.bV.cQ).bind fun g=>(cI (fI g) (0,g)).bind fun f=>some (az.mk a0.b7 a0.fTo a0.nl a0.bU (bu.mk f))
def gV(k:(List az)):(Int×(List az))->Option (il (Int×(List az)) ((List az))):=fun(s2,f)=>
  if(decide (s2<(k.length:Int)))=true then((inO f s2).bind fun _=>(nZ f s2).bind fun q=>(iw q).bind fun g=>(inO f s2).bind fun _=>(tF f s2 g).bind fun j=>some (.next ((FN .i64 (s2+1)),j)))else(some (.stop f))
def kT(a0:aj):Option (aj):=
  (rV 80 a0.cn).bind fun g=>(cI (gV g) (0,g)).bind fun f=>some (aj.mk a0.a7 f)
def kc(a0:ae)(a1:bi):Int->Option (il (Int) ((Unit)⊕(aj×Bool))):=fun s1=>
  if(decide (s1<(a0.a8.length:Int)))=true then((nZ a0.a8 s1).bind fun f=>if((f.a7.bI==a1.bI)&&((f.a7.bw==a1.bw)&&((f.a7.ba==a1.ba)&&((f.a7.bL==a1.bL)&&true))))=true then((kT f).bind fun g=>some (.stop (.inr (g,true))))else(some (.next (FN .i64 (s1+1)))))else(some (.stop (.inl ())))
def mq(a0:ae)(a1:bi):Option (aj×Bool):=
  (cI (kc a0 a1) 0).bind fun g=>match g with| .inl _=>(some ((aj.mk (bi.mk [] [] [] []) []),false))| .inr f=>(some f)
def lG(a0:aj)(a1:Int):Int->Option (il (Int) ((Unit)⊕(az×Bool))):=fun s1=>
  if(decide (s1<(a0.cn.length:Int)))=true then((nZ a0.cn s1).bind fun f=>if(decide (f.b7<=a1))=true then(if(decide (a1<f.fTo))=true then(some (.stop (.inr (f,true))))else(some (.next (FN .i64 (s1+1)))))else(some (.next (FN .i64 (s1+1)))))else(some (.stop (.inl ())))
def nF(a0:aj)(a1:Int):Option (az×Bool):=
  (cI (lG a0 a1) 0).bind fun g=>match g with| .inl _=>(some ((az.mk 0 0 (cA.mk 0 0) (ag.mk 0 0 0) (bu.mk [])),false))| .inr f=>(some f)
def kR(a0:ae)(a1:bi)(a2:Int):Option (az×Int):=
  (cL a0).bind fun g=>if(!g)=true then(some ((az.mk 0 0 (cA.mk 0 0) (ag.mk 0 0 0) (bu.mk [])),1))else((mq a0 a1).bind fun j=>(nF j.1 a2).bind fun f=>if(!f.2)=true then(some ((az.mk 0 0 (cA.mk 0 0) (ag.mk 0 0 0) (bu.mk [])),6))else(some (f.1,0)))
def eC(a0:ah)(a1:ae)(a2:aa):Option (aw×az×Bool):=
  (iL a2).bind fun g=>if(!g)=true then(some ((aw.mk (ag.mk 0 0 0) 0 0 0),(az.mk 0 0 (cA.mk 0 0) (ag.mk 0 0 0) (bu.mk [])),false))else((kR a1 a2.a7 a2.bS).bind fun f=>if(f.2 != 0)=true then(some ((aw.mk (ag.mk 0 0 0) 0 0 0),(az.mk 0 0 (cA.mk 0 0) (ag.mk 0 0 0) (bu.mk [])),false))else((eD a0.ac.bJ a0.ac.bn (aw.mk f.1.bU a2.bv a2.cg 1)).bind fun j=>if(j.2 != 0)=true then(some ((aw.mk (ag.mk 0 0 0) 0 0 0),(az.mk 0 0 (cA.mk 0 0) (ag.mk 0 0 0) (bu.mk [])),false))else(some ((aw.mk f.1.bU a2.bv a2.cg 1),f.1,true))))
def lM(a0:ah)(a1:ae)(a2:aa):Option (aw×Bool):=
  (eH a0).bind fun g=>if(g != 0)=true then(some ((aw.mk (ag.mk 0 0 0) 0 0 0),false))else((cL a1).bind fun j=>if(!j)=true then(some ((aw.mk (ag.mk 0 0 0) 0 0 0),false))else((eC a0 a1 a2).bind fun f=>some (f.1,f.2.2)))
def kN(B:(List aa))(a0:ah)(a1:ae):(Int×(List aa)×(List aw))->Option (il (Int×(List aa)×(List aw)) ((List aa)×(List aw))):=fun(f,k,q)=>
  if(decide (f<(B.length:Int)))=true then((inO B f).bind fun _=>(nZ B f).bind fun g=>(lM a0 a1 g).bind fun j=>if j.2=true then((rE k [g] 104).bind fun r=>(rE q [j.1] 48).bind fun u=>some (.next ((FN .i64 (f+1)),r,u)))else(some (.next ((FN .i64 (f+1)),k,q))))else(some (.stop (k,q)))
def nD(a0:ah)(a1:ae)(a2:(List aa)):Option ((List aa)×(List aw)×Int):=
  (eH a0).bind fun g=>if(g != 0)=true then(some (([]:(List aa)),([]:(List aw)),27))else((cL a1).bind fun j=>if(!j)=true then(some (([]:(List aa)),([]:(List aw)),1))else((da a2).bind fun k=>(cI (kN k a0 a1) (0,([]:(List aa)),([]:(List aw)))).bind fun f=>if(decide ((f.1.length:Int)>256))=true then(some (([]:(List aa)),([]:(List aw)),8))else(some (f.1,f.2,0))))
def fd(a0:ag)(a1:ag):Option (Int):=
  (cb a0.fX a1.fX).bind fun f=>(cb a0.fY a1.fY).bind fun g=>(cb a0.fZ a1.fZ).bind fun j=>(dC [f,g,j]).bind fun k=>some k
def jV(a0:aw)(a1:aw):Option (Int):=
  (cb a0.bv a1.bv).bind fun f=>(cb a0.cg a1.cg).bind fun g=>(fd a0.bw a1.bw).bind fun j=>(cb a0.cz a1.cz).bind fun k=>(dC [f,g,j,k]).bind fun q=>some q
def gO(a0:Int)(a1:Int)(d0:(List aw)):Option (Int):=
  (nZ d0 a0).bind fun f=>(nZ d0 a1).bind fun g=>(jV f g).bind fun j=>some j
def jT(a0:Int)(d1:(List aw))(s1:Int):(Int×(List Int))->Option (il (Int×(List Int)) (Int×(List Int))):=fun(f,g)=>
  if(decide (f>a0))=true then((inO g f).bind fun _=>(nZ g f).bind fun k=>(inO g (FN .i64 (f-1))).bind fun _=>(nZ g (FN .i64 (f-1))).bind fun q=>(gO k q d1).bind fun r=>if(decide (r<0))=true then((inO g (FN .i64 (f-1))).bind fun _=>(nZ g (FN .i64 (f-1))).bind fun u=>(inO g f).bind fun _=>(nZ g f).bind fun B=>(inO g f).bind fun _=>(tF g f u).bind fun j=>(inO j (FN .i64 (f-1))).bind fun _=>(tF j (FN .i64 (f-1)) B).bind fun C=>some (.next ((FN .i64 (f-1)),C)))else(some (.stop (s1,g))))else(some (.stop (s1,g)))
def jU(a1:Int)(a0:Int)(d1:(List aw)):(Int×(List Int))->Option (il (Int×(List Int)) ((List Int))):=fun(s1,s2)=>
  if(decide (s1<a1))=true then((cI (jT a0 d1 s1) (s1,s2)).bind fun f=>some (.next ((FN .i64 (f.1+1)),f.2)))else((some s2).bind fun z33=>some (.stop z33))
def db(a0:Int)(a1:Int)(d0:(List Int))(d1:(List aw)):Option ((List Int)):=
  (cI (jU a1 a0 d1) ((FN .i64 (a0+1)),d0)).bind fun f=>some f
def ig(a0:Int)(d1:(List aw)):(Int×Int×(List Int))->Option (il (Int×Int×(List Int)) (Int×(List Int))):=fun(s1,s2,f)=>
  if(decide (s2<=a0))=true then((db s1 s2 f d1).bind fun g=>some (.next (s2,(FN .i64 (s2+20)),g)))else(some (.stop (s1,f)))
def l8(f:Int)(a0:Int):Unit->Option (il (Unit) (Int)):=fun _=>
  if(decide ((FN .i64 (2*f))<=a0))=true then(none)else(some (.stop f))
def gD(a0:Int)(j:(List Int)):Int->Option (il (Int) ((List Int))):=fun g=>
  if(decide (g<a0))=true then((cI (l8 g a0) ()).bind fun f=>if(decide ((FN .i64 (0+f))<a0))=true then(none)else(some (.next (FN .i64 (f*2)))))else((some j).bind fun z21=>some (.stop z21))
def dX(a0:Int)(d0:(List Int))(d1:(List aw)):Option ((List Int)):=
  (cI (ig a0 d1) (0,20,d0)).bind fun f=>(db f.1 a0 f.2 d1).bind fun j=>(cI (gD a0 j) 20).bind fun g=>some g
def dQ(d0:(List Int))(d1:(List aw)):Option ((List Int)):=
  (dX (d0.length:Int) d0 d1).bind fun f=>some f
def la(g:(List Int)):(Int×(List Int))->Option (il (Int×(List Int)) ((List Int))):=fun(s2,f)=>
  if(decide (s2<(g.length:Int)))=true then((inO f s2).bind fun _=>(tF f s2 s2).bind fun j=>some (.next ((FN .i64 (s2+1)),j)))else(some (.stop f))
def lC(a0:(List aw)):Option ((List Int)):=
  (mkO (a0.length:Int) 0 8).bind fun j=>(cI (la j) (0,j)).bind fun f=>(dQ f a0).bind fun g=>some g
def je(a0:Int):(Int×(List Int)×(List Int))->Option (il (Int×(List Int)×(List Int)) ((List Int)×(List Int))):=fun(f,j,k)=>
  if(decide (f<(FN .i64 (a0+1))))=true then((wQ (FN .i64 (f+1)) (FN .i64 (a0+1))).bind fun g=>(wQ (FN .i64 (f+1)) (FN .i64 (a0+1))).bind fun q=>(inO j f).bind fun _=>(tF j f q).bind fun r=>(inO k g).bind fun _=>(tF k g f).bind fun u=>some (.next ((FN .i64 (f+1)),r,u)))else(some (.stop (j,k)))
def jd(a0:Int):Option (cx):=
  (mkO (FN .i64 (a0+1)) 0 8).bind fun g=>(mkO (FN .i64 (a0+1)) 0 8).bind fun j=>(cI (je a0) (0,g,j)).bind fun f=>some (cx.mk f.1 f.2)
def mP(a0:cx):Option (Int):=
  some (FN .i64 ((a0.fnext.length:Int)-1))
def dv(d0:(List Int))(d1:(List Int))(a3:(List Int))(a2:(List aw))(C:Int)(a1:bh):(Int×(List Int))->Option (il (Int×(List Int)) ((List Int))):=fun(f,g)=>
  (mP (cx.mk d0 d1)).bind fun D=>if(f != D)=true then(if(decide ((g.length:Int)<16))=true then((nZ a3 f).bind fun j=>(nZ a2 j).bind fun k=>(nZ a3 C).bind fun q=>(nZ a2 q).bind fun r=>if(decide ((FN .i64 (k.bv-r.bv))<=a1.cw))=true then((rE g [f] 8).bind fun u=>(inO d0 f).bind fun _=>(nZ d0 f).bind fun B=>some (.next (B,u)))else(some (.stop g)))else(some (.stop g)))else(some (.stop g))
def nC(a1:bh)(a2:(List aw))(a3:(List Int))(d0:(List Int))(d1:(List Int)):Option ((List Int)×(List Int)×(List Int)):=
  (mP (cx.mk d0 d1)).bind fun g=>(inO d0 g).bind fun _=>(nZ d0 g).bind fun j=>(cI (dv d0 d1 a3 a2 j a1) (j,([]:(List Int)))).bind fun f=>some (f,d0,d1)
def fF(a0:bh)(a1:(List aw)):Option (ak):=
  some (ak.mk a0.bn a0.bJ a1 a0.dw)
def lc(a0:ak):Int->Option (il (Int) ((Unit)⊕(Int))):=fun g=>
  if(decide (g<(a0.bK.length:Int)))=true then((nZ a0.bK g).bind fun j=>(eD a0.bJ a0.bn j).bind fun f=>if(f.2 != 0)=true then(some (.stop (.inr f.2)))else(some (.next (FN .i64 (g+1)))))else(some (.stop (.inl ())))
def jz(a0:ak):Option (Int):=
  (cp a0.bn).bind fun k=>if(!k)=true then(some 20)else((ed a0.bJ).bind fun j=>if(j != 0)=true then(some j)else(if((a0.bK.length:Int)==0)=true then(some 24)else(if(decide ((a0.bK.length:Int)>64))=true then(some 8)else(if(decide (a0.dw<1))=true then(some 2)else(if(decide (a0.dw>1099511627776))=true then(some 2)else((cI (lc a0) 0).bind fun f=>match f with| .inl _=>(some 0)| .inr g=>(some g)))))))
def gR(a0:al)(a1:ag):Option (Bool):=
  (cp a0).bind fun f=>if f=true then((dZ a1).bind fun g=>if g=true then((f8 a0 a1).bind fun j=>some (j==0))else(some false))else(some false)
def lF(a0:al)(a1:al):Option (Bool):=
  (cp a0).bind fun f=>if f=true then((gR a1 a0.bt).bind fun g=>if g=true then((gR a1 a0.bd).bind fun j=>some j)else(some false))else(some false)
def kY(a0:ak)(a1:al):(Int×(List bz))->Option (il (Int×(List bz)) (((List bz))⊕((List bz)×Int))):=fun(s2,j)=>
  if(decide (s2<(a0.bK.length:Int)))=true then((nZ a0.bK s2).bind fun k=>(eD a0.bJ a1 k).bind fun g=>if(g.2 != 0)=true then(some (.stop (.inr (([]:(List bz)),g.2))))else((rE j [g.1] 16).bind fun f=>some (.next ((FN .i64 (s2+1)),f))))else(some (.stop (.inl j)))
def nH(a0:ak)(a1:al):Option ((List bz)×Int):=
  (Am 0 (a0.bK.length:Int) (bz.mk 0 0) 16).bind fun k=>(cI (kY a0 a1) (0,k)).bind fun f=>match f with| .inl j=>(some (j,0))| .inr g=>(some g)
def ia(a0:ak)(a1:al):Option ((List bz)×Int):=
  (jz a0).bind fun f=>if(f != 0)=true then(some (([]:(List bz)),f))else((lF a1 a0.bn).bind fun j=>if(!j)=true then(some (([]:(List bz)),20))else((nH a0 a1).bind fun g=>some (g.1,g.2)))
def gK(a0:bz)(a1:Int):Option (Int):=
  some (if 0>(if(FN .i64 (a1-a0.fTo))>(FN .i64 (a0.b7-a1))then(FN .i64 (a1-a0.fTo))else(FN .i64 (a0.b7-a1)))then 0 else(if(FN .i64 (a1-a0.fTo))>(FN .i64 (a0.b7-a1))then(FN .i64 (a1-a0.fTo))else(FN .i64 (a0.b7-a1))))
def lI(a0:ak)(a1:(List bz))(a2:Int):(Int×Int)->Option (il (Int×Int) (Int)):=fun(s1,s2)=>
  if(decide (s2<(a0.bK.length:Int)))=true then((nZ a0.bK s2).bind fun g=>if(decide (s2<(a1.length:Int)))=true then((nZ a1 s2).bind fun j=>(gK j a2).bind fun f=>some (.next ((FN .i64 (s1+(FN .i64 (g.cz*(if f<a0.dw then f else a0.dw))))),(FN .i64 (s2+1)))))else(some (.next (s1,(FN .i64 (s2+1))))))else(some (.stop s1))
def kw(a0:ak)(a1:(List bz))(a2:Int):Option (Int):=
  (cI (lI a0 a1 a2) (0,0)).bind fun f=>some f
def my(a1:(List bz)):(Int×(List Int))->Option (il (Int×(List Int)) ((List Int))):=fun(s2,f)=>
  if(decide (s2<(a1.length:Int)))=true then((nZ a1 s2).bind fun g=>(rE f [g.b7,g.fTo] 8).bind fun j=>some (.next ((FN .i64 (s2+1)),j)))else(some (.stop f))
def lH(u:Int)(r:(List Int))(a0:ak)(a1:(List bz)):(Int×Int×Int)->Option (il (Int×Int×Int) (Int×Int)):=fun(j,g,f)=>
  if(decide (f<u))=true then((inV r.length (0+(1:Int).toNat) (0+((r.length:Int):Int).toNat) f).bind fun _=>(nZ r (((0+(1:Int).toNat)+(f:Int).toNat:Nat):Int)).bind fun k=>(kw a0 a1 k).bind fun q=>if(decide (q<g))=true then(some (.next (k,q,(FN .i64 (f+1)))))else(if(q==g)=true then(if(decide (k<j))=true then(some (.next (k,q,(FN .i64 (f+1)))))else(some (.next (j,g,(FN .i64 (f+1))))))else(some (.next (j,g,(FN .i64 (f+1)))))))else(some (.stop (j,g)))
def ku(a0:ak)(a1:(List bz)):Option (Int×Int):=
  (Am 0 (FN .i64 (2*(a1.length:Int))) 0 8).bind fun u=>(cI (my a1) (0,u)).bind fun f=>if((f.length:Int)==0)=true then(some (0,0))else((inO f 0).bind fun _=>(nZ f 0).bind fun j=>(inO f 0).bind fun _=>(nZ f 0).bind fun k=>(kw a0 a1 k).bind fun q=>(vB f.length 1 (f.length:Int)).bind fun _=>(lenV f.length (0+(1:Int).toNat) (0+((f.length:Int):Int).toNat)).bind fun r=>(cI (lH r f a0 a1) (j,q,0)).bind fun g=>some (g.1,g.2))
def fT(a0:ak)(a1:al):Option (Int×Int):=
  (ia a0 a1).bind fun f=>if(f.2 != 0)=true then(some (0,f.2))else((ku a0 f.1).bind fun g=>some (g.2,0))
def oX(a0:aq)(g:ak)(e2:Int)(j:Int)(k:Bool)(q:ap):Option ((List aq)):=
  (rE ([]:List aq) [a0] 64).bind fun f=>some f
def jL(a0:(List aq)):Option (Int):=
  some (a0.length:Int)
def ky(a0:(List aq))(a1:Int)(a2:Int):Option (Bool):=
  (nZ a0 a1).bind fun f=>(nZ a0 a2).bind fun g=>(cb f.dx g.dx).bind fun j=>(nZ a0 a1).bind fun k=>(nZ a0 a2).bind fun q=>(cb k.mo q.mo).bind fun r=>(dC [j,r]).bind fun u=>some (decide (u<0))
def kz(a1:Int)(a2:Int)(d0:(List aq)):Option ((List aq)):=
  (inO d0 a2).bind fun _=>(nZ d0 a2).bind fun j=>(inO d0 a1).bind fun _=>(nZ d0 a1).bind fun k=>(inO d0 a1).bind fun _=>(tF d0 a1 j).bind fun g=>(inO g a2).bind fun _=>(tF g a2 k).bind fun f=>some f
def og:(Int×(List aq))->Option (il (Int×(List aq)) ((List aq))):=fun(s1,s2)=>
  (tu .i64 (FN .i64 (s1-1)) 2).bind fun f=>if(f==s1)=true then((some s2).bind fun k=>some (.stop k))else((ky s2 s1 f).bind fun j=>if(!j)=true then((some s2).bind fun z9=>some (.stop z9))else((kz f s1 s2).bind fun g=>some (.next (f,g))))
def oT(a0:Int)(g:ak)(e2:Int)(j:Int)(k:Bool)(q:ap)(d1:(List aq)):Option ((List aq)):=
  (cI (og) (a0,d1)).bind fun f=>some f
def mR(a0:aq)(f:ak)(e2:Int)(g:Int)(j:Bool)(k:ap):Option ((List aq)):=
  (oX a0 f e2 g j k).bind fun q=>(jL q).bind fun r=>(oT (FN .i64 (r-1)) f e2 g j k q).bind fun u=>some u
def nh(j:Int×Int)(f:Int)(g:(List aq)):Option (Int×(List aq)×Int):=
  some (j.2,g,f)
def mY(a0:al)(g:ak)(e2:Int)(j:Int)(k:Bool)(q:ap):Option (Int×(List aq)×Int):=
  (fT g a0).bind fun f=>if(f.2==0)=true then((mR (aq.mk a0 f.1 e2) g e2 j k q).bind fun r=>nh f (FN .i64 (e2+1)) r)else(nh f e2 ([]:List aq))
def k7(a0:Int)(k:ak)(e2:Int)(q:Int)(f:Bool)(g:ap)(d1:(List aq)):Option (Bool):=
  if((d1.length:Int)==0)=true then(some true)else(if f=true then((inO d1 0).bind fun _=>(nZ d1 0).bind fun j=>some (decide ((FN .i64 (g.b8-j.dx))<=a0)))else(some false))
def f9(s2:(List aq))(s1:Int)(f:Int):Option (il (Int×(List aq)) (Int×(List aq))):=
  (ky s2 f s1).bind fun j=>if(!j)=true then(some (.stop (s1,s2)))else((kz s1 f s2).bind fun g=>some (.next (f,g)))
def ot(a1:Int):(Int×(List aq))->Option (il (Int×(List aq)) (Int×(List aq))):=fun(s1,s2)=>
  if(decide ((FN .i64 ((FN .i64 (2*s1))+1))>=a1))=true then(some (.stop (s1,s2)))else(if(decide ((FN .i64 ((FN .i64 (2*s1))+1))<0))=true then(some (.stop (s1,s2)))else(if(decide ((FN .i64 ((FN .i64 ((FN .i64 (2*s1))+1))+1))<a1))=true then((ky s2 (FN .i64 ((FN .i64 ((FN .i64 (2*s1))+1))+1)) (FN .i64 ((FN .i64 (2*s1))+1))).bind fun f=>if f=true then(f9 s2 s1 (FN .i64 ((FN .i64 ((FN .i64 (2*s1))+1))+1)))else(f9 s2 s1 (FN .i64 ((FN .i64 (2*s1))+1))))else(f9 s2 s1 (FN .i64 ((FN .i64 (2*s1))+1)))))
def nM(a0:Int)(a1:Int)(e2:ak)(g:Int)(j:Int)(k:Bool)(q:ap)(d1:(List aq)):Option (Bool×(List aq)):=
  (cI (ot a1) (a0,d1)).bind fun f=>some ((decide (f.1>a0)),f.2)
def ql(g:ak)(j:Int)(e2:Int)(k:Bool)(q:ap)(d1:(List aq)):Option (aq×(List aq)):=
  (inO d1 (FN .i64 ((d1.length:Int)-1))).bind fun _=>(nZ d1 (FN .i64 ((d1.length:Int)-1))).bind fun f=>(vB d1.length 0 (FN .i64 ((d1.length:Int)-1))).bind fun _=>some (f,(d1.take ((FN .i64 ((d1.length:Int)-1)):Int).toNat))
def nR(f:ak)(g:Int)(e2:Int)(j:Bool)(k:ap)(d1:(List aq)):Option (aq×(List aq)):=
  (jL d1).bind fun q=>(kz 0 (FN .i64 (q-1)) d1).bind fun u=>(nM 0 (FN .i64 (q-1)) f g e2 j k u).bind fun B=>(ql f g e2 j k B.2).bind fun r=>some (r.1,r.2)
def ct(a0:Int)(a1:Int):Option (Int):=
  (tu .i64 (FN .i64 (a1-a0)) 2).bind fun f=>some (FN .i64 (a0+f))
def b9(a0:bN):Option (ag):=
  some (ag.mk a0.a0 a0.a1 a0.a2)
def gJ(a0:al):Option (ag):=
  (cp a0).bind fun j=>if(!j)=true then(some (ag.mk 0 0 0))else((bX a0.bt).bind fun f=>(bX a0.bd).bind fun g=>(ct f.a0 g.a0).bind fun k=>(ct f.a1 g.a1).bind fun q=>(ct f.a2 g.a2).bind fun r=>(b9 (bN.mk k q r)).bind fun u=>some u)
def jK(a0:ak)(a1:ag):Option (Int×Int×Int):=
  (ia a0 (al.mk a1 a1)).bind fun f=>if(f.2 != 0)=true then(some (0,0,f.2))else((ku a0 f.1).bind fun g=>some (g.1,g.2,0))
def lY(a0:al)(q:ak)(e2:Int)(u:Int)(k:Bool)(g:ap)(d1:(List aq)):Option (Int×Bool×ap):=
  (gJ a0).bind fun j=>(jK q j).bind fun f=>if(f.2.2 != 0)=true then(some (f.2.2,k,g))else(if(!k)=true then(some (0,true,(ap.mk j f.1 f.2.1 0 (al.mk (ag.mk 0 0 0) (ag.mk 0 0 0)))))else(if(decide (f.2.1<g.b8))=true then(some (0,true,(ap.mk j f.1 f.2.1 0 (al.mk (ag.mk 0 0 0) (ag.mk 0 0 0)))))else(if(f.2.1==g.b8)=true then((fd j g.bM).bind fun r=>if(decide (r<0))=true then(some (0,true,(ap.mk j f.1 f.2.1 0 (al.mk (ag.mk 0 0 0) (ag.mk 0 0 0)))))else(some (0,k,g)))else(some (0,k,g)))))
def lE(a0:al):Option (Int):=
  (cp a0).bind fun j=>if(!j)=true then(some 0)else((bX a0.bd).bind fun f=>(bX a0.bt).bind fun g=>some (FN .i64 ((FN .i64 ((FN .i64 (1*(FN .i64 ((FN .i64 (f.a0-g.a0))+1))))*(FN .i64 ((FN .i64 (f.a1-g.a1))+1))))*(FN .i64 ((FN .i64 (f.a2-g.a2))+1)))))
def fo(a0:al):Option (al×al×Bool):=
  (lE a0).bind fun G=>if(decide (G<2))=true then(some ((al.mk (ag.mk 0 0 0) (ag.mk 0 0 0)),(al.mk (ag.mk 0 0 0) (ag.mk 0 0 0)),false))else((bX a0.bt).bind fun f=>(bX a0.bd).bind fun g=>if(decide ((FN .i64 (g.a1-f.a1))>(FN .i64 (g.a0-f.a0))))=true then(if(decide ((FN .i64 (g.a2-f.a2))>(FN .i64 (g.a1-f.a1))))=true then((ct f.a2 g.a2).bind fun F=>(b9 (bN.mk g.a0 g.a1 F)).bind fun H=>(b9 (bN.mk f.a0 f.a1 (FN .i64 (F+1)))).bind fun I=>some ((al.mk a0.bt H),(al.mk I a0.bd),true))else((ct f.a1 g.a1).bind fun j=>(b9 (bN.mk g.a0 j g.a2)).bind fun r=>(b9 (bN.mk f.a0 (FN .i64 (j+1)) f.a2)).bind fun u=>some ((al.mk a0.bt r),(al.mk u a0.bd),true)))else(if(decide ((FN .i64 (g.a2-f.a2))>(FN .i64 (g.a0-f.a0))))=true then((ct f.a2 g.a2).bind fun k=>(b9 (bN.mk g.a0 g.a1 k)).bind fun B=>(b9 (bN.mk f.a0 f.a1 (FN .i64 (k+1)))).bind fun C=>some ((al.mk a0.bt B),(al.mk C a0.bd),true))else((ct f.a0 g.a0).bind fun q=>(b9 (bN.mk q g.a1 g.a2)).bind fun D=>(b9 (bN.mk (FN .i64 (q+1)) f.a1 f.a2)).bind fun E=>some ((al.mk a0.bt D),(al.mk E a0.bd),true))))
def oh(a0:aq)(g:ak)(e2:Int)(j:Int)(k:Bool)(q:ap)(d1:(List aq)):Option ((List aq)):=
  (rE d1 [a0] 64).bind fun f=>some f
def lP(a0:aq)(f:ak)(e2:Int)(g:Int)(j:Bool)(k:ap)(d1:(List aq)):Option ((List aq)):=
  (oh a0 f e2 g j k d1).bind fun q=>(jL q).bind fun r=>(oT (FN .i64 (r-1)) f e2 g j k q).bind fun u=>some u
def mF(j:Int×Int)(f:Int)(g:(List aq)):Option (Int×Int×(List aq)):=
  some (j.2,f,g)
def kF(a0:al)(g:ak)(e2:Int)(j:Int)(k:Bool)(q:ap)(d1:(List aq)):Option (Int×Int×(List aq)):=
  (fT g a0).bind fun f=>if(f.2==0)=true then((lP (aq.mk a0 f.1 e2) g e2 j k q d1).bind fun r=>mF f (FN .i64 (e2+1)) r)else(mF f e2 d1)
def lZ(q:ak)(k:Int)(e2:Int)(u:Bool)(B:ap)(d1:(List aq)):Option (Int×Int×Int×Bool×ap×(List aq)):=
  if(e2==3000)=true then(some (25,k,e2,u,B,d1))else((inO d1 0).bind fun _=>(nZ d1 0).bind fun D=>(nR q k e2 u B d1).bind fun r=>(lY D.mI q k (FN .i64 (e2+1)) u B r.2).bind fun f=>if(f.1 != 0)=true then(some (f.1,k,(FN .i64 (e2+1)),f.2.1,f.2.2,r.2))else((fo D.mI).bind fun C=>if(!C.2.2)=true then(some (0,k,(FN .i64 (e2+1)),f.2.1,f.2.2,r.2))else((kF C.1 q k (FN .i64 (e2+1)) f.2.1 f.2.2 r.2).bind fun g=>if(g.1 != 0)=true then(some (g.1,g.2.1,(FN .i64 (e2+1)),f.2.1,f.2.2,g.2.2))else((kF C.2.1 q g.2.1 (FN .i64 (e2+1)) f.2.1 f.2.2 g.2.2).bind fun j=>some (j.1,j.2.1,(FN .i64 (e2+1)),f.2.1,f.2.2,j.2.2)))))
def mu(a1:Int)(a0:ak):(Int×Int×Bool×ap×(List aq))->Option (il (Int×Int×Bool×ap×(List aq)) (((List aq)×Int×Int×Bool×ap)⊕((Option cm)×Int))):=fun(j,k,q,r,g)=>
  (k7 a1 a0 j k q r g).bind fun u=>if(!u)=true then((lZ a0 j k q r g).bind fun f=>if(f.1 != 0)=true then(some (.stop (.inr (none,f.1))))else(some (.next (f.2.1,f.2.2.1,f.2.2.2.1,f.2.2.2.2.1,f.2.2.2.2.2))))else(some (.stop (.inl (g,j,k,q,r))))
def kq(a0:ak)(a1:Int):Option ((Option cm)×Int):=
  (jz a0).bind fun q=>if(q != 0)=true then(some (none,q))else(if(decide (a1<0))=true then(some (none,2))else((mY a0.bn a0 0 0 false (ap.mk (ag.mk 0 0 0) 0 0 0 (al.mk (ag.mk 0 0 0) (ag.mk 0 0 0)))).bind fun g=>if(g.1 != 0)=true then(some (none,g.1))else((cI (mu a1 a0) (g.2.2,0,false,(ap.mk (ag.mk 0 0 0) 0 0 0 (al.mk (ag.mk 0 0 0) (ag.mk 0 0 0))),g.2.1)).bind fun j=>match j with| .inl f=>(some ((some (cm.mk a0 f.1 f.2.1 f.2.2.1 f.2.2.2.1 (ap.mk (ag.mk f.2.2.2.2.bM.fX f.2.2.2.2.bM.fY f.2.2.2.2.bM.fZ) f.2.2.2.2.bS f.2.2.2.2.b8 f.2.2.2.2.mn (al.mk (ag.mk f.2.2.2.2.ch.bt.fX f.2.2.2.2.ch.bt.fY f.2.2.2.2.ch.bt.fZ) (ag.mk f.2.2.2.2.ch.bd.fX f.2.2.2.2.ch.bd.fY f.2.2.2.2.ch.bd.fZ))))),0))| .inr k=>(some k))))
def m9(a0:al)(a1:al):Option (al):=
  (cp a0).bind fun r=>if(!r)=true then(some (al.mk (ag.mk 0 0 0) (ag.mk 0 0 0)))else((cp a1).bind fun u=>if(!u)=true then(some (al.mk (ag.mk 0 0 0) (ag.mk 0 0 0)))else((bX a0.bt).bind fun f=>(bX a0.bd).bind fun g=>(bX a1.bt).bind fun j=>(bX a1.bd).bind fun k=>(b9 (bN.mk (if j.a0<f.a0 then j.a0 else f.a0) (if j.a1<f.a1 then j.a1 else f.a1) (if j.a2<f.a2 then j.a2 else f.a2))).bind fun B=>(b9 (bN.mk (if k.a0>g.a0 then k.a0 else g.a0) (if k.a1>g.a1 then k.a1 else g.a1) (if k.a2>g.a2 then k.a2 else g.a2))).bind fun q=>some (al.mk B q)))
def mr(r:cm):(Int×Int×al)->Option (il (Int×Int×al) (Int×al)):=fun(j,g,k)=>
  if(decide (j<(r.mp.length:Int)))=true then((nZ r.mp j).bind fun f=>if(decide (f.dx<r.cu.b8))=true then((m9 k f.mI).bind fun q=>some (.next ((FN .i64 (j+1)),(if f.dx<g then f.dx else g),q)))else(some (.next ((FN .i64 (j+1)),(if f.dx<g then f.dx else g),k))))else(some (.stop (g,k)))
def dK(a0:ak)(a1:Int):Option (ap×Int):=
  (kq a0 a1).bind fun j=>optC j.1 (if(j.2 != 0)=true then(some ((ap.mk (ag.mk 0 0 0) 0 0 0 (al.mk (ag.mk 0 0 0) (ag.mk 0 0 0))),j.2))else(none)) (fun g=>if(j.2 != 0)=true then(some ((ap.mk (ag.mk 0 0 0) 0 0 0 (al.mk (ag.mk 0 0 0) (ag.mk 0 0 0))),j.2))else((cI (mr g) (0,g.cu.b8,(al.mk g.cu.bM g.cu.bM))).bind fun f=>some ((ap.mk g.cu.bM g.cu.bS g.cu.b8 f.1 (al.mk (ag.mk f.2.bt.fX f.2.bt.fY f.2.bt.fZ) (ag.mk f.2.bd.fX f.2.bd.fY f.2.bd.fZ))),0)))
def hJ(r:(List bz)×Int)(a2:Int):(Int×(List Int))->Option (il (Int×(List Int)) ((List Int))):=fun(f,q)=>
  if(decide (f<(r.1.length:Int)))=true then((nZ r.1 f).bind fun g=>(gK g a2).bind fun j=>(rE q [j] 8).bind fun k=>some (.next ((FN .i64 (f+1)),k)))else(some (.stop q))
def iJ(a0:ak)(a1:ag)(a2:Int):Option ((List Int)×Int):=
  (ia a0 (al.mk a1 a1)).bind fun f=>if(f.2 != 0)=true then(some (([]:(List Int)),f.2))else(if(decide (a2<(-18014398509481984)))=true then(some (([]:(List Int)),2))else(if(decide (a2>18014398509481984))=true then(some (([]:(List Int)),2))else((Am 0 (f.1.length:Int) 0 8).bind fun j=>(cI (hJ f a2) (0,j)).bind fun g=>some (g,0))))
def mg(a1:Int)(d0:(List Int))(d1:(List Int)):Option ((List Int)×(List Int)):=
  (inO d1 a1).bind fun _=>(nZ d1 a1).bind fun k=>(inO d0 a1).bind fun _=>(nZ d0 a1).bind fun q=>(inO d0 a1).bind fun _=>(nZ d0 a1).bind fun r=>(inO d1 a1).bind fun _=>(nZ d1 a1).bind fun f=>(inO d0 k).bind fun _=>(tF d0 k r).bind fun g=>(inO d1 q).bind fun _=>(tF d1 q f).bind fun j=>some (g,j)
def dc(f:(List Int)×(List Int)×(List Int))(C:(List Int))(j:(List bB))(k:(List Int)):Option (il ((List bB)×(List Int)×(List Int)×(List Int)) (((List bB)×(List Int))⊕((List bB)×(List Int)×Int))):=
  (nZ f.1 0).bind fun q=>(nZ C q).bind fun r=>(rE k [r] 8).bind fun u=>(nZ f.1 0).bind fun B=>(mg B f.2.1 f.2.2).bind fun g=>some (.next (j,u,g.1,g.2))
def ej(j:(List Int)×(List Int)×(List Int))(D:(List Int))(a1:(List aw))(B:(List bB))(C:(List Int)):(Int×(List aw))->Option (il (Int×(List aw)) ((List aw)×(List bB)×(List Int))):=fun(f,g)=>
  if(decide (f<(j.1.length:Int)))=true then((nZ j.1 f).bind fun k=>(nZ D k).bind fun q=>(nZ a1 q).bind fun r=>(rE g [r] 48).bind fun u=>some (.next ((FN .i64 (f+1)),u)))else(some (.stop (g,B,C)))
def ek(j:(List Int)×(List Int)×(List Int))(k:(List Int)×Int)(a0:bh):(Int×(List Int))->Option (il (Int×(List Int)) ((List Int))):=fun(f,g)=>
  if(decide (f<(j.1.length:Int)))=true then((nZ j.1 f).bind fun q=>(nZ k.1 f).bind fun r=>if(decide (r<=a0.dT))=true then((rE g [q] 8).bind fun u=>some (.next ((FN .i64 (f+1)),u)))else(some (.next ((FN .i64 (f+1)),g))))else(some (.stop g))
def de(g:(List Int))(D:(List Int)):(Int×(List Int)×(List Int)×(List Int))->Option (il (Int×(List Int)×(List Int)×(List Int)) ((List Int)×(List Int)×(List Int))):=fun(f,j,k,q)=>
  if(decide (f<(g.length:Int)))=true then((inO g f).bind fun _=>(nZ g f).bind fun r=>(mg r j k).bind fun u=>(nZ D r).bind fun B=>(rE q [B] 8).bind fun C=>some (.next ((FN .i64 (f+1)),u.1,u.2,C)))else(some (.stop (j,k,q)))
def cy(a0:bh)(a1:(List aw))(C:(List Int)):((List bB)×(List Int)×(List Int)×(List Int))->Option (il ((List bB)×(List Int)×(List Int)×(List Int)) (((List bB)×(List Int))⊕((List bB)×(List Int)×Int))):=fun(D,E,u,F)=>
  (mP (cx.mk u F)).bind fun B=>(inO u B).bind fun _=>(nZ u B).bind fun G=>(mP (cx.mk u F)).bind fun H=>if(G != H)=true then((nC a0 a1 C u F).bind fun f=>if(decide ((f.1.length:Int)>=a0.cq))=true then((cI (ej f C a1 D E) (0,([]:(List aw)))).bind fun g=>(fF a0 g.1).bind fun I=>(dK I a0.bA).bind fun j=>if(j.2 != 0)=true then(some (.stop (.inr (([]:(List bB)),([]:(List Int)),j.2))))else((fF a0 g.1).bind fun J=>(iJ J j.1.bM j.1.bS).bind fun q=>if(q.2 != 0)=true then(some (.stop (.inr (([]:(List bB)),([]:(List Int)),q.2))))else((cI (ek f q a0) (0,([]:(List Int)))).bind fun r=>if(decide ((r.length:Int)>=a0.cq))=true then((cI (de r C) (0,f.2.1,f.2.2,([]:(List Int)))).bind fun k=>(tR k.2.2).bind fun K=>(rE g.2.1 [(bB.mk K j.1.bM j.1.bS)] 56).bind fun L=>some (.next (L,g.2.2,k.1,k.2.1)))else(dc f C g.2.1 g.2.2))))else(dc f C D E))else(some (.stop (.inl (D,E))))
def iu(a0:bh)(a1:(List aw)):Option ((List bB)×(List Int)×Int):=
  (ef a0 a1).bind fun q=>if(q != 0)=true then(some (([]:(List bB)),([]:(List Int)),q))else((lC a1).bind fun u=>(jd (a1.length:Int)).bind fun r=>(cI (cy a0 a1 u) (([]:(List bB)),([]:(List Int)),r.fnext,r.fback)).bind fun g=>match g with| .inl f=>((tR f.2).bind fun k=>some (f.1,k,0))| .inr j=>(some j))
def iB(D:(List aa))(a0:ah)(a1:ae):(Int×(List aa)×(List aw)×(List az))->Option (il (Int×(List aa)×(List aw)×(List az)) ((List aa)×(List aw)×(List az))):=fun(g,k,q,r)=>
  if(decide (g<(D.length:Int)))=true then((inO D g).bind fun _=>(nZ D g).bind fun j=>(eC a0 a1 j).bind fun f=>if f.2.2=true then((rE k [j] 104).bind fun u=>(rE q [f.1] 48).bind fun B=>(rE r [f.2.1] 80).bind fun C=>some (.next ((FN .i64 (g+1)),u,B,C)))else(some (.next ((FN .i64 (g+1)),k,q,r))))else(some (.stop (k,q,r)))
def jG(a0:ah)(a1:ae)(a2:(List aa)):Option (bD×Int):=
  (eH a0).bind fun g=>if(g != 0)=true then(some ((bD.mk [] [] []),27))else((cL a1).bind fun j=>if(!j)=true then(some ((bD.mk [] [] []),1))else((da a2).bind fun k=>(cI (iB k a0 a1) (0,([]:(List aa)),([]:(List aw)),([]:(List az)))).bind fun f=>some ((bD.mk f.1 f.2.1 f.2.2),0)))
def kX(a0:bD)(a1:ah):Option (ak×Int):=
  if((a0.fj.length:Int)==0)=true then(some ((ak.mk (al.mk (ag.mk 0 0 0) (ag.mk 0 0 0)) (bc.mk 0 [] []) [] 0),24))else(if(decide ((a0.fj.length:Int)>64))=true then(some ((ak.mk (al.mk (ag.mk 0 0 0) (ag.mk 0 0 0)) (bc.mk 0 [] []) [] 0),8))else((rV 8 a1.ac.bJ.bt).bind fun f=>(rV 8 a1.ac.bJ.bd).bind fun g=>some ((ak.mk a1.ac.bn (bc.mk a1.ac.bJ.bR f g) a0.fj a1.ac.dw),0)))
def pO:(Int×(List Int))->Option (il (Int×(List Int)) ((List Int))):=fun(s2,f)=>
  if(decide (s2>0))=true then((wQ s2 1073741824).bind fun g=>(rE f [g] 8).bind fun j=>some (.next ((sc .i64 s2 30),j)))else(some (.stop f))
def re(a0:Int):Option ((List Int)×Int):=
  if(decide (a0<0))=true then(some (([]:(List Int)),2))else((cI (pO) (a0,([]:(List Int)))).bind fun f=>some (f,0))
def nW(a0:Int):Option (Bool):=
  if(decide (a0<0))=true then(some true)else(some (decide (a0>=1073741824)))
def fD(a0:(List Int)):Int->Option (il (Int) ((Unit)⊕(Int))):=fun s1=>
  if(decide (s1<(a0.length:Int)))=true then((nZ a0 s1).bind fun f=>(nW f).bind fun g=>if g=true then(some (.stop (.inr s1)))else(some (.next (FN .i64 (s1+1)))))else(some (.stop (.inl ())))
def gu(a0:(List Int)):Option (Int):=
  (cI (fD a0) 0).bind fun g=>match g with| .inl _=>(some (-1))| .inr f=>(some f)
def di(a0:(List Int)):Option (Bool):=
  (gu a0).bind fun f=>some (decide (f>=0))
def lX(a0:(List Int)):Option (Bool):=
  if(decide ((a0.length:Int)>64))=true then(some false)else(if(decide ((a0.length:Int)>0))=true then((nZ a0 (FN .i64 ((a0.length:Int)-1))).bind fun f=>if(f==0)=true then(some false)else((di a0).bind fun g=>some (!g)))else((di a0).bind fun j=>some (!j)))
def pP(a0:(List Int))(a1:(List Int)):Option (Bool):=
  (lX a0).bind fun f=>if f=true then((lX a1).bind fun g=>some g)else(some false)
def nO(a0:(List Int))(a1:Int):Option (Int):=
  if(decide (a1>=(a0.length:Int)))=true then(some 0)else((nZ a0 a1).bind fun f=>some f)
def pR:(List Int)->Option (il ((List Int)) ((List Int))):=fun s1=>
  if(decide ((s1.length:Int)>0))=true then((nZ s1 (FN .i64 ((s1.length:Int)-1))).bind fun f=>if(f==0)=true then((zq s1 0 (FN .i64 ((s1.length:Int)-1))).bind fun g=>some (.next g))else(some (.stop s1)))else(some (.stop s1))
def pQ(a0:(List Int)):Option ((List Int)):=
  (cI (pR) a0).bind fun f=>some f
def mU(a1:(List Int))(s2:Int)(B:Int):(Int×Int×(List Int))->Option (il (Int×Int×(List Int)) (Int×(List Int))):=fun(q,g,f)=>
  if(decide (g<(FN .i64 ((a1.length:Int)+1))))=true then(if(decide ((FN .i64 (s2+g))<(f.length:Int)))=true then((inO f (FN .i64 (s2+g))).bind fun _=>(nZ f (FN .i64 (s2+g))).bind fun j=>(nO a1 g).bind fun k=>(wQ (FN .i64 (q+(FN .i64 (j+(FN .i64 (B*k)))))) 1073741824).bind fun r=>(inO f (FN .i64 (s2+g))).bind fun _=>(tF f (FN .i64 (s2+g)) r).bind fun u=>some (.next ((sc .i64 (FN .i64 (q+(FN .i64 (j+(FN .i64 (B*k)))))) 30),(FN .i64 (g+1)),u)))else(some (.next (q,(FN .i64 (g+1)),f))))else(some (.stop (s2,f)))
def mV(a0:(List Int))(a1:(List Int)):(Int×(List Int))->Option (il (Int×(List Int)) ((List Int))):=fun(s2,g)=>
  if(decide (s2<(a0.length:Int)))=true then((nZ a0 s2).bind fun j=>(cI (mU a1 s2 j) (0,0,g)).bind fun f=>some (.next ((FN .i64 (f.1+1)),f.2)))else(some (.stop g))
def kZ(a0:(List Int))(a1:(List Int)):Option ((List Int)):=
  (mkO (FN .i64 ((a0.length:Int)+(a1.length:Int))) 0 8).bind fun j=>(cI (mV a0 a1) (0,j)).bind fun f=>(pQ f).bind fun g=>some g
def kx(a0:(List Int)):Option ((List Int)×Int):=
  (pQ a0).bind fun f=>if(decide ((f.length:Int)>64))=true then(some (([]:(List Int)),8))else(some (f,0))
def nat_Mul(a0:(List Int))(a1:(List Int)):Option ((List Int)×Int):=
  (pP a0 a1).bind fun g=>if(!g)=true then(some (([]:(List Int)),1))else((kZ a0 a1).bind fun j=>(kx j).bind fun f=>some (f.1,f.2))
def d9(a0:Int):Option ((List Int)):=
  (re (if(FN .i64 (0-a0))>a0 then(FN .i64 (0-a0))else a0)).bind fun f=>(nat_Mul f.1 f.1).bind fun g=>some g.1
def pN(a1:(List Int))(a0:(List Int)):(Int×Int×(List Int))->Option (il (Int×Int×(List Int)) ((List Int))):=fun(q,g,r)=>
  if(decide (g<(FN .i64 ((if(a1.length:Int)>(a0.length:Int)then(a1.length:Int)else(a0.length:Int))+1))))=true then((nO a0 g).bind fun u=>(nO a1 g).bind fun f=>(wQ (FN .i64 (q+(FN .i64 (u+f)))) 1073741824).bind fun j=>(rE r [j] 8).bind fun k=>some (.next ((sc .i64 (FN .i64 (q+(FN .i64 (u+f)))) 30),(FN .i64 (g+1)),k)))else(some (.stop r))
def nat_Add(a0:(List Int))(a1:(List Int)):Option ((List Int)×Int):=
  (pP a0 a1).bind fun j=>if(!j)=true then(some (([]:(List Int)),1))else((cI (pN a1 a0) (0,0,([]:(List Int)))).bind fun g=>(kx g).bind fun f=>some (f.1,f.2))
def iW(a0:bN)(a1:Int)(a2:Int):Option ((List Int)):=
  (d9 (FN .i64 ((FN .i64 ((FN .i64 (a0.a0*a2))*a2))-(FN .i64 ((FN .i64 (a0.a2*a1))*a1))))).bind fun f=>(d9 (FN .i64 ((FN .i64 (a0.a1*a1))*a2))).bind fun g=>(nat_Add f g).bind fun j=>some j.1
def ng(a0:bg)(a1:Int)(a2:Int):Option (bC×Bool):=
  if(a0.jZ==0)=true then((d9 a0.cf.a0).bind fun j=>(d9 a0.bY.a0).bind fun k=>some ((bC.mk j k),true))else(if(a0.jZ==1)=true then((iW a0.cf a1 a2).bind fun q=>(iW a0.bY a1 a2).bind fun g=>some ((bC.mk q g),(decide ((g.length:Int)>0))))else((fU a0.ep).bind fun r=>(d9 r).bind fun u=>(yn .i64 1 a0.eT).bind fun B=>(d9 B).bind fun f=>some ((bC.mk u f),true)))
def ib(a0:bC):Option (Bool):=
  (lX a0.cf).bind fun f=>if f=true then((lX a0.bY).bind fun g=>if g=true then(some (decide ((a0.bY.length:Int)>0)))else(some false))else(some false)
def qk(a0:bC)(a1:bC):Option (bC×Int):=
  (ib a0).bind fun j=>if(!j)=true then(some ((bC.mk [] []),1))else((ib a1).bind fun k=>if(!k)=true then(some ((bC.mk [] []),1))else((kZ a0.cf a1.cf).bind fun q=>(kx q).bind fun f=>(kZ a0.bY a1.bY).bind fun r=>(kx r).bind fun g=>if(f.2 != 0)=true then(some ((bC.mk [] []),8))else(if(g.2 != 0)=true then(some ((bC.mk [] []),8))else(some ((bC.mk f.1 g.1),0)))))
def mE(a0:bu)(a1:Int)(a2:Int):(Int×(List Int)×(List Int))->Option (il (Int×(List Int)×(List Int)) (((List Int)×(List Int))⊕(bC×Int))):=fun(j,q,r)=>
  if(decide (j<(a0.cQ.length:Int)))=true then((nZ a0.cQ j).bind fun k=>(ng k a1 a2).bind fun g=>if(!g.2)=true then(some (.stop (.inr ((bC.mk [] []),11))))else((qk (bC.mk q r) g.1).bind fun f=>if(f.2 != 0)=true then(some (.stop (.inr ((bC.mk [] []),f.2))))else(some (.next ((FN .i64 (j+1)),f.1.cf,f.1.bY)))))else(some (.stop (.inl (q,r))))
def na(a0:bu)(a1:Int)(a2:Int):Option (bC×Int):=
  (kD a0).bind fun k=>if(!k)=true then(some ((bC.mk [] []),1))else((cO a1 0 65536).bind fun q=>if(!q)=true then(some ((bC.mk [] []),2))else((cO a2 1 65536).bind fun r=>if(!r)=true then(some ((bC.mk [] []),2))else((cI (mE a0 a1 a2) (0,[1],[1])).bind fun g=>match g with| .inl f=>(some ((bC.mk f.1 f.2),0))| .inr j=>(some j))))
def fq(a0:Int)(g:Int)(f:Int):Option (Int):=
  some (FN .i64 ((FN .i64 (256*a0))+f))
def fr(a0:Int)(f:Int)(g:Int):Option (Int):=
  if(decide ((sc .i64 (FN .i64 (f*f)) 30)>=2147483648))=true then((tu .i64 (sc .i64 (FN .i64 (f*f)) 30) 2).bind fun j=>fq a0 j (FN .i64 ((FN .i64 (g*2))+1)))else(fq a0 (sc .i64 (FN .i64 (f*f)) 30) (FN .i64 (g*2)))
def fu(a0:Int)(f:Int)(g:Int):Option (Int):=
  if(decide ((sc .i64 (FN .i64 (f*f)) 30)>=2147483648))=true then((tu .i64 (sc .i64 (FN .i64 (f*f)) 30) 2).bind fun j=>fr a0 j (FN .i64 ((FN .i64 (g*2))+1)))else(fr a0 (sc .i64 (FN .i64 (f*f)) 30) (FN .i64 (g*2)))
def fw(a0:Int)(f:Int)(g:Int):Option (Int):=
  if(decide ((sc .i64 (FN .i64 (f*f)) 30)>=2147483648))=true then((tu .i64 (sc .i64 (FN .i64 (f*f)) 30) 2).bind fun j=>fu a0 j (FN .i64 ((FN .i64 (g*2))+1)))else(fu a0 (sc .i64 (FN .i64 (f*f)) 30) (FN .i64 (g*2)))
def fx(a0:Int)(f:Int)(j:Int):Option (Int):=
  if(decide ((sc .i64 (FN .i64 (f*f)) 30)>=2147483648))=true then((tu .i64 (sc .i64 (FN .i64 (f*f)) 30) 2).bind fun g=>fw a0 g (FN .i64 ((FN .i64 (j*2))+1)))else(fw a0 (sc .i64 (FN .i64 (f*f)) 30) (FN .i64 (j*2)))
def fy(a0:Int)(f:Int)(j:Int):Option (Int):=
  if(decide ((sc .i64 (FN .i64 (f*f)) 30)>=2147483648))=true then((tu .i64 (sc .i64 (FN .i64 (f*f)) 30) 2).bind fun g=>fx a0 g (FN .i64 ((FN .i64 (j*2))+1)))else(fx a0 (sc .i64 (FN .i64 (f*f)) 30) (FN .i64 (j*2)))
def fA(a0:Int)(f:Int)(j:Int):Option (Int):=
  if(decide ((sc .i64 (FN .i64 (f*f)) 30)>=2147483648))=true then((tu .i64 (sc .i64 (FN .i64 (f*f)) 30) 2).bind fun g=>fy a0 g (FN .i64 ((FN .i64 (j*2))+1)))else(fy a0 (sc .i64 (FN .i64 (f*f)) 30) (FN .i64 (j*2)))
def fB(a0:Int)(f:Int)(j:Int):Option (Int):=
  if(decide ((sc .i64 (FN .i64 (f*f)) 30)>=2147483648))=true then((tu .i64 (sc .i64 (FN .i64 (f*f)) 30) 2).bind fun g=>fA a0 g (FN .i64 ((FN .i64 (j*2))+1)))else(fA a0 (sc .i64 (FN .i64 (f*f)) 30) (FN .i64 (j*2)))
def gi(a0:Int)(a1:Int):Option (Int):=
  if(decide ((sc .i64 (FN .i64 (a1*a1)) 30)>=2147483648))=true then((tu .i64 (sc .i64 (FN .i64 (a1*a1)) 30) 2).bind fun f=>fB a0 f 1)else(fB a0 (sc .i64 (FN .i64 (a1*a1)) 30) 0)
def jJ(a0:Int):Option (Int×Int):=
  if(decide (a0<1))=true then(some (0,2))else((gP (FN .u64 a0)).bind fun f=>if(decide ((FN .i64 (f-1))<=30))=true then((yn .i64 a0 (FN .i64 (30-(FN .i64 (f-1))))).bind fun g=>(gi (FN .i64 (f-1)) g).bind fun j=>some (j,0))else((shrO .i64 a0 (FN .i64 ((FN .i64 (f-1))-30))).bind fun k=>(gi (FN .i64 (f-1)) k).bind fun q=>some (q,0)))
def iI(a0:(List Int)):Option (Int×Int):=
  (lX a0).bind fun j=>if(!j)=true then(some (0,1))else(if(decide ((FN .i64 ((a0.length:Int)-1))<0))=true then(some (0,2))else(if((FN .i64 ((a0.length:Int)-1))==0)=true then((nZ a0 0).bind fun k=>(jJ k).bind fun f=>some (f.1,f.2))else((nZ a0 (FN .i64 ((a0.length:Int)-1))).bind fun q=>(nZ a0 (FN .i64 ((FN .i64 ((a0.length:Int)-1))-1))).bind fun r=>(jJ (orI .i64 (shlI .i64 q 30) r)).bind fun g=>some ((FN .i64 (g.1+(FN .i64 (7680*(FN .i64 ((FN .i64 ((a0.length:Int)-1))-1)))))),g.2))))
def kV(a0:bO)(a1:bu)(a2:Int):Option (Int×Int):=
  (na a1 a0.cf a0.bY).bind fun f=>if(f.2 != 0)=true then(some (0,f.2))else((iI f.1.cf).bind fun j=>if(j.2 != 0)=true then(some (0,24))else((iI f.1.bY).bind fun g=>if(g.2 != 0)=true then(some (0,g.2))else((jJ a2).bind fun k=>some ((FN .i64 ((FN .i64 ((FN .i64 (2*k.1))+g.1))-j.1)),k.2))))
def kr(a0:Int):Option (Int):=
  some (sc .i64 a0 1)
def mT(a0:Int):Option (Int×Bool):=
  if(decide (a0>=(-16777216)))=true then(some ((FN .i64 (a0*30103)),(decide (a0<=16777216))))else(some ((FN .i64 (a0*30103)),false))
def jy(a0:Int):Option (Int):=
  (mT a0).bind fun f=>if(!f.2)=true then(some 0)else((tu .i64 f.1 256000).bind fun g=>(wQ f.1 256000).bind fun j=>if(decide (j<0))=true then(some (FN .i64 (g-1)))else(some g))
def mw(a0:Int):Option (Int):=
  (jy (FN .i64 (0-a0))).bind fun f=>some (FN .i64 (0-f))
def hC(a0:bO)(a1:bu)(a2:Int)(a3:Int)(a4:Int):Option (bo×Int):=
  (dG a0).bind fun r=>if(!r)=true then(some ((bo.mk 0 0),27))else(if(decide (a2<1))=true then(some ((bo.mk 0 0),2))else(if(decide (a2>1073741823))=true then(some ((bo.mk 0 0),2))else((kV a0 a1 a2).bind fun f=>if(f.2 != 0)=true then(some ((bo.mk 0 0),f.2))else((dh a0.bF a3 a4).bind fun g=>if(g.2.2 != 0)=true then(some ((bo.mk 0 0),g.2.2))else((kr (FN .i64 (f.1-2))).bind fun u=>(jy u).bind fun j=>(kr (FN .i64 ((FN .i64 (0-f.1))-6))).bind fun k=>(mw (FN .i64 (0-k))).bind fun q=>some ((bo.mk (FN .i64 (j+g.1)) (FN .i64 (q+g.2.1))),0))))))
def dM(a0:bD)(a2:al)(a1:ah):(Int×(List bo))->Option (il (Int×(List bo)) ((List bo))):=fun(s1,s2)=>
  if(decide (s1<(a0.fj.length:Int)))=true then((nZ a0.fj s1).bind fun k=>(nZ a0.kb s1).bind fun q=>(nZ a0.gE s1).bind fun r=>(f8 a2 k.bw).bind fun u=>(ji a2 k.bw).bind fun g=>(hC a1.bQ q.bV r.bG u g).bind fun f=>if(f.2==0)=true then((rE s2 [f.1] 16).bind fun j=>some (.next ((FN .i64 (s1+1)),j)))else(some (.next ((FN .i64 (s1+1)),s2))))else(some (.stop s2))
def dH(a0:bD)(a1:ah)(a2:al):Option ((List bo)):=
  (cI (dM a0 a2 a1) (0,([]:(List bo)))).bind fun f=>some f
def jo(a0:bo):Option (Bool):=
  some (decide (a0.bt>a0.bd))
def du(a0:(List bo)):Int->Option (il (Int) ((Unit)⊕(Int))):=fun s1=>
  if(decide (s1<(a0.length:Int)))=true then((nZ a0 s1).bind fun f=>(jo f).bind fun g=>if g=true then(some (.stop (.inr s1)))else(some (.next (FN .i64 (s1+1)))))else(some (.stop (.inl ())))
def fg(a0:(List bo)):Option (Int):=
  (cI (du a0) 0).bind fun g=>match g with| .inl _=>(some (-1))| .inr f=>(some f)
def dt(a0:(List bo)):Option (Bool):=
  (fg a0).bind fun f=>some (decide (f>=0))
def jp(a0:bo):Option (Int):=
  some a0.bt
def im(a0:(List bo)):(Int×(List Int))->Option (il (Int×(List Int)) ((List Int))):=fun(s1,s2)=>
  if(decide (s1<(a0.length:Int)))=true then((nZ a0 s1).bind fun f=>(jp f).bind fun g=>(rE s2 [g] 8).bind fun j=>some (.next ((FN .i64 (s1+1)),j)))else(some (.stop s2))
def gy(a0:(List bo)):Option (Int):=
  (cI (im a0) (0,([]:(List Int)))).bind fun j=>(tR j).bind fun f=>(tu .i64 (FN .i64 ((f.length:Int)-1)) 2).bind fun g=>(inO f g).bind fun _=>(nZ f g).bind fun k=>some k
def jq(a0:bo):Option (Int):=
  some a0.bd
def io(a0:(List bo)):(Int×(List Int))->Option (il (Int×(List Int)) ((List Int))):=fun(s1,s2)=>
  if(decide (s1<(a0.length:Int)))=true then((nZ a0 s1).bind fun f=>(jq f).bind fun g=>(rE s2 [g] 8).bind fun j=>some (.next ((FN .i64 (s1+1)),j)))else(some (.stop s2))
def gz(a0:(List bo)):Option (Int):=
  (cI (io a0) (0,([]:(List Int)))).bind fun j=>(tR j).bind fun f=>(tu .i64 (FN .i64 ((f.length:Int)-1)) 2).bind fun g=>(inO f g).bind fun _=>(nZ f g).bind fun k=>some k
def gZ(a0:(List bo)):Option (bo×Int):=
  if((a0.length:Int)==0)=true then(some ((bo.mk 0 0),24))else((dt a0).bind fun f=>if f=true then(some ((bo.mk 0 0),1))else((gy a0).bind fun g=>(gz a0).bind fun j=>some ((bo.mk g j),0)))
def ja(a0:ah)(a1:ae)(a2:(List aa)):Option (bH×Int):=
  (jG a0 a1 a2).bind fun f=>if(f.2 != 0)=true then(some ((bH.mk [] (ap.mk (ag.mk 0 0 0) 0 0 0 (al.mk (ag.mk 0 0 0) (ag.mk 0 0 0))) (bo.mk 0 0) 0),f.2))else((kX f.1 a0).bind fun j=>if(j.2 != 0)=true then(some ((bH.mk [] (ap.mk (ag.mk 0 0 0) 0 0 0 (al.mk (ag.mk 0 0 0) (ag.mk 0 0 0))) (bo.mk 0 0) 0),j.2))else((dK j.1 a0.bA).bind fun g=>if(g.2 != 0)=true then(some ((bH.mk [] (ap.mk (ag.mk 0 0 0) 0 0 0 (al.mk (ag.mk 0 0 0) (ag.mk 0 0 0))) (bo.mk 0 0) 0),g.2))else((dH f.1 a0 g.1.ch).bind fun k=>if(decide ((k.length:Int)>0))=true then((gZ k).bind fun q=>if(q.2 != 0)=true then(some ((bH.mk [] (ap.mk (ag.mk 0 0 0) 0 0 0 (al.mk (ag.mk 0 0 0) (ag.mk 0 0 0))) (bo.mk 0 0) 0),q.2))else(some ((bH.mk f.1.gE g.1 q.1 (k.length:Int)),0)))else(some ((bH.mk f.1.gE g.1 (bo.mk 0 0) 0),0)))))
def jI(a0:aa)(a1:aa):Option (Int):=
  (cb a0.bS a1.bS).bind fun f=>(cN a0 a1).bind fun g=>(dC [f,g]).bind fun j=>some j
def c9(a0:(List aa)):(Int×(List UInt8)×(List UInt8)×(List UInt8)×(List UInt8)×Int×Int×Int×Int×Int)->Option (il (Int×(List UInt8)×(List UInt8)×(List UInt8)×(List UInt8)×Int×Int×Int×Int×Int) ((List UInt8)×(List UInt8)×(List UInt8)×(List UInt8)×Int×Int×Int×Int×Int)):=fun(q,r,u,B,C,D,E,g,j,k)=>
  if(decide (q<(a0.length:Int)))=true then((nZ a0 q).bind fun F=>(jI F (aa.mk (bi.mk r u B C) D E g j k)).bind fun G=>if(decide (G<0))=true then((nZ a0 q).bind fun f=>some (.next ((FN .i64 (q+1)),f.a7.bI,f.a7.bw,f.a7.ba,f.a7.bL,f.bS,f.bv,f.cg,f.bG,f.bT)))else(some (.next ((FN .i64 (q+1)),r,u,B,C,D,E,g,j,k))))else(some (.stop (r,u,B,C,D,E,g,j,k)))
def eu(a0:(List aa)):Option (aa):=
  if(decide ((a0.length:Int)<1))=true then(none)else((nZ a0 0).bind fun g=>(cI (c9 a0) (1,g.a7.bI,g.a7.bw,g.a7.ba,g.a7.bL,g.bS,g.bv,g.cg,g.bG,g.bT)).bind fun f=>some (aa.mk (bi.mk f.1 f.2.1 f.2.2.1 f.2.2.2.1) f.2.2.2.2.1 f.2.2.2.2.2.1 f.2.2.2.2.2.2.1 f.2.2.2.2.2.2.2.1 f.2.2.2.2.2.2.2.2))
def oS(a0:(List aa)):Option (aa):=
  if((a0.length:Int)==0)=true then(some (aa.mk (bi.mk [] [] [] []) 0 0 0 0 0))else((eu a0).bind fun f=>some f)
def lw(a0:ey)(a1:ar)(a2:ar):Option (Int):=
  (jI a1.eR a2.eR).bind fun f=>some f
def iq(a1:Int)(s1:Int):(Int×(List ar))->Option (il (Int×(List ar)) (Int×(List ar))):=fun(f,g)=>
  if(decide (f>a1))=true then((inO g f).bind fun _=>(nZ g f).bind fun k=>(inO g (FN .i64 (f-1))).bind fun _=>(nZ g (FN .i64 (f-1))).bind fun q=>(lw (ey.mk ) k q).bind fun r=>if(decide (r<0))=true then((inO g (FN .i64 (f-1))).bind fun _=>(nZ g (FN .i64 (f-1))).bind fun u=>(inO g f).bind fun _=>(nZ g f).bind fun B=>(inO g f).bind fun _=>(tF g f u).bind fun j=>(inO j (FN .i64 (f-1))).bind fun _=>(tF j (FN .i64 (f-1)) B).bind fun C=>some (.next ((FN .i64 (f-1)),C)))else(some (.stop (s1,g))))else(some (.stop (s1,g)))
def ir(a2:Int)(a1:Int):(Int×(List ar))->Option (il (Int×(List ar)) ((List ar))):=fun(s1,s2)=>
  if(decide (s1<a2))=true then((cI (iq a1 s1) (s1,s2)).bind fun f=>some (.next ((FN .i64 (f.1+1)),f.2)))else((some s2).bind fun z33=>some (.stop z33))
def dp(a1:Int)(a2:Int)(d0:(List ar)):Option ((List ar)):=
  (cI (ir a2 a1) ((FN .i64 (a1+1)),d0)).bind fun f=>some f
def cv(a2:Int)(a1:Int)(d0:(List ar))(a3:Int):Unit->Option (il (Unit) ((List ar))):=fun _=>
  if(decide ((FN .i64 (a2-a1))<=12))=true then((dp a1 a2 d0).bind fun f=>some (.stop f))else(if(a3==0)=true then(none)else(none))
def fP:Nat->Int->Int->Int->(List ar)->Option ((List ar))
  |0,_,_,_,_=>none
  |nfu+1,a1,a2,a3,d0=>
  (cI (cv a2 a1 d0 a3) ()).bind fun f=>some f
def cG(a1:Int)(a2:Int)(a3:Int)(d0:(List ar)):Option ((List ar)):=recO fun n=>fP n a1 a2 a3 d0
def dW(d0:(List ar)):Option ((List ar)):=
  (gP (FN .u64 (d0.length:Int))).bind fun f=>(cG 0 (d0.length:Int) f d0).bind fun g=>some g
def mj(j:bB)(C:(List aa)×(List aw)×Int)(u:Int)(B:(List ar)):(Int×(List aa))->Option (il (Int×(List aa)) (Int×(List ar)×(List aa))):=fun(f,g)=>
  if(decide (f<(j.dg.length:Int)))=true then((nZ j.dg f).bind fun k=>(nZ C.1 k).bind fun q=>(rE g [q] 104).bind fun r=>some (.next ((FN .i64 (f+1)),r)))else(some (.stop (u,B,g)))
def ml(B:(List bB)×(List Int)×Int)(C:(List aa)×(List aw)×Int)(a0:ah)(a1:ae):(Int×(List ar))->Option (il (Int×(List ar)) (((List ar))⊕((List ar)×(List aa)×Int))):=fun(j,u)=>
  if(decide (j<(B.1.length:Int)))=true then((nZ B.1 j).bind fun k=>(cI (mj k C j u) (0,([]:(List aa)))).bind fun g=>(ja a0 a1 g.2.2).bind fun f=>if(f.2 != 0)=true then(some (.stop (.inr (([]:(List ar)),([]:(List aa)),f.2))))else((oS f.1.ew).bind fun q=>(rE g.2.1 [(ar.mk q f.1)] 248).bind fun r=>some (.next ((FN .i64 (g.1+1)),r))))else(some (.stop (.inl u)))
def mm(r:(List bB)×(List Int)×Int)(u:(List aa)×(List aw)×Int):(Int×(List aa))->Option (il (Int×(List aa)) ((List aa))):=fun(f,g)=>
  if(decide (f<(r.2.1.length:Int)))=true then((nZ r.2.1 f).bind fun j=>(nZ u.1 j).bind fun k=>(rE g [k] 104).bind fun q=>some (.next ((FN .i64 (f+1)),q)))else(some (.stop g))
def kk(a0:ah)(a1:ae)(a2:(List aa)):Option ((List ar)×(List aa)×Int):=
  (nD a0 a1 a2).bind fun f=>if(f.2.2 != 0)=true then(some (([]:(List ar)),([]:(List aa)),f.2.2))else((iu a0.ac f.2.1).bind fun g=>if(g.2.2 != 0)=true then(some (([]:(List ar)),([]:(List aa)),g.2.2))else((cI (ml g f a0 a1) (0,([]:(List ar)))).bind fun j=>match j with| .inl u=>((dW u).bind fun r=>(cI (mm g f) (0,([]:(List aa)))).bind fun k=>some (r,k,0))| .inr q=>(some q)))
def iV(a0:ah)(a1:ae)(a2:(List aa)):Option (bq×Int):=
  (kk a0 a1 a2).bind fun f=>if(f.2.2 != 0)=true then(some ((bq.mk [] [] []),f.2.2))else((rV 104 a2).bind fun g=>some ((bq.mk g f.1 f.2.1),0))
def mC(q:(List (List aa))×Int)(a0:ah)(a1:ae):(Int×(List bq))->Option (il (Int×(List bq)) (((List bq))⊕(av×Int))):=fun(g,k)=>
  if(decide (g<(q.1.length:Int)))=true then((nZ q.1 g).bind fun r=>(iV a0 a1 r).bind fun f=>if(f.2 != 0)=true then(some (.stop (.inr ((av.mk (ah.mk (bh.mk (al.mk (ag.mk 0 0 0) (ag.mk 0 0 0)) (bc.mk 0 [] []) 0 0 0 0 0) (bO.mk (bc.mk 0 [] []) 0 0) 0) (ae.mk []) []),f.2))))else((rE k [f.1] 72).bind fun j=>some (.next ((FN .i64 (g+1)),j))))else(some (.stop (.inl k)))
def fk(a0:ah)(a1:ae)(a2:(List aa)):Option (av×Int):=
  (gL a0 a1 a2).bind fun j=>if(j.2 != 0)=true then(some ((av.mk (ah.mk (bh.mk (al.mk (ag.mk 0 0 0) (ag.mk 0 0 0)) (bc.mk 0 [] []) 0 0 0 0 0) (bO.mk (bc.mk 0 [] []) 0 0) 0) (ae.mk []) []),j.2))else((ff a0 a1).bind fun q=>(cI (mC j a0 a1) (0,([]:(List bq)))).bind fun f=>match f with| .inl k=>(some ((av.mk q.bp q.co k),0))| .inr g=>(some g))
def nn(a0:bq):Option ((List aa)):=
  some a0.ew
def fm(a0:av):(Int×(List aa))->Option (il (Int×(List aa)) ((List aa))):=fun(s1,s2)=>
  if(decide (s1<(a0.bP.length:Int)))=true then((nZ a0.bP s1).bind fun f=>(nn f).bind fun g=>(rE s2 g 104).bind fun j=>some (.next ((FN .i64 (s1+1)),j)))else(some (.stop s2))
def jQ(a0:av):Option ((List aa)):=
  (cI (fm a0) (0,([]:(List aa)))).bind fun f=>(da f).bind fun g=>some g
def jD(a0:av):Option ((List aa)):=
  (jQ a0).bind fun f=>some f
def eO(a0:(List Int))(a1:(List Int)):Int->Option (il (Int) ((Unit)⊕(Bool))):=fun s2=>
  if(decide (s2<(a0.length:Int)))=true then((nZ a0 s2).bind fun f=>(nZ a1 s2).bind fun g=>if(f != g)=true then(some (.stop (.inr false)))else(some (.next (FN .i64 (s2+1)))))else(some (.stop (.inl ())))
def k8(a0:(List Int))(a1:(List Int)):Option (Bool):=
  if((a0.length:Int) != (a1.length:Int))=true then(some false)else((cI (eO a0 a1) 0).bind fun g=>match g with| .inl _=>(some true)| .inr f=>(some f))
def ju(a0:bg)(a1:bg):Option (Bool):=
  if(a0.jZ==a1.jZ)=true then(if((a0.cf.a0==a1.cf.a0)&&((a0.cf.a1==a1.cf.a1)&&((a0.cf.a2==a1.cf.a2)&&true)))=true then(if((a0.bY.a0==a1.bY.a0)&&((a0.bY.a1==a1.bY.a1)&&((a0.bY.a2==a1.bY.a2)&&true)))=true then((k8 a0.ep a1.ep).bind fun f=>if f=true then(if(a0.eE==a1.eE)=true then(some (a0.eT==a1.eT))else(some false))else(some false))else(some false))else(some false))else(some false)
def cJ(a0:(List bg))(a1:(List bg)):Int->Option (il (Int) ((Unit)⊕(Bool))):=fun s2=>
  if(decide (s2<(a0.length:Int)))=true then((nZ a0 s2).bind fun f=>(nZ a1 s2).bind fun g=>(ju f g).bind fun j=>if(!j)=true then(some (.stop (.inr false)))else(some (.next (FN .i64 (s2+1)))))else(some (.stop (.inl ())))
def fV(a0:(List bg))(a1:(List bg)):Option (Bool):=
  if((a0.length:Int) != (a1.length:Int))=true then(some false)else((cI (cJ a0 a1) 0).bind fun f=>match f with| .inl _=>(some true)| .inr g=>(some g))
def nf(a0:bu)(a1:bu):Option (Bool):=
  (fV a0.cQ a1.cQ).bind fun f=>some f
def jf(a0:ae)(a1:ae)(a2:aa):Option (Bool):=
  (kR a0 a2.a7 a2.bS).bind fun f=>(kR a1 a2.a7 a2.bS).bind fun g=>if(f.2 != 0)=true then(some (!((f.2==0)==(g.2==0))))else(if(g.2 != 0)=true then(some (!((f.2==0)==(g.2==0))))else(if(!((f.1.bU.fX==g.1.bU.fX)&&((f.1.bU.fY==g.1.bU.fY)&&((f.1.bU.fZ==g.1.bU.fZ)&&true))))=true then(some true)else((nf f.1.bV g.1.bV).bind fun j=>some (!j))))
def gw(a0:aa)(d1:Int)(d2:ae)(d3:ae)(d4:(List (aa×Int))):Option (Bool):=
  if((uQ oB a0 0 d4) != d1)=true then(some true)else((jf d2 d3 a0).bind fun f=>some f)
def cK(a0:(List aa))(d1:Int)(d2:ae)(d3:ae)(d4:(List (aa×Int))):Int->Option (il (Int) ((Unit)⊕(Int))):=fun s1=>
  if(decide (s1<(a0.length:Int)))=true then((nZ a0 s1).bind fun f=>(gw f d1 d2 d3 d4).bind fun g=>if g=true then(some (.stop (.inr s1)))else(some (.next (FN .i64 (s1+1)))))else(some (.stop (.inl ())))
def fW(a0:(List aa))(d1:Int)(d2:ae)(d3:ae)(d4:(List (aa×Int))):Option (Int):=
  (cI (cK a0 d1 d2 d3 d4) 0).bind fun g=>match g with| .inl _=>(some (-1))| .inr f=>(some f)
def dN(a0:(List aa))(d1:Int)(d2:ae)(d3:ae)(d4:(List (aa×Int))):Option (Bool):=
  (fW a0 d1 d2 d3 d4).bind fun f=>some (decide (f>=0))
def kf(k:(List aa))(g:Int):(Int×(List (aa×Int)))->Option (il (Int×(List (aa×Int))) (Int×(List (aa×Int)))):=fun(f,j)=>
  if(decide (f<(k.length:Int)))=true then((nZ k f).bind fun q=>some (.next ((FN .i64 (f+1)),(yl oB q (FN .i64 (g+1)) j))))else(some (.stop (g,j)))
def kg(k:(List (List aa))):(Int×(List (aa×Int)))->Option (il (Int×(List (aa×Int))) ((List (aa×Int)))):=fun(f,j)=>
  if(decide (f<(k.length:Int)))=true then((nZ k f).bind fun q=>(cI (kf q f) (0,j)).bind fun g=>some (.next ((FN .i64 (g.1+1)),g.2)))else(some (.stop j))
def kj(r:(List (List aa)))(j:(List (aa×Int)))(u:(List (List aa)))(a3:ae)(a4:ae):(Int×(List Int))->Option (il (Int×(List Int)) ((List Int))):=fun(f,g)=>
  if(decide (f<(r.length:Int)))=true then((nZ r f).bind fun k=>(nZ k 0).bind fun q=>if((uQ oB q 0 j)==0)=true then((rE g [f] 8).bind fun B=>some (.next ((FN .i64 (f+1)),B)))else((nZ u (FN .i64 ((uQ oB q 0 j)-1))).bind fun C=>if((C.length:Int) != (k.length:Int))=true then((rE g [f] 8).bind fun D=>some (.next ((FN .i64 (f+1)),D)))else((dN k (uQ oB q 0 j) a3 a4 j).bind fun E=>if E=true then((rE g [f] 8).bind fun F=>some (.next ((FN .i64 (f+1)),F)))else(some (.next ((FN .i64 (f+1)),g))))))else(some (.stop g))
def gf(a0:Int)(a1:(List aa))(a2:(List aa))(a3:ae)(a4:ae):Option ((List Int)×Int):=
  if(decide (a0<0))=true then(some (([]:(List Int)),2))else(if(decide (a0>1099511627776))=true then(some (([]:(List Int)),2))else((gg a1).bind fun q=>if(!q)=true then(some (([]:(List Int)),1))else((gg a2).bind fun r=>if(!r)=true then(some (([]:(List Int)),1))else((cL a3).bind fun u=>if(!u)=true then(some (([]:(List Int)),1))else((cL a4).bind fun B=>if(!B)=true then(some (([]:(List Int)),1))else((bZ a0 a1).bind fun f=>(cI (kg f) (0,([]:List (aa×Int)))).bind fun g=>(bZ a0 a2).bind fun k=>(cI (kj k g f a3 a4) (0,([]:(List Int)))).bind fun j=>some (j,0)))))))
def pH(p:aa):List UInt8:=Go.Lib.join [p.a7.bI,p.a7.bw,p.a7.ba,p.a7.bL] [46]++([p.bS,p.bv,p.cg,p.bG,p.bT].flatMap fun n=>32::Go.Lib.itoa n)++[10]
def smallP(p:aa):Bool:=decide (p.a7.bI.length<=1000∧p.a7.bw.length<=1000∧p.a7.ba.length<=1000∧p.a7.bL.length<=1000)&& [p.bS,p.bv,p.cg,p.bG,p.bT].all fun n=>decide (-9223372036854775808<=n∧n<=9223372036854775807)
def keyO(l:List aa):Option (List UInt8):=if l.length<=1000∧l.all smallP=true then some (l.flatMap pH)else none
def eP(a0:(List Int))(a1:Int):Int->Option (il (Int) ((Unit)⊕(Int))):=fun s1=>
  if(decide (s1<(a0.length:Int)))=true then((nZ a0 s1).bind fun f=>if(a1==f)=true then(some (.stop (.inr s1)))else(some (.next (FN .i64 (s1+1)))))else(some (.stop (.inl ())))
def mZ(a0:(List Int))(a1:Int):Option (Int):=
  (cI (eP a0 a1) 0).bind fun f=>match f with| .inl _=>(some (-1))| .inr g=>(some g)
def iA(a0:(List Int))(a1:Int):Option (Bool):=
  (mZ a0 a1).bind fun f=>some (decide (f>=0))
def ie(u:(List ar)):(Int×(List ar))->Option (il (Int×(List ar)) ((List ar))):=fun(g,j)=>
  if(decide (g<(u.length:Int)))=true then((inO j g).bind fun _=>(nZ j g).bind fun k=>(rV 104 k.cU.ew).bind fun q=>(inO j g).bind fun _=>(xy j g (fun(f:ar)=>(ar.mk f.eR (bH.mk q f.cU.ba f.cU.fc f.cU.qA)))).bind fun r=>some (.next ((FN .i64 (g+1)),r)))else(some (.stop j))
def iU(a0:bq):Option (bq):=
  (rV 104 a0.ew).bind fun j=>(rV 104 a0.pp).bind fun k=>(rV 248 a0.gx).bind fun g=>(cI (ie g) (0,g)).bind fun f=>some (bq.mk j f k)
def kA(a0:av):(Int×(List ((List UInt8)×bq)))->Option (il (Int×(List ((List UInt8)×bq))) ((List ((List UInt8)×bq)))):=fun(g,k)=>
  if(decide (g<(a0.bP.length:Int)))=true then((nZ a0.bP g).bind fun f=>(keyO f.ew).bind fun j=>some (.next ((FN .i64 (g+1)),(yl (fun a b=>a==b) j f k))))else(some (.stop k))
def kB(E:(List (List aa))×Int)(F:(List Int)×Int)(q:(List ((List UInt8)×bq)))(a0:av)(a1:ae):(Int×(List bq))->Option (il (Int×(List bq)) (((List bq))⊕(av×(List Int)×Int))):=fun(f,g)=>
  if(decide (f<(E.1.length:Int)))=true then((nZ E.1 f).bind fun k=>(iA F.1 f).bind fun r=>if(!r)=true then((keyO k).bind fun u=>(iU (uQ (fun a b=>a==b) u (bq.mk [] [] []) q)).bind fun B=>(rE g [B] 72).bind fun C=>some (.next ((FN .i64 (f+1)),C)))else((iV a0.bp a1 k).bind fun j=>if(j.2 != 0)=true then(some (.stop (.inr ((av.mk (ah.mk (bh.mk (al.mk (ag.mk 0 0 0) (ag.mk 0 0 0)) (bc.mk 0 [] []) 0 0 0 0 0) (bO.mk (bc.mk 0 [] []) 0 0) 0) (ae.mk []) []),([]:(List Int)),j.2))))else((rE g [j.1] 72).bind fun D=>some (.next ((FN .i64 (f+1)),D)))))else(some (.stop (.inl g)))
def er(a0:av)(a1:ae)(a2:(List aa)):Option (av×(List Int)×Int):=
  (gL a0.bp a1 a2).bind fun r=>if(r.2 != 0)=true then(some ((av.mk (ah.mk (bh.mk (al.mk (ag.mk 0 0 0) (ag.mk 0 0 0)) (bc.mk 0 [] []) 0 0 0 0 0) (bO.mk (bc.mk 0 [] []) 0 0) 0) (ae.mk []) []),([]:(List Int)),r.2))else((jD a0).bind fun B=>(gf a0.bp.ac.cw B a2 a0.co a1).bind fun g=>if(g.2 != 0)=true then(some ((av.mk (ah.mk (bh.mk (al.mk (ag.mk 0 0 0) (ag.mk 0 0 0)) (bc.mk 0 [] []) 0 0 0 0 0) (bO.mk (bc.mk 0 [] []) 0 0) 0) (ae.mk []) []),([]:(List Int)),g.2))else((cI (kA a0) (0,([]:List ((List UInt8)×bq)))).bind fun j=>(ff a0.bp a1).bind fun f=>(cI (kB r g j a0 a1) (0,([]:(List bq)))).bind fun k=>match k with| .inl u=>(some ((av.mk f.bp f.co u),g.1,0))| .inr q=>(some q)))
def nG(a0:(List Int))(a1:(List Int)):Int->Option (il (Int) ((Unit)⊕(Bool))):=fun s2=>
  if(decide (s2<(a0.length:Int)))=true then((nZ a0 s2).bind fun f=>(nZ a1 s2).bind fun g=>if(f != g)=true then(some (.stop (.inr false)))else(some (.next (FN .i64 (s2+1)))))else(some (.stop (.inl ())))
def oC(a0:(List Int))(a1:(List Int)):Option (Bool):=
  if((a0.length:Int) != (a1.length:Int))=true then(some false)else((cI (nG a0 a1) 0).bind fun g=>match g with| .inl _=>(some true)| .inr f=>(some f))
def eZ(a0:ar)(a1:ar):Option (Int):=
  (jI a0.eR a1.eR).bind fun f=>some f
def jw(a1:Int)(s1:Int):(Int×(List ar))->Option (il (Int×(List ar)) (Int×(List ar))):=fun(f,g)=>
  if(decide (f>a1))=true then((inO g f).bind fun _=>(nZ g f).bind fun k=>(inO g (FN .i64 (f-1))).bind fun _=>(nZ g (FN .i64 (f-1))).bind fun q=>(eZ k q).bind fun r=>if(decide (r<0))=true then((inO g (FN .i64 (f-1))).bind fun _=>(nZ g (FN .i64 (f-1))).bind fun u=>(inO g f).bind fun _=>(nZ g f).bind fun B=>(inO g f).bind fun _=>(tF g f u).bind fun j=>(inO j (FN .i64 (f-1))).bind fun _=>(tF j (FN .i64 (f-1)) B).bind fun C=>some (.next ((FN .i64 (f-1)),C)))else(some (.stop (s1,g))))else(some (.stop (s1,g)))
def jx(a2:Int)(a1:Int):(Int×(List ar))->Option (il (Int×(List ar)) ((List ar))):=fun(s1,s2)=>
  if(decide (s1<a2))=true then((cI (jw a1 s1) (s1,s2)).bind fun f=>some (.next ((FN .i64 (f.1+1)),f.2)))else((some s2).bind fun z33=>some (.stop z33))
def dJ(a1:Int)(a2:Int)(d0:(List ar)):Option ((List ar)):=
  (cI (jx a2 a1) ((FN .i64 (a1+1)),d0)).bind fun f=>some f
def cH(a2:Int)(a1:Int)(d0:(List ar))(a3:Int):Unit->Option (il (Unit) ((List ar))):=fun _=>
  if(decide ((FN .i64 (a2-a1))<=12))=true then((dJ a1 a2 d0).bind fun f=>some (.stop f))else(if(a3==0)=true then(none)else(none))
def gC:Nat->Int->Int->Int->(List ar)->Option ((List ar))
  |0,_,_,_,_=>none
  |nfu+1,a1,a2,a3,d0=>
  (cI (cH a2 a1 d0 a3) ()).bind fun f=>some f
def cV(a1:Int)(a2:Int)(a3:Int)(d0:(List ar)):Option ((List ar)):=recO fun n=>gC n a1 a2 a3 d0
def eF(d0:(List ar)):Option ((List ar)):=
  (gP (FN .u64 (d0.length:Int))).bind fun f=>(cV 0 (d0.length:Int) f d0).bind fun g=>some g
def iy(a0:av):(Int×(List ar))->Option (il (Int×(List ar)) ((List ar))):=fun(s1,s2)=>
  if(decide (s1<(a0.bP.length:Int)))=true then((nZ a0.bP s1).bind fun f=>(iU f).bind fun g=>(rE s2 g.gx 248).bind fun j=>some (.next ((FN .i64 (s1+1)),j)))else(some (.stop s2))
def iR(a0:av):Option ((List ar)):=
  (cI (iy a0) (0,([]:(List ar)))).bind fun f=>(eF f).bind fun g=>some g
def eK(a0:bg)(a1:bg):Int->Option (il (Int) ((Unit)⊕(Bool))):=fun f=>
  if(decide (f<(a0.ep.length:Int)))=true then((nZ a0.ep f).bind fun g=>(nZ a1.ep f).bind fun j=>if(g != j)=true then(some (.stop (.inr false)))else(some (.next (FN .i64 (f+1)))))else(some (.stop (.inl ())))
def lJ(a0:bg)(a1:bg):Option (Bool):=
  if(a0.jZ != a1.jZ)=true then(some false)else(if(!((a0.cf.a0==a1.cf.a0)&&((a0.cf.a1==a1.cf.a1)&&((a0.cf.a2==a1.cf.a2)&&true))))=true then(some false)else(if(!((a0.bY.a0==a1.bY.a0)&&((a0.bY.a1==a1.bY.a1)&&((a0.bY.a2==a1.bY.a2)&&true))))=true then(some false)else(if(a0.eE != a1.eE)=true then(some false)else(if(a0.eT != a1.eT)=true then(some false)else(if((a0.ep.length:Int) != (a1.ep.length:Int))=true then(some false)else((cI (eK a0 a1) 0).bind fun f=>match f with| .inl _=>(some true)| .inr g=>(some g)))))))
def jM(a0:bu)(a1:bu):Int->Option (il (Int) ((Unit)⊕(Bool))):=fun s2=>
  if(decide (s2<(a0.cQ.length:Int)))=true then((nZ a0.cQ s2).bind fun f=>(nZ a1.cQ s2).bind fun g=>(lJ f g).bind fun j=>if(!j)=true then(some (.stop (.inr false)))else(some (.next (FN .i64 (s2+1)))))else(some (.stop (.inl ())))
def oZ(a0:bu)(a1:bu):Option (Bool):=
  if((a0.cQ.length:Int) != (a1.cQ.length:Int))=true then(some false)else((cI (jM a0 a1) 0).bind fun f=>match f with| .inl _=>(some true)| .inr g=>(some g))
def lK(a0:az)(a1:az):Option (Bool):=
  if(a0.b7==a1.b7)=true then(if(a0.fTo==a1.fTo)=true then(if((a0.nl.cf==a1.nl.cf)&&((a0.nl.bY==a1.nl.bY)&&true))=true then(if((a0.bU.fX==a1.bU.fX)&&((a0.bU.fY==a1.bU.fY)&&((a0.bU.fZ==a1.bU.fZ)&&true)))=true then((oZ a0.bV a1.bV).bind fun f=>some f)else(some false))else(some false))else(some false))else(some false)
def mB(q:aj)(r:aj)(s2:Int):Int->Option (il (Int) ((Int)⊕(Bool))):=fun f=>
  if(decide (f<(q.cn.length:Int)))=true then((nZ q.cn f).bind fun g=>(nZ r.cn f).bind fun j=>(lK g j).bind fun k=>if(!k)=true then(some (.stop (.inr false)))else(some (.next (FN .i64 (f+1)))))else(some (.stop (.inl s2)))
def iM(a0:ae)(a1:ae):Int->Option (il (Int) ((Unit)⊕(Bool))):=fun s2=>
  if(decide (s2<(a0.a8.length:Int)))=true then((nZ a0.a8 s2).bind fun f=>(nZ a1.a8 s2).bind fun g=>if(!((f.a7.bI==g.a7.bI)&&((f.a7.bw==g.a7.bw)&&((f.a7.ba==g.a7.ba)&&((f.a7.bL==g.a7.bL)&&true)))))=true then(some (.stop (.inr false)))else(if((f.cn.length:Int) != (g.cn.length:Int))=true then(some (.stop (.inr false)))else((cI (mB f g s2) 0).bind fun j=>match j with| .inl q=>(some (.next (FN .i64 (q+1))))| .inr k=>(some (.stop (.inr k))))))else(some (.stop (.inl ())))
def nY(a0:ae)(a1:ae):Option (Bool):=
  if((a0.a8.length:Int) != (a1.a8.length:Int))=true then(some false)else((cI (iM a0 a1) 0).bind fun f=>match f with| .inl _=>(some true)| .inr g=>(some g))
def jN(a0:(List Int))(a1:(List Int)):Int->Option (il (Int) ((Unit)⊕(Bool))):=fun s2=>
  if(decide (s2<(a0.length:Int)))=true then((nZ a0 s2).bind fun f=>(nZ a1 s2).bind fun g=>if(f != g)=true then(some (.stop (.inr false)))else(some (.next (FN .i64 (s2+1)))))else(some (.stop (.inl ())))
def n5(a0:(List Int))(a1:(List Int)):Option (Bool):=
  if((a0.length:Int) != (a1.length:Int))=true then(some false)else((cI (jN a0 a1) 0).bind fun g=>match g with| .inl _=>(some true)| .inr f=>(some f))
def jC(a0:bc)(a1:bc):Option (Bool):=
  if(a0.bR==a1.bR)=true then((n5 a0.bt a1.bt).bind fun f=>if f=true then((n5 a0.bd a1.bd).bind fun g=>some g)else(some false))else(some false)
def gr(a0:ah)(a1:ah):Option (Bool):=
  if(((a0.ac.bn.bt.fX==a1.ac.bn.bt.fX)&&((a0.ac.bn.bt.fY==a1.ac.bn.bt.fY)&&((a0.ac.bn.bt.fZ==a1.ac.bn.bt.fZ)&&true)))&&(((a0.ac.bn.bd.fX==a1.ac.bn.bd.fX)&&((a0.ac.bn.bd.fY==a1.ac.bn.bd.fY)&&((a0.ac.bn.bd.fZ==a1.ac.bn.bd.fZ)&&true)))&&true))=true then((jC a0.ac.bJ a1.ac.bJ).bind fun f=>if f=true then(if(a0.ac.dw==a1.ac.dw)=true then(if(a0.ac.bA==a1.ac.bA)=true then(if(a0.ac.cw==a1.ac.cw)=true then(if(a0.ac.dT==a1.ac.dT)=true then(if(a0.ac.cq==a1.ac.cq)=true then((jC a0.bQ.bF a1.bQ.bF).bind fun g=>if g=true then(if(a0.bQ.cf==a1.bQ.cf)=true then(if(a0.bQ.bY==a1.bQ.bY)=true then(some (a0.bA==a1.bA))else(some false))else(some false))else(some false))else(some false))else(some false))else(some false))else(some false))else(some false))else(some false))else(some false)
def eh(a0:(List aa))(a1:(List aa)):Int->Option (il (Int) ((Unit)⊕(Bool))):=fun s2=>
  if(decide (s2<(a0.length:Int)))=true then((nZ a0 s2).bind fun f=>(nZ a1 s2).bind fun g=>if(!(((f.a7.bI==g.a7.bI)&&((f.a7.bw==g.a7.bw)&&((f.a7.ba==g.a7.ba)&&((f.a7.bL==g.a7.bL)&&true))))&&((f.bS==g.bS)&&((f.bv==g.bv)&&((f.cg==g.cg)&&((f.bG==g.bG)&&((f.bT==g.bT)&&true)))))))=true then(some (.stop (.inr false)))else(some (.next (FN .i64 (s2+1)))))else(some (.stop (.inl ())))
def cB(a0:(List aa))(a1:(List aa)):Option (Bool):=
  if((a0.length:Int) != (a1.length:Int))=true then(some false)else((cI (eh a0 a1) 0).bind fun g=>match g with| .inl _=>(some true)| .inr f=>(some f))
def o0(a0:bH)(a1:bH):Option (Bool):=
  (cB a0.ew a1.ew).bind fun f=>if f=true then(if(((a0.ba.bM.fX==a1.ba.bM.fX)&&((a0.ba.bM.fY==a1.ba.bM.fY)&&((a0.ba.bM.fZ==a1.ba.bM.fZ)&&true)))&&((a0.ba.bS==a1.ba.bS)&&((a0.ba.b8==a1.ba.b8)&&((a0.ba.mn==a1.ba.mn)&&((((a0.ba.ch.bt.fX==a1.ba.ch.bt.fX)&&((a0.ba.ch.bt.fY==a1.ba.ch.bt.fY)&&((a0.ba.ch.bt.fZ==a1.ba.ch.bt.fZ)&&true)))&&(((a0.ba.ch.bd.fX==a1.ba.ch.bd.fX)&&((a0.ba.ch.bd.fY==a1.ba.ch.bd.fY)&&((a0.ba.ch.bd.fZ==a1.ba.ch.bd.fZ)&&true)))&&true))&&true)))))=true then(if((a0.fc.bt==a1.fc.bt)&&((a0.fc.bd==a1.fc.bd)&&true))=true then(some (a0.qA==a1.qA))else(some false))else(some false))else(some false)
def iN(a0:(List ar))(a1:(List ar)):Int->Option (il (Int) ((Unit)⊕(Bool))):=fun s2=>
  if(decide (s2<(a0.length:Int)))=true then((nZ a0 s2).bind fun f=>(nZ a1 s2).bind fun g=>if(!(((f.eR.a7.bI==g.eR.a7.bI)&&((f.eR.a7.bw==g.eR.a7.bw)&&((f.eR.a7.ba==g.eR.a7.ba)&&((f.eR.a7.bL==g.eR.a7.bL)&&true))))&&((f.eR.bS==g.eR.bS)&&((f.eR.bv==g.eR.bv)&&((f.eR.cg==g.eR.cg)&&((f.eR.bG==g.eR.bG)&&((f.eR.bT==g.eR.bT)&&true)))))))=true then(some (.stop (.inr false)))else((nZ a0 s2).bind fun k=>(nZ a1 s2).bind fun q=>(o0 k.cU q.cU).bind fun j=>if(!j)=true then(some (.stop (.inr false)))else(some (.next (FN .i64 (s2+1))))))else(some (.stop (.inl ())))
def lQ(a0:(List ar))(a1:(List ar)):Option (Bool):=
  if((a0.length:Int) != (a1.length:Int))=true then(some false)else((cI (iN a0 a1) 0).bind fun f=>match f with| .inl _=>(some true)| .inr g=>(some g))
def iP(a0:av)(a1:av):Int->Option (il (Int) ((Unit)⊕(Bool))):=fun g=>
  if(decide (g<(a0.bP.length:Int)))=true then((nZ a0.bP g).bind fun r=>(nZ a1.bP g).bind fun f=>(cB r.ew f.ew).bind fun j=>if(!j)=true then(some (.stop (.inr false)))else((cB r.pp f.pp).bind fun k=>if(!k)=true then(some (.stop (.inr false)))else((lQ r.gx f.gx).bind fun q=>if(!q)=true then(some (.stop (.inr false)))else(some (.next (FN .i64 (g+1)))))))else(some (.stop (.inl ())))
def n4(a0:av)(a1:av):Option (Bool):=
  if((a0.bP.length:Int) != (a1.bP.length:Int))=true then(some false)else((nY a0.co a1.co).bind fun j=>if(!j)=true then(some false)else((gr a0.bp a1.bp).bind fun k=>if(!k)=true then(some false)else((cI (iP a0 a1) 0).bind fun f=>match f with| .inl _=>(some true)| .inr g=>(some g))))
def lW:Option (Bool):=
  (ko []).bind fun u=>(dL 2 u).bind fun q=>(gH 3 q.2).bind fun r=>(gc 1).bind fun f=>(fk q.1 r.1 [(aa.mk f 2500 2500 2500 10 0),(aa.mk f 2500 2500 2500 11 0)]).bind fun g=>(er g.1 r.1 [(aa.mk f 2500 2500 2500 11 0),(aa.mk f 2500 2500 2500 10 0)]).bind fun k=>if(g.2==0)=true then((iR g.1).bind fun B=>if((B.length:Int)==1)=true then(if(k.2.2==0)=true then(if((k.2.1.length:Int)==0)=true then((n4 g.1 k.1).bind fun j=>some j)else(some false))else(some false))else(some false))else(some false)
def mO(a1:(List aa)):(Int×(List Int)×Int×(List aa))->Option (il (Int×(List Int)×Int×(List aa)) ((List Int)×Int×(List aa))):=fun(s1,s2,q,g)=>
  if(decide (s1<(a1.length:Int)))=true then((dm 5 (ai.mk s2 q)).bind fun f=>if(decide (f.1>0))=true then((nZ a1 s1).bind fun j=>(rE g [j] 104).bind fun k=>some (.next ((FN .i64 (s1+1)),f.2.fL,f.2.fAt,k)))else(some (.next ((FN .i64 (s1+1)),f.2.fL,f.2.fAt,g))))else(some (.stop (s2,q,g)))
def md(a1:(List aa))(a2:(List aa))(d0:ai):Option ((List aa)×ai):=
  (cI (mO a1) (0,d0.fL,d0.fAt,([]:(List aa)))).bind fun f=>(dm 2 (ai.mk f.1 f.2.1)).bind fun g=>if(g.1==0)=true then(if(decide ((a2.length:Int)>0))=true then((dm (a2.length:Int) g.2).bind fun j=>(nZ a2 j.1).bind fun k=>(rE f.2.2 [k] 104).bind fun q=>some (q,j.2))else(some (f.2.2,g.2)))else(some (f.2.2,g.2))
def mc(a1:ae):(Int×(List Int)×Int×(List aj))->Option (il (Int×(List Int)×Int×(List aj)) ((List Int)×Int×(List aj))):=fun(s1,s2,U,r)=>
  if(decide (s1<(a1.a8.length:Int)))=true then((nZ a1.a8 s1).bind fun k=>(rE ([]:List az) k.cn 80).bind fun f=>(dm (f.length:Int) (ai.mk s2 U)).bind fun j=>(dm 10 j.2).bind fun g=>if(g.1==0)=true then((mN 60 g.2).bind fun u=>(inO f j.1).bind fun _=>(xy f j.1 (fun(q:az)=>(az.mk q.b7 q.fTo q.nl u.1 q.bV))).bind fun G=>(rE r [(aj.mk k.a7 G)] 88).bind fun H=>some (.next ((FN .i64 (s1+1)),u.2.fL,u.2.fAt,H)))else(if(g.1==1)=true then((gN g.2).bind fun B=>(inO f j.1).bind fun _=>(xy f j.1 (fun(z26:az)=>(az.mk z26.b7 z26.fTo z26.nl z26.bU B.1))).bind fun I=>(rE r [(aj.mk k.a7 I)] 88).bind fun J=>some (.next ((FN .i64 (s1+1)),B.2.fL,B.2.fAt,J)))else(if(g.1==2)=true then((inO f (FN .i64 ((f.length:Int)-1))).bind fun _=>(nZ f (FN .i64 ((f.length:Int)-1))).bind fun K=>(dm 4000 g.2).bind fun E=>(dY [1,1000] E.2).bind fun C=>(inO f (FN .i64 ((f.length:Int)-1))).bind fun _=>(xy f (FN .i64 ((f.length:Int)-1)) (fun(z37:az)=>(az.mk z37.b7 (FN .i64 ((FN .i64 (K.b7+1))+(FN .i64 (E.1*C.1)))) z37.nl z37.bU z37.bV))).bind fun L=>(rE r [(aj.mk k.a7 L)] 88).bind fun N=>some (.next ((FN .i64 (s1+1)),C.2.fL,C.2.fAt,N)))else(if(g.1==3)=true then(some (.next ((FN .i64 (s1+1)),g.2.fL,g.2.fAt,r)))else(if(g.1==4)=true then((dm 2 g.2).bind fun D=>(inO f j.1).bind fun _=>(xy f j.1 (fun(z45:az)=>(az.mk z45.b7 z45.fTo (cA.mk (FN .i64 (50+D.1)) z45.nl.bY) z45.bU z45.bV))).bind fun F=>(inO F j.1).bind fun _=>(xy F j.1 (fun(z49:az)=>(az.mk z49.b7 z49.fTo (cA.mk z49.nl.cf 1) z49.bU z49.bV))).bind fun O=>(rE r [(aj.mk k.a7 O)] 88).bind fun Q=>some (.next ((FN .i64 (s1+1)),D.2.fL,D.2.fAt,Q)))else((rE r [(aj.mk k.a7 f)] 88).bind fun T=>some (.next ((FN .i64 (s1+1)),g.2.fL,g.2.fAt,T))))))))else(some (.stop (s2,U,r)))
def lk(a1:ae)(d0:ai):Option (ae×ai):=
  (cI (mc a1) (0,d0.fL,d0.fAt,([]:(List aj)))).bind fun f=>some ((ae.mk f.2.2),(ai.mk f.1 f.2.1))
def jl(a0:(List Int))(a1:Int):Int->Option (il (Int) ((Unit)⊕(Bool))):=fun s1=>
  if(decide (s1<(a0.length:Int)))=true then((nZ a0 s1).bind fun f=>if(f==a1)=true then(some (.stop (.inr true)))else(some (.next (FN .i64 (s1+1)))))else(some (.stop (.inl ())))
def qh(a0:(List Int))(a1:Int):Option (Bool):=
  (cI (jl a0 a1) 0).bind fun f=>match f with| .inl _=>(some false)| .inr g=>(some g)
def gq(F:av×Int)(E:av×(List Int)×Int)(g:Int):(Bool×Int)->Option (il (Bool×Int) (Bool×Int)):=fun(k,f)=>
  if(decide (f<(F.1.bP.length:Int)))=true then((nZ F.1.bP f).bind fun j=>if k=true then(some (.next (true,(FN .i64 (f+1)))))else((nZ E.1.bP g).bind fun q=>(cB j.ew q.ew).bind fun r=>if r=true then((nZ E.1.bP g).bind fun u=>(lQ j.gx u.gx).bind fun B=>if B=true then((nZ E.1.bP g).bind fun C=>(cB j.pp C.pp).bind fun D=>some (.next (D,(FN .i64 (f+1)))))else(some (.next (false,(FN .i64 (f+1))))))else(some (.next (false,(FN .i64 (f+1)))))))else(some (.stop (k,g)))
def dF(k:av×(List Int)×Int)(q:av×Int):Int->Option (il (Int) ((Unit)⊕(Bool))):=fun f=>
  if(decide (f<(k.1.bP.length:Int)))=true then((qh k.2.1 f).bind fun j=>if j=true then(some (.next (FN .i64 (f+1))))else((cI (gq q k f) (false,0)).bind fun g=>if(!g.1)=true then(some (.stop (.inr false)))else(some (.next (FN .i64 (g.2+1))))))else(some (.stop (.inl ())))
def dD(C:ah×ai)(D:ae×ai)(E:(List aa)×ai)(F:(List aa)×ai)(B:(List aj)):Option (Bool):=
  (fk C.1 D.1 E.1).bind fun r=>(er r.1 (ae.mk B) F.1).bind fun u=>(gf C.1.ac.cw E.1 F.1 D.1 (ae.mk B)).bind fun f=>if(r.2 != 0)=true then(some false)else(if(u.2.2 != 0)=true then(some false)else(if(f.2 != 0)=true then(some false)else((oC u.2.1 f.1).bind fun k=>if(!k)=true then(some false)else((cI (dF u r) 0).bind fun g=>match g with| .inl _=>((lW ).bind fun q=>some q)| .inr j=>(some j)))))
def jm(a0:(List Int)):Option (Bool):=
  (ko a0).bind fun B=>(dL 3 B).bind fun g=>(gH 6 g.2).bind fun f=>(kK g.1 f.1 9 f.2).bind fun k=>(kK g.1 f.1 2 k.2).bind fun u=>(md k.1 u.1 u.2).bind fun r=>(dm 2 r.2).bind fun j=>if(j.1==0)=true then((lk f.1 j.2).bind fun q=>dD g f k r q.1.a8)else(dD g f k r f.1.a8)
def nz(a0:bq):Option ((List aa)):=
  some a0.pp
def k9(a0:av):(Int×(List aa))->Option (il (Int×(List aa)) ((List aa))):=fun(s1,s2)=>
  if(decide (s1<(a0.bP.length:Int)))=true then((nZ a0.bP s1).bind fun f=>(nz f).bind fun g=>(rE s2 g 104).bind fun j=>some (.next ((FN .i64 (s1+1)),j)))else(some (.stop s2))
def mD(a0:av):Option ((List aa)):=
  (cI (k9 a0) (0,([]:(List aa)))).bind fun f=>(da f).bind fun g=>some g
def pW(a0:av):Option ((List aa)):=
  (mD a0).bind fun f=>some f
def ly(a0:(List UInt8))(a1:(List UInt8)):Option (Int):=
  if(Op.bytesLess a0 a1)=true then(some (-1))else(if(!(Op.bytesLess a0 a1||a0==a1))=true then(some 1)else(some 0))
def qu(a0:bi)(a1:bi):Option (Int):=
  (ly a0.bI a1.bI).bind fun f=>(ly a0.bw a1.bw).bind fun g=>(ly a0.ba a1.ba).bind fun j=>(ly a0.bL a1.bL).bind fun k=>if(f != 0)=true then(some f)else(if(g != 0)=true then(some g)else(if(j != 0)=true then(some j)else(if(k != 0)=true then(some k)else(some 0))))
def qv(a0:aa)(a1:aa):Option (Int):=
  (qu a0.a7 a1.a7).bind fun f=>if(f != 0)=true then(some f)else(if(decide (a0.bS<a1.bS))=true then(some (-1))else(if(decide (a0.bS>a1.bS))=true then(some 1)else(if(decide (a0.bv<a1.bv))=true then(some (-1))else(if(decide (a0.bv>a1.bv))=true then(some 1)else(if(decide (a0.cg<a1.cg))=true then(some (-1))else(if(decide (a0.cg>a1.cg))=true then(some 1)else(if(decide (a0.bG<a1.bG))=true then(some (-1))else(if(decide (a0.bG>a1.bG))=true then(some 1)else(if(decide (a0.bT<a1.bT))=true then(some (-1))else(if(decide (a0.bT>a1.bT))=true then(some 1)else(some 0)))))))))))
end
end Go.Dw.Re
