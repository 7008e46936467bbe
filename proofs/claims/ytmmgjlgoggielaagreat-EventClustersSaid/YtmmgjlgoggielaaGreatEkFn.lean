
import Derived.Test.YtmmgjlgoggielaaGreatDwNest
import Derived.Test.YtmmgjlgoggielaaGreatDwSortIP
import Derived.Test.YtmmgjlgoggielaaGreatDwSortP

namespace Go.Dw.Ek
open Go.Dw
noncomputable section
structure ac where
  fL:(List Int)
  fAt:Int
  deriving DecidableEq
def ac.pd(x:ac):PD:= .agg [.lst (x.fL.map (PD.int .i64)),.int .i64 x.fAt]
structure aa where
  fX:Int
  fY:Int
  fZ:Int
  deriving DecidableEq
def aa.pd(x:aa):PD:= .agg [.int .i64 x.fX,.int .i64 x.fY,.int .i64 x.fZ]
structure ai where
  aL:aa
  aF:aa
  deriving DecidableEq
def ai.pd(x:ai):PD:= .agg [.int .i64 x.aL.fX,.int .i64 x.aL.fY,.int .i64 x.aL.fZ,.int .i64 x.aF.fX,.int .i64 x.aF.fY,.int .i64 x.aF.fZ]
structure aI where
  bn:Int
  aL:(List Int)
  aF:(List Int)
  deriving DecidableEq
def aI.pd(x:aI):PD:= .agg [.int .i64 x.bn,.lst (x.aL.map (PD.int .i64)),.lst (x.aF.map (PD.int .i64))]
structure aJ where
  aO:ai
  bi:aI
  da:Int
  bS:Int
  cB:Int
  lC:Int
  cw:Int
  deriving DecidableEq
def aJ.pd(x:aJ):PD:= .agg [.int .i64 x.aO.aL.fX,.int .i64 x.aO.aL.fY,.int .i64 x.aO.aL.fZ,.int .i64 x.aO.aF.fX,.int .i64 x.aO.aF.fY,.int .i64 x.aO.aF.fZ,.int .i64 x.bi.bn,.lst (x.bi.aL.map (PD.int .i64)),.lst (x.bi.aF.map (PD.int .i64)),.int .i64 x.da,.int .i64 x.bS,.int .i64 x.cB,.int .i64 x.lC,.int .i64 x.cw]
structure bu where
  b8:aI
  bI:Int
  bw:Int
  deriving DecidableEq
def bu.pd(x:bu):PD:= .agg [.int .i64 x.b8.bn,.lst (x.b8.aL.map (PD.int .i64)),.lst (x.b8.aF.map (PD.int .i64)),.int .i64 x.bI,.int .i64 x.bw]
structure ap where
  ah:aJ
  fb:bu
  bS:Int
  deriving DecidableEq
def ap.pd(x:ap):PD:= .agg [.int .i64 x.ah.aO.aL.fX,.int .i64 x.ah.aO.aL.fY,.int .i64 x.ah.aO.aL.fZ,.int .i64 x.ah.aO.aF.fX,.int .i64 x.ah.aO.aF.fY,.int .i64 x.ah.aO.aF.fZ,.int .i64 x.ah.bi.bn,.lst (x.ah.bi.aL.map (PD.int .i64)),.lst (x.ah.bi.aF.map (PD.int .i64)),.int .i64 x.ah.da,.int .i64 x.ah.bS,.int .i64 x.ah.cB,.int .i64 x.ah.lC,.int .i64 x.ah.cw,.int .i64 x.fb.b8.bn,.lst (x.fb.b8.aL.map (PD.int .i64)),.lst (x.fb.b8.aF.map (PD.int .i64)),.int .i64 x.fb.bI,.int .i64 x.fb.bw,.int .i64 x.bS]
structure aw where
  a8:(List UInt8)
  aN:(List UInt8)
  aq:(List UInt8)
  bd:(List UInt8)
  deriving DecidableEq
def aw.pd(x:aw):PD:= .agg [.str x.a8,.str x.aN,.str x.aq,.str x.bd]
structure bo where
  bI:Int
  bw:Int
  deriving DecidableEq
def bo.pd(x:bo):PD:= .agg [.int .i64 x.bI,.int .i64 x.bw]
structure aW where
  a0:Int
  a1:Int
  a2:Int
  deriving DecidableEq
def aW.pd(x:aW):PD:= .agg [.int .i64 x.a0,.int .i64 x.a1,.int .i64 x.a2]
structure aH where
  fP:Int
  bI:aW
  bw:aW
  dM:(List Int)
  dD:Int
  dO:Int
  deriving DecidableEq
def aH.pd(x:aH):PD:= .agg [.int .i64 x.fP,.int .i64 x.bI.a0,.int .i64 x.bI.a1,.int .i64 x.bI.a2,.int .i64 x.bw.a0,.int .i64 x.bw.a1,.int .i64 x.bw.a2,.lst (x.dM.map (PD.int .i64)),.int .i64 x.dD,.int .i64 x.dO]
structure aP where
  bG:(List aH)
  deriving DecidableEq
def aP.pd(x:aP):PD:= .agg [.lst (x.bG.map aH.pd)]
structure av where
  bp:Int
  fTo:Int
  gq:bo
  bj:aa
  bN:aP
  deriving DecidableEq
def av.pd(x:av):PD:= .agg [.int .i64 x.bp,.int .i64 x.fTo,.int .i64 x.gq.bI,.int .i64 x.gq.bw,.int .i64 x.bj.fX,.int .i64 x.bj.fY,.int .i64 x.bj.fZ,.lst (x.bN.bG.map aH.pd)]
structure az where
  aD:aw
  bM:(List av)
  deriving DecidableEq
def az.pd(x:az):PD:= .agg [.str x.aD.a8,.str x.aD.aN,.str x.aD.aq,.str x.aD.bd,.lst (x.bM.map av.pd)]
structure ar where
  aT:(List az)
  deriving DecidableEq
def ar.pd(x:ar):PD:= .agg [.lst (x.aT.map az.pd)]
structure ae where
  aD:aw
  aX:Int
  aK:Int
  bf:Int
  aQ:Int
  aU:Int
  deriving DecidableEq
def ae.pd(x:ae):PD:= .agg [.str x.aD.a8,.str x.aD.aN,.str x.aD.aq,.str x.aD.bd,.int .i64 x.aX,.int .i64 x.aK,.int .i64 x.bf,.int .i64 x.aQ,.int .i64 x.aU]
structure aj where
  aV:aa
  aX:Int
  bh:Int
  d5:Int
  aY:ai
  deriving DecidableEq
def aj.pd(x:aj):PD:= .agg [.int .i64 x.aV.fX,.int .i64 x.aV.fY,.int .i64 x.aV.fZ,.int .i64 x.aX,.int .i64 x.bh,.int .i64 x.d5,.int .i64 x.aY.aL.fX,.int .i64 x.aY.aL.fY,.int .i64 x.aY.aL.fZ,.int .i64 x.aY.aF.fX,.int .i64 x.aY.aF.fY,.int .i64 x.aY.aF.fZ]
structure aA where
  aL:Int
  aF:Int
  deriving DecidableEq
def aA.pd(x:aA):PD:= .agg [.int .i64 x.aL,.int .i64 x.aF]
structure bc where
  cg:(List ae)
  aq:aj
  bt:aA
  gu:Int
  deriving DecidableEq
def bc.pd(x:bc):PD:= .agg [.lst (x.cg.map ae.pd),.int .i64 x.aq.aV.fX,.int .i64 x.aq.aV.fY,.int .i64 x.aq.aV.fZ,.int .i64 x.aq.aX,.int .i64 x.aq.bh,.int .i64 x.aq.d5,.int .i64 x.aq.aY.aL.fX,.int .i64 x.aq.aY.aL.fY,.int .i64 x.aq.aY.aL.fZ,.int .i64 x.aq.aY.aF.fX,.int .i64 x.aq.aY.aF.fY,.int .i64 x.aq.aY.aF.fZ,.int .i64 x.bt.aL,.int .i64 x.bt.aF,.int .i64 x.gu]
structure au where
  aZ:ae
  aB:bc
  deriving DecidableEq
def au.pd(x:au):PD:= .agg [.str x.aZ.aD.a8,.str x.aZ.aD.aN,.str x.aZ.aD.aq,.str x.aZ.aD.bd,.int .i64 x.aZ.aX,.int .i64 x.aZ.aK,.int .i64 x.aZ.bf,.int .i64 x.aZ.aQ,.int .i64 x.aZ.aU,.lst (x.aB.cg.map ae.pd),.int .i64 x.aB.aq.aV.fX,.int .i64 x.aB.aq.aV.fY,.int .i64 x.aB.aq.aV.fZ,.int .i64 x.aB.aq.aX,.int .i64 x.aB.aq.bh,.int .i64 x.aB.aq.d5,.int .i64 x.aB.aq.aY.aL.fX,.int .i64 x.aB.aq.aY.aL.fY,.int .i64 x.aB.aq.aY.aL.fZ,.int .i64 x.aB.aq.aY.aF.fX,.int .i64 x.aB.aq.aY.aF.fY,.int .i64 x.aB.aq.aY.aF.fZ,.int .i64 x.aB.bt.aL,.int .i64 x.aB.bt.aF,.int .i64 x.aB.gu]
structure ak where
  aN:aa
  aK:Int
  bf:Int
  bA:Int
  deriving DecidableEq
def ak.pd(x:ak):PD:= .agg [.int .i64 x.aN.fX,.int .i64 x.aN.fY,.int .i64 x.aN.fZ,.int .i64 x.aK,.int .i64 x.bf,.int .i64 x.bA]
structure aG where
  bp:Int
  fTo:Int
  deriving DecidableEq
def aG.pd(x:aG):PD:= .agg [.int .i64 x.bp,.int .i64 x.fTo]
structure a7 where
  co:(List Int)
  aV:aa
  aX:Int
  deriving DecidableEq
def a7.pd(x:a7):PD:= .agg [.lst (x.co.map (PD.int .i64)),.int .i64 x.aV.fX,.int .i64 x.aV.fY,.int .i64 x.aV.fZ,.int .i64 x.aX]
structure bg where
  np:(List Int)
  fback:(List Int)
  deriving DecidableEq
def bg.pd(x:bg):PD:= .agg [.lst (x.np.map (PD.int .i64)),.lst (x.fback.map (PD.int .i64))]
structure ag where
  aO:ai
  bi:aI
  ba:(List ak)
  da:Int
  deriving DecidableEq
def ag.pd(x:ag):PD:= .agg [.int .i64 x.aO.aL.fX,.int .i64 x.aO.aL.fY,.int .i64 x.aO.aL.fZ,.int .i64 x.aO.aF.fX,.int .i64 x.aO.aF.fY,.int .i64 x.aO.aF.fZ,.int .i64 x.bi.bn,.lst (x.bi.aL.map (PD.int .i64)),.lst (x.bi.aF.map (PD.int .i64)),.lst (x.ba.map ak.pd),.int .i64 x.da]
structure al where
  jx:ai
  ch:Int
  gw:Int
  deriving DecidableEq
def al.pd(x:al):PD:= .agg [.int .i64 x.jx.aL.fX,.int .i64 x.jx.aL.fY,.int .i64 x.jx.aL.fZ,.int .i64 x.jx.aF.fX,.int .i64 x.jx.aF.fY,.int .i64 x.jx.aF.fZ,.int .i64 x.ch,.int .i64 x.gw]
structure bQ where
  fp:ag
  kg:(List al)
  gw:Int
  ftaken:Int
  ffound:Bool
  bT:aj
  deriving DecidableEq
def bQ.pd(x:bQ):PD:= .agg [.int .i64 x.fp.aO.aL.fX,.int .i64 x.fp.aO.aL.fY,.int .i64 x.fp.aO.aL.fZ,.int .i64 x.fp.aO.aF.fX,.int .i64 x.fp.aO.aF.fY,.int .i64 x.fp.aO.aF.fZ,.int .i64 x.fp.bi.bn,.lst (x.fp.bi.aL.map (PD.int .i64)),.lst (x.fp.bi.aF.map (PD.int .i64)),.lst (x.fp.ba.map ak.pd),.int .i64 x.fp.da,.lst (x.kg.map al.pd),.int .i64 x.gw,.int .i64 x.ftaken,.bool x.ffound,.int .i64 x.bT.aV.fX,.int .i64 x.bT.aV.fY,.int .i64 x.bT.aV.fZ,.int .i64 x.bT.aX,.int .i64 x.bT.bh,.int .i64 x.bT.d5,.int .i64 x.bT.aY.aL.fX,.int .i64 x.bT.aY.aL.fY,.int .i64 x.bT.aY.aL.fZ,.int .i64 x.bT.aY.aF.fX,.int .i64 x.bT.aY.aF.fY,.int .i64 x.bT.aY.aF.fZ]
structure aS where
  du:(List ae)
  dc:(List ak)
  jn:(List av)
  deriving DecidableEq
def aS.pd(x:aS):PD:= .agg [.lst (x.du.map ae.pd),.lst (x.dc.map ak.pd),.lst (x.jn.map av.pd)]
structure aM where
  bI:(List Int)
  bw:(List Int)
  deriving DecidableEq
def aM.pd(x:aM):PD:= .agg [.lst (x.bI.map (PD.int .i64)),.lst (x.bw.map (PD.int .i64))]
structure eT where
  deriving DecidableEq
def eT.pd(x:eT):PD:= .agg []
structure A4_Int where
  a0:Int
  a1:Int
  a2:Int
  a3:Int
  deriving DecidableEq
def A4_Int.pd(x:A4_Int):PD:= .agg [.int .i64 x.a0,.int .i64 x.a1,.int .i64 x.a2,.int .i64 x.a3]
structure bH where
  a0:Int
  a1:Int
  deriving DecidableEq
def bH.pd(x:bH):PD:= .agg [.int .i64 x.a0,.int .i64 x.a1]
structure dI where
  a0:bH
  a1:bH
  a2:bH
  a3:bH
  a4:bH
  deriving DecidableEq
def dI.pd(x:dI):PD:= .agg [.int .i64 x.a0.a0,.int .i64 x.a0.a1,.int .i64 x.a1.a0,.int .i64 x.a1.a1,.int .i64 x.a2.a0,.int .i64 x.a2.a1,.int .i64 x.a3.a0,.int .i64 x.a3.a1,.int .i64 x.a4.a0,.int .i64 x.a4.a1]
def kk(a0:(List Int)):Option (ac):=
  (wD a0 0 (if 2000<(a0.length:Int)then 2000 else(a0.length:Int))).bind fun x1=>some (ac.mk x1 0)
def Src_Raw(d0:ac):Option (Int×ac):=
  if(decide (d0.fAt>=(d0.fL.length:Int)))=true then(some (0,d0))else((eQ d0.fL (IntKind.wrap .i64 ((IntKind.wrap .i64 (d0.fAt+1))-1))).bind fun x2=>some (x2,(ac.mk d0.fL (IntKind.wrap .i64 (d0.fAt+1)))))
def nu(a0:Int)(a1:Int):Option (Int):=
  if(decide (a1<1))=true then(some 0)else((vu a0 a1).bind fun x2=>if(decide (x2<0))=true then(some (IntKind.wrap .i64 (x2+a1)))else(some x2))
def cJ(a1:Int)(d0:ac):Option (Int×ac):=
  (Src_Raw d0).bind fun x1=>(nu x1.1 a1).bind fun x2=>some (x2,x1.2)
def jE(a1:Int)(d0:ac):Option (aa×ac):=
  (cJ (IntKind.wrap .i64 ((IntKind.wrap .i64 (2*a1))+1)) d0).bind fun x1=>(cJ (IntKind.wrap .i64 ((IntKind.wrap .i64 (2*a1))+1)) x1.2).bind fun x2=>(cJ (IntKind.wrap .i64 (a1+1)) x2.2).bind fun x3=>some ((aa.mk (IntKind.wrap .i64 (x1.1-a1)) (IntKind.wrap .i64 (x2.1-a1)) x3.1),x3.2)
def nD(a1:Int)(a2:Int)(d0:ac):Option (ai×ac):=
  (jE a1 d0).bind fun x1=>(cJ (IntKind.wrap .i64 (a2+1)) x1.2).bind fun x2=>(cJ (IntKind.wrap .i64 (a2+1)) x2.2).bind fun x3=>(cJ (IntKind.wrap .i64 (a2+1)) x3.2).bind fun x4=>some ((ai.mk x1.1 (aa.mk (IntKind.wrap .i64 (x1.1.fX+x2.1)) (IntKind.wrap .i64 (x1.1.fY+x3.1)) (IntKind.wrap .i64 (x1.1.fZ+x4.1)))),x4.2)
def dl(a1:(List Int))(d0:ac):Option (Int×ac):=
  (cJ (a1.length:Int) d0).bind fun x1=>(eQ a1 x1.1).bind fun x2=>some (x2,x1.2)
def jd(x1:Int×ac):(Int×Int×Int×(List Int)×Int×(List Int)×(List Int))->Option (fK (Int×Int×Int×(List Int)×Int×(List Int)×(List Int)) ((List Int)×Int×(List Int)×(List Int))):=fun(s3,s4,s5,s6,s7,s8,s9)=>
  (rr .i64 400 x1.1).bind fun x15=>(cJ 3 (ac.mk s6 s7)).bind fun x16=>if(decide (s5<=(IntKind.wrap .i64 (x15+x16.1))))=true then((nJ s8 [s3] 8).bind fun x18=>(nJ s9 [s4] 8).bind fun x19=>(dl [0,10,20,35] x16.2).bind fun x20=>(rr .i64 x1.1 4).bind fun x21=>(dl [0,0,5,30] x20.2).bind fun x22=>some (.next ((IntKind.wrap .i64 (s3+(IntKind.wrap .i64 (x20.1+x21)))),(IntKind.wrap .i64 ((if(IntKind.wrap .i64 (s3+(IntKind.wrap .i64 (x20.1+x21))))>s4 then(IntKind.wrap .i64 (s3+(IntKind.wrap .i64 (x20.1+x21))))else s4)+x22.1)),(IntKind.wrap .i64 (s5+1)),x22.2.fL,x22.2.fAt,x18,x19)))else(some (.stop (x16.2.fL,x16.2.fAt,s8,s9)))
def iJ(d0:ac):Option (aI×ac):=
  (dl [20,25,40,100] d0).bind fun x1=>(cJ 3 x1.2).bind fun x2=>(dS (jd x1) (0,x2.1,0,x2.2.fL,x2.2.fAt,([]:(List Int)),([]:(List Int)))).bind fun o24=>some ((aI.mk x1.1 o24.2.2.1 o24.2.2.2),(ac.mk o24.1 o24.2.1))
def dL(a1:Int)(d0:ac):Option (aJ×ac):=
  (nD 20 a1 d0).bind fun x1=>(iJ x1.2).bind fun x2=>(dl [10,50,200] x2.2).bind fun x3=>(dl [0,0,10,40] x3.2).bind fun x4=>(dl [0,50,200,400] x4.2).bind fun x5=>(dl [0,5,20] x5.2).bind fun x6=>(cJ 2 x6.2).bind fun x7=>some ((aJ.mk x1.1 x2.1 x3.1 x4.1 x5.1 x6.1 (IntKind.wrap .i64 (2+x7.1))),x7.2)
def k8(x1:aI×ac):(Int×(List Int)×(List Int))->Option (fK (Int×(List Int)×(List Int)) ((List Int)×(List Int))):=fun(s4,s5,s6)=>
  if(decide (s4<(x1.1.aL.length:Int)))=true then((inO s5 s4).bind fun _=>(eQ s5 s4).bind fun x13=>(rr .i64 x13 3).bind fun x14=>(inO s6 s4).bind fun _=>(eQ s6 s4).bind fun x17=>(rr .i64 x17 3).bind fun x18=>(inO s5 s4).bind fun _=>(sj s5 s4 x14).bind fun x21=>(inO s6 s4).bind fun _=>(sj s6 s4 x18).bind fun x24=>some (.next ((IntKind.wrap .i64 (s4+1)),x21,x24)))else(some (.stop (s5,s6)))
def jF(d0:ac):Option (bu×ac):=
  (iJ d0).bind fun x1=>(cJ 20 x1.2).bind fun x2=>(cJ 9 x2.2).bind fun x3=>(dS (k8 x1) (0,x1.1.aL,x1.1.aF)).bind fun o26=>some ((bu.mk (aI.mk x1.1.bn o26.1 o26.2) x2.1 (IntKind.wrap .i64 (1+x3.1))),x3.2)
def dy(a1:Int)(d0:ac):Option (ap×ac):=
  (dL a1 d0).bind fun x1=>(jF x1.2).bind fun x2=>(dl [0,0,10,40] x2.2).bind fun x3=>some ((ap.mk x1.1 x2.1 x3.1),x3.2)
def iI:(Int×(List Int)×Int×(List aH))->Option (fK (Int×(List Int)×Int×(List aH)) ((List Int)×Int×(List aH))):=fun(s2,s3,s4,s5)=>
  if(decide (s2>0))=true then((cJ 3 (ac.mk s3 s4)).bind fun x11=>if(x11.1==0)=true then((dl [0,1,9,99,1048575] x11.2).bind fun x13=>(dl [0,0,2,9,999] x13.2).bind fun x14=>(nJ s5 [(aH.mk x11.1 (aW.mk (IntKind.wrap .i64 (1+x13.1)) 0 0) (aW.mk (IntKind.wrap .i64 (1+x14.1)) 0 0) [] 0 0)] 96).bind fun x15=>some (.next ((IntKind.wrap .i64 (s2-1)),x14.2.fL,x14.2.fAt,x15)))else(if(x11.1==1)=true then((cJ 5 x11.2).bind fun x17=>(cJ 7 x17.2).bind fun x18=>(cJ 3 x18.2).bind fun x19=>(cJ 5 x19.2).bind fun x20=>(cJ 7 x20.2).bind fun x21=>(cJ 3 x21.2).bind fun x22=>(nJ s5 [(aH.mk x11.1 (aW.mk x17.1 (IntKind.wrap .i64 (x18.1-3)) (IntKind.wrap .i64 (x19.1-1))) (aW.mk (IntKind.wrap .i64 (1+x20.1)) x21.1 x22.1) [] 0 0)] 96).bind fun x23=>some (.next ((IntKind.wrap .i64 (s2-1)),x22.2.fL,x22.2.fAt,x23)))else((cJ 3 x11.2).bind fun x24=>(cJ 4 x24.2).bind fun x25=>(nJ s5 [(aH.mk x11.1 (aW.mk 0 0 0) (aW.mk 0 0 0) [(IntKind.wrap .i64 (1+x24.1)),2,1] 1 x25.1)] 96).bind fun x26=>some (.next ((IntKind.wrap .i64 (s2-1)),x25.2.fL,x25.2.fAt,x26)))))else(some (.stop (s3,s4,s5)))
def eM(d0:ac):Option (aP×ac):=
  (cJ 4 d0).bind fun x1=>(dS (iI) (x1.1,x1.2.fL,x1.2.fAt,([]:(List aH)))).bind fun o28=>some ((aP.mk o28.2.2),(ac.mk o28.1 o28.2.1))
def dN(a0:Int):Option (aw):=
  (nu a0 6).bind fun x1=>(eQ [[83,49],[83,50],[83,51],[83,52],[83,53],[83,54]] x1).bind fun x2=>some (aw.mk [65,66] x2 [48,48] [66,72,90])
def gQ(a1:Int):(Int×(List Int)×Int×(List az))->Option (fK (Int×(List Int)×Int×(List az)) ((List Int)×Int×(List az))):=fun(s1,s2,s3,s4)=>
  if(decide (s1<a1))=true then(if(decide (s1<6))=true then((jE 60 (ac.mk s2 s3)).bind fun x11=>(eM x11.2).bind fun x12=>(dN s1).bind fun x13=>(cJ 6 x12.2).bind fun x14=>if(x14.1==0)=true then((cJ 500 x14.2).bind fun x16=>(jE 60 x16.2).bind fun x17=>(eM x17.2).bind fun x18=>(inO [(av.mk 0 100000 (bo.mk 100 1) x11.1 x12.1)] 0).bind fun _=>(modO [(av.mk 0 100000 (bo.mk 100 1) x11.1 x12.1)] 0 (fun(z22:av)=>(av.mk z22.bp (IntKind.wrap .i64 (1500+x16.1)) z22.gq z22.bj z22.bN))).bind fun x21=>(nJ x21 [(av.mk (IntKind.wrap .i64 (1500+x16.1)) 100000 (bo.mk 100 1) x17.1 x18.1)] 80).bind fun x23=>(nJ s4 [(az.mk x13 x23)] 88).bind fun x24=>some (.next ((IntKind.wrap .i64 (s1+1)),x18.2.fL,x18.2.fAt,x24)))else(if(x14.1==1)=true then((cJ 1500 x14.2).bind fun x26=>(inO [(av.mk 0 100000 (bo.mk 100 1) x11.1 x12.1)] 0).bind fun _=>(modO [(av.mk 0 100000 (bo.mk 100 1) x11.1 x12.1)] 0 (fun(z30:av)=>(av.mk x26.1 z30.fTo z30.gq z30.bj z30.bN))).bind fun x29=>(nJ s4 [(az.mk x13 x29)] 88).bind fun x31=>some (.next ((IntKind.wrap .i64 (s1+1)),x26.2.fL,x26.2.fAt,x31)))else((nJ s4 [(az.mk x13 [(av.mk 0 100000 (bo.mk 100 1) x11.1 x12.1)])] 88).bind fun x32=>some (.next ((IntKind.wrap .i64 (s1+1)),x14.2.fL,x14.2.fAt,x32)))))else(some (.stop (s2,s3,s4))))else(some (.stop (s2,s3,s4)))
def fk(a1:Int)(d0:ac):Option (ar×ac):=
  (dS (gQ a1) (0,d0.fL,d0.fAt,([]:(List az)))).bind fun o34=>some ((ar.mk o34.2.2),(ac.mk o34.1 o34.2.1))
def md(a1:Int)(a2:Int)(d0:ac):Option (Int×ac):=
  (cJ (IntKind.wrap .i64 ((IntKind.wrap .i64 (a2-a1))+1)) d0).bind fun x1=>some ((IntKind.wrap .i64 (a1+x1.1)),x1.2)
def nh(a1:ai)(d0:ac):Option (aa×ac):=
  (md a1.aL.fX a1.aF.fX d0).bind fun x1=>(md a1.aL.fY a1.aF.fY x1.2).bind fun x2=>(md a1.aL.fZ a1.aF.fZ x2.2).bind fun x3=>some ((aa.mk x1.1 x2.1 x3.1),x3.2)
def oD(x4:az)(a1:aw)(a2:Int)(s1:Int):Int->Option (fK (Int) ((Int)⊕(aa×Bool))):=fun s5=>
  if(decide (s5<(x4.bM.length:Int)))=true then((eQ x4.bM s5).bind fun x9=>if((x4.aD.a8==a1.a8)&&((x4.aD.aN==a1.aN)&&((x4.aD.aq==a1.aq)&&((x4.aD.bd==a1.bd)&&true))))=true then(if(decide (x9.bp<=a2))=true then(if(decide (a2<x9.fTo))=true then(some (.stop (.inr (x9.bj,true))))else(some (.next (IntKind.wrap .i64 (s5+1)))))else(some (.next (IntKind.wrap .i64 (s5+1)))))else(some (.next (IntKind.wrap .i64 (s5+1)))))else(some (.stop (.inl s1)))
def oE(a0:ar)(a1:aw)(a2:Int):Int->Option (fK (Int) ((Unit)⊕(aa×Bool))):=fun s1=>
  if(decide (s1<(a0.aT.length:Int)))=true then((eQ a0.aT s1).bind fun x4=>(dS (oD x4 a1 a2 s1) 0).bind fun o14=>match o14 with| .inl y15=>(some (.next (IntKind.wrap .i64 (y15+1))))| .inr r16=>(some (.stop (.inr r16))))else(some (.stop (.inl ())))
def nQ(a0:ar)(a1:aw)(a2:Int):Option (aa×Bool):=
  (dS (oE a0 a1 a2) 0).bind fun o18=>match o18 with| .inl _=>(some ((aa.mk 0 0 0),false))| .inr r20=>(some r20)
def o0(a0:Int):Option (Int):=
  some (IntKind.wrap .i64 (a0*a0))
def fM(x18:aw)(x19:Int×ac)(x20:Int×ac)(j22:Int)(j23:Int)(j24:(List Int))(j25:Int)(j26:(List ae))(j27:Int)(j28:Int)(j29:Int)(j30:Int):Option (fK (Int×Int×(List Int)×Int×(List ae)×Int×Int×Int) ((List ae)×(List Int)×Int)):=
  (cJ 5 (ac.mk j24 j25)).bind fun x31=>(cJ 5 x31.2).bind fun x32=>(nJ j26 [(ae.mk x18 (IntKind.wrap .i64 (j30+x31.1)) j30 (IntKind.wrap .i64 ((IntKind.wrap .i64 (j30+x31.1))+x32.1)) x19.1 (IntKind.wrap .i64 (x20.1-1)))] 104).bind fun x33=>some (.next (j22,(IntKind.wrap .i64 (j23-1)),x32.2.fL,x32.2.fAt,x33,j27,j28,j29))
def mW(x40:aa×Bool)(s9:Int)(s10:Int)(s11:Int)(s4:Int)(s5:Int)(s8:(List ae)):Int->Option (fK (Int) (Int×Int×Int×(List ae)×Int×Int×Int)):=fun s42=>
  (o0 (IntKind.wrap .i64 (x40.1.fX-s9))).bind fun x51=>(o0 (IntKind.wrap .i64 (x40.1.fY-s10))).bind fun x52=>(o0 (IntKind.wrap .i64 (x40.1.fZ-s11))).bind fun x53=>if(decide ((IntKind.wrap .i64 (s42*s42))<(IntKind.wrap .i64 ((IntKind.wrap .i64 (x51+x52))+x53))))=true then(some (.next (IntKind.wrap .i64 (s42+1))))else(some (.stop (s4,s5,s42,s8,s9,s10,s11)))
def pA(a1:ap)(a2:ar):(Int×Int×(List Int)×Int×(List ae)×Int×Int×Int)->Option (fK (Int×Int×(List Int)×Int×(List ae)×Int×Int×Int) ((List ae)×(List Int)×Int)):=fun(s4,s5,s6,s7,s8,s9,s10,s11)=>
  if(decide (s5>0))=true then((cJ 6 (ac.mk s6 s7)).bind fun x17=>(dN x17.1).bind fun x18=>(dl [0,1,50,1000,1048576] x17.2).bind fun x19=>(cJ 3 x19.2).bind fun x20=>(cJ 2000 x20.2).bind fun x21=>(cJ 6 x21.2).bind fun x35=>if(x35.1==0)=true then((nh a1.ah.aO x35.2).bind fun x37=>(cJ 900 x37.2).bind fun x38=>fM x18 x19 x20 (IntKind.wrap .i64 (s4+x38.1)) s5 x38.2.fL x38.2.fAt s8 x37.1.fX x37.1.fY x37.1.fZ (IntKind.wrap .i64 (1000+x21.1)))else(if(x35.1==1)=true then(fM x18 x19 x20 s4 s5 x35.2.fL x35.2.fAt s8 s9 s10 s11 (IntKind.wrap .i64 (1000+x21.1)))else((nQ a2 x18 s4).bind fun x40=>if x40.2=true then((dS (mW x40 s9 s10 s11 s4 s5 s8) 0).bind fun o56=>(rr .i64 o56.2.2.1 a1.ah.bi.bn).bind fun x57=>(eQ a1.ah.bi.aL (if(IntKind.wrap .i64 ((a1.ah.bi.aL.length:Int)-1))<x57 then(IntKind.wrap .i64 ((a1.ah.bi.aL.length:Int)-1))else x57)).bind fun x58=>(cJ 6 x35.2).bind fun x59=>fM x18 x19 x20 o56.1 o56.2.1 x59.2.fL x59.2.fAt o56.2.2.2.1 o56.2.2.2.2.1 o56.2.2.2.2.2.1 o56.2.2.2.2.2.2 (IntKind.wrap .i64 ((IntKind.wrap .i64 (o56.1+x58))+x59.1)))else(fM x18 x19 x20 s4 s5 x35.2.fL x35.2.fAt s8 s9 s10 s11 (IntKind.wrap .i64 (1000+x21.1))))))else(some (.stop (s8,s6,s7)))
def ng(a1:ap)(a2:ar)(a3:Int)(d0:ac):Option ((List ae)×ac):=
  (nh a1.ah.aO d0).bind fun x1=>(cJ 500 x1.2).bind fun x2=>(cJ (IntKind.wrap .i64 (a3+1)) x2.2).bind fun x3=>(dS (pA a1 a2) ((IntKind.wrap .i64 (1000+x2.1)),x3.1,x3.2.fL,x3.2.fAt,([]:(List ae)),x1.1.fX,x1.1.fY,x1.1.fZ)).bind fun o61=>some (o61.1,(ac.mk o61.2.1 o61.2.2))
def bv(a0:aa):Option (aW):=
  some (aW.mk a0.fX a0.fY a0.fZ)
def cK(a0:aa):Option (Bool):=
  (bv a0).bind fun x1=>if(decide (x1.a0<(-1048576)))=true then(some false)else(if(decide (x1.a0>1048576))=true then(some false)else(if(decide (x1.a1<(-1048576)))=true then(some false)else(if(decide (x1.a1>1048576))=true then(some false)else(if(decide (x1.a2<(-16384)))=true then(some false)else(if(decide (x1.a2>1048576))=true then(some false)else(some true))))))
def bB(a0:ai):Option (Bool):=
  (cK a0.aL).bind fun x1=>if(!x1)=true then(some false)else((cK a0.aF).bind fun x3=>if(!x3)=true then(some false)else((bv a0.aF).bind fun x5=>(bv a0.aL).bind fun x6=>if(decide (x6.a0>x5.a0))=true then(some false)else(if(decide (x6.a1>x5.a1))=true then(some false)else(if(decide (x6.a2>x5.a2))=true then(some false)else(some true)))))
def jc(a0:aI):(Int×Int×Int)->Option (fK (Int×Int×Int) ((Unit)⊕(Int))):=fun(s6,s7,s8)=>
  if(decide (s8<(a0.aL.length:Int)))=true then((eQ a0.aL s8).bind fun x11=>if(decide (x11<s6))=true then(some (.stop (.inr 21)))else((eQ a0.aF s8).bind fun x13=>if(decide (x13<s7))=true then(some (.stop (.inr 21)))else((eQ a0.aL s8).bind fun x15=>(eQ a0.aF s8).bind fun x16=>if(decide (x15>x16))=true then(some (.stop (.inr 21)))else((eQ a0.aF s8).bind fun x18=>if(decide (x18>1099511627776))=true then(some (.stop (.inr 21)))else((eQ a0.aL s8).bind fun x20=>(eQ a0.aF s8).bind fun x21=>some (.next (x20,x21,(IntKind.wrap .i64 (s8+1)))))))))else(some (.stop (.inl ())))
def cz(a0:aI):Option (Int):=
  if(decide (a0.bn<1))=true then(some 21)else(if(decide (a0.bn>1048576))=true then(some 21)else(if((a0.aL.length:Int) != (a0.aF.length:Int))=true then(some 21)else(if(decide ((a0.aL.length:Int)<2))=true then(some 21)else(if(decide ((a0.aL.length:Int)>256))=true then(some 21)else((dS (jc a0) (0,0,0)).bind fun o23=>match o23 with| .inl _=>(some 0)| .inr r25=>(some r25))))))
def dY(a0:Int)(a1:Int)(a2:Int):Option (Bool):=
  if(decide (a0>=a1))=true then(some (decide (a0<=a2)))else(some false)
def dP(a0:ak):Option (Bool):=
  (cK a0.aN).bind fun x1=>if x1=true then(if(decide (a0.aK>=0))=true then(if(decide (a0.aK<=a0.bf))=true then(if(decide (a0.bf<=18014398509481984))=true then(if(decide (a0.bA>=1))=true then(some (decide (a0.bA<=100)))else(some false))else(some false))else(some false))else(some false))else(some false)
def eY(a0:Int)(a1:Int)(a2:Int):Option (Int):=
  some (if 0>(if(IntKind.wrap .i64 (a0-a2))>(IntKind.wrap .i64 (a1-a0))then(IntKind.wrap .i64 (a0-a2))else(IntKind.wrap .i64 (a1-a0)))then 0 else(if(IntKind.wrap .i64 (a0-a2))>(IntKind.wrap .i64 (a1-a0))then(IntKind.wrap .i64 (a0-a2))else(IntKind.wrap .i64 (a1-a0))))
def gz(a0:ai)(a1:aa):Option (Int):=
  (bB a0).bind fun x1=>if(!x1)=true then(some 0)else((cK a1).bind fun x3=>if(!x3)=true then(some 0)else((bv a0.aL).bind fun x5=>(bv a0.aF).bind fun x6=>(bv a1).bind fun x7=>(eY x7.a0 x5.a0 x6.a0).bind fun x8=>(eY x7.a1 x5.a1 x6.a1).bind fun x9=>(eY x7.a2 x5.a2 x6.a2).bind fun x10=>some (IntKind.wrap .i64 ((IntKind.wrap .i64 ((IntKind.wrap .i64 (0+(IntKind.wrap .i64 (x8*x8))))+(IntKind.wrap .i64 (x9*x9))))+(IntKind.wrap .i64 (x10*x10))))))
def eU(a0:ai)(a1:aa):Option (Int):=
  (gz a0 a1).bind fun x1=>some x1
def ew(a0:Int)(a1:Int)(a2:Int):Option (Int):=
  some (if(IntKind.wrap .i64 (a0-a1))>(IntKind.wrap .i64 (a2-a0))then(IntKind.wrap .i64 (a0-a1))else(IntKind.wrap .i64 (a2-a0)))
def f9(a0:ai)(a1:aa):Option (Int):=
  (bB a0).bind fun x1=>if(!x1)=true then(some 0)else((cK a1).bind fun x3=>if(!x3)=true then(some 0)else((bv a0.aL).bind fun x5=>(bv a0.aF).bind fun x6=>(bv a1).bind fun x7=>(ew x7.a0 x5.a0 x6.a0).bind fun x8=>(ew x7.a1 x5.a1 x6.a1).bind fun x9=>(ew x7.a2 x5.a2 x6.a2).bind fun x10=>some (IntKind.wrap .i64 ((IntKind.wrap .i64 ((IntKind.wrap .i64 (0+(IntKind.wrap .i64 (x8*x8))))+(IntKind.wrap .i64 (x9*x9))))+(IntKind.wrap .i64 (x10*x10))))))
def gx(a0:ai)(a1:aa):Option (Int):=
  (f9 a0 a1).bind fun x1=>some x1
def je(a0:aI)(a1:ai)(a2:aa):Option (aI×Int×Int):=
  (eU a1 a2).bind fun x1=>(gx a1 a2).bind fun x2=>some (a0,x1,x2)
def gR(j3:Int)(j4:Int):Option (Int):=
  if(decide (j3>=256))=true then((u4 [0,1,2,2,3,3,3,3,4,4,4,4,4,4,4,4,5,5,5,5,5,5,5,5,5,5,5,5,5,5,5,5,6,6,6,6,6,6,6,6,6,6,6,6,6,6,6,6,6,6,6,6,6,6,6,6,6,6,6,6,6,6,6,6,7,7,7,7,7,7,7,7,7,7,7,7,7,7,7,7,7,7,7,7,7,7,7,7,7,7,7,7,7,7,7,7,7,7,7,7,7,7,7,7,7,7,7,7,7,7,7,7,7,7,7,7,7,7,7,7,7,7,7,7,7,7,7,7,8,8,8,8,8,8,8,8,8,8,8,8,8,8,8,8,8,8,8,8,8,8,8,8,8,8,8,8,8,8,8,8,8,8,8,8,8,8,8,8,8,8,8,8,8,8,8,8,8,8,8,8,8,8,8,8,8,8,8,8,8,8,8,8,8,8,8,8,8,8,8,8,8,8,8,8,8,8,8,8,8,8,8,8,8,8,8,8,8,8,8,8,8,8,8,8,8,8,8,8,8,8,8,8,8,8,8,8,8,8,8,8,8,8,8,8,8,8,8,8,8,8,8,8,8,8,8,8] (IntKind.wrap .u8 (jS .u64 j3 8))).bind fun x6=>some (IntKind.wrap .i64 ((IntKind.wrap .i64 (j4+8))+(IntKind.wrap .i64 x6))))else((u4 [0,1,2,2,3,3,3,3,4,4,4,4,4,4,4,4,5,5,5,5,5,5,5,5,5,5,5,5,5,5,5,5,6,6,6,6,6,6,6,6,6,6,6,6,6,6,6,6,6,6,6,6,6,6,6,6,6,6,6,6,6,6,6,6,7,7,7,7,7,7,7,7,7,7,7,7,7,7,7,7,7,7,7,7,7,7,7,7,7,7,7,7,7,7,7,7,7,7,7,7,7,7,7,7,7,7,7,7,7,7,7,7,7,7,7,7,7,7,7,7,7,7,7,7,7,7,7,7,8,8,8,8,8,8,8,8,8,8,8,8,8,8,8,8,8,8,8,8,8,8,8,8,8,8,8,8,8,8,8,8,8,8,8,8,8,8,8,8,8,8,8,8,8,8,8,8,8,8,8,8,8,8,8,8,8,8,8,8,8,8,8,8,8,8,8,8,8,8,8,8,8,8,8,8,8,8,8,8,8,8,8,8,8,8,8,8,8,8,8,8,8,8,8,8,8,8,8,8,8,8,8,8,8,8,8,8,8,8,8,8,8,8,8,8,8,8,8,8,8,8,8,8,8,8,8,8] (IntKind.wrap .u8 j3)).bind fun x7=>some (IntKind.wrap .i64 (j4+(IntKind.wrap .i64 x7))))
def f4(j1:Int)(j2:Int):Option (Int):=
  if(decide (j1>=65536))=true then(gR (jS .u64 j1 16) (IntKind.wrap .i64 (j2+16)))else(gR j1 j2)
def mm(a0:Int):Option (Int):=
  if(decide (a0>=4294967296))=true then(f4 (jS .u64 a0 32) 32)else(f4 a0 0)
def fW(a0:Int):Option (Int):=
  (mm a0).bind fun x1=>some x1
def gy(a0:Int):(Int×Int)->Option (fK (Int×Int) (Int)):=fun(s5,s6)=>
  if(decide (s6>0))=true then((rr .i64 a0 (orI .i64 s5 s6)).bind fun x10=>if(decide ((orI .i64 s5 s6)<=x10))=true then(some (.next ((orI .i64 s5 s6),(jS .i64 s6 1))))else(some (.next (s5,(jS .i64 s6 1)))))else(some (.stop s5))
def fc(a0:Int):Option (Int):=
  if(decide (a0<=0))=true then(some 0)else((fW (IntKind.wrap .u64 a0)).bind fun x2=>(rr .i64 (IntKind.wrap .i64 (x2-1)) 2).bind fun x3=>(xh .i64 1 x3).bind fun x4=>(dS (gy a0) (0,x4)).bind fun o13=>some o13)
def gU(a0:Int):Option (Int):=
  (fc a0).bind fun x1=>if(decide ((IntKind.wrap .i64 (x1*x1))<a0))=true then(some (IntKind.wrap .i64 (x1+1)))else(some x1)
def kC(a0:aI):Option (Int):=
  some (IntKind.wrap .i64 (a0.bn*(IntKind.wrap .i64 ((a0.aL.length:Int)-1))))
def fV(a0:Int)(d0:aI)(d1:Int):Option (Bool):=
  some (decide ((IntKind.wrap .i64 (a0*d0.bn))>=d1))
def fU(d0:aI)(d1:Int):(Int×Int)->Option (fK (Int×Int) (Int)):=fun(s1,s2)=>
  if(decide (s1<s2))=true then((fV (IntKind.wrap .i64 (jS .u64 (IntKind.wrap .u64 (IntKind.wrap .i64 (s1+s2))) 1)) d0 d1).bind fun x6=>if(!x6)=true then(some (.next ((IntKind.wrap .i64 ((IntKind.wrap .i64 (jS .u64 (IntKind.wrap .u64 (IntKind.wrap .i64 (s1+s2))) 1))+1)),s2)))else(some (.next (s1,(IntKind.wrap .i64 (jS .u64 (IntKind.wrap .u64 (IntKind.wrap .i64 (s1+s2))) 1))))))else(some (.stop s1))
def dt(a0:Int)(d0:aI)(d1:Int):Option (Int):=
  (dS (fU d0 d1) (0,a0)).bind fun o9=>some o9
def cb(a0:aI)(a1:Int)(a2:Int):Option (Int×Int×Int):=
  (cz a0).bind fun x1=>if(x1 != 0)=true then(some (0,0,21))else(if(decide (a1<0))=true then(some (0,0,2))else(if(decide (a1>a2))=true then(some (0,0,2))else((gU a2).bind fun x5=>(kC a0).bind fun x6=>if(decide (x5>x6))=true then(some (0,0,22))else((dt (a0.aF.length:Int) a0 x5).bind fun x8=>(fc a1).bind fun x9=>(rr .i64 x9 a0.bn).bind fun x10=>(eQ a0.aL x10).bind fun x11=>(eQ a0.aF x8).bind fun x12=>some (x11,x12,0)))))
def f5(a0:aI)(a1:ai)(a2:aa):Option (Int×Int×Int):=
  (cz a0).bind fun x1=>if(x1 != 0)=true then(some (0,0,x1))else((bB a1).bind fun x3=>if(!x3)=true then(some (0,0,20))else((cK a2).bind fun x5=>if(!x5)=true then(some (0,0,20))else((je a0 a1 a2).bind fun x7=>(cb x7.1 x7.2.1 x7.2.2).bind fun x8=>some (x8.1,x8.2.1,x8.2.2))))
def dC(a0:aI)(a1:ai)(a2:ak):Option (aG×Int):=
  (cz a0).bind fun x1=>if(x1 != 0)=true then(some ((aG.mk 0 0),x1))else((bB a1).bind fun x3=>if(!x3)=true then(some ((aG.mk 0 0),20))else((dP a2).bind fun x5=>if(!x5)=true then(some ((aG.mk 0 0),23))else((f5 a0 a1 a2.aN).bind fun x7=>if(x7.2.2 != 0)=true then(some ((aG.mk 0 0),x7.2.2))else(some ((aG.mk (IntKind.wrap .i64 (a2.aK-x7.2.1)) (IntKind.wrap .i64 (a2.bf-x7.1))),0)))))
def cQ(a1:(List ak))(a0:aJ):Int->Option (fK (Int) ((Unit)⊕(Int))):=fun s16=>
  if(decide (s16<(a1.length:Int)))=true then((eQ a1 s16).bind fun x19=>(dC a0.bi a0.aO x19).bind fun x20=>if(x20.2 != 0)=true then(some (.stop (.inr x20.2)))else(some (.next (IntKind.wrap .i64 (s16+1)))))else(some (.stop (.inl ())))
def di(a0:aJ)(a1:(List ak)):Option (Int):=
  (bB a0.aO).bind fun x1=>if(!x1)=true then(some 27)else((cz a0.bi).bind fun x3=>if(x3 != 0)=true then(some 27)else((dY a0.da 1 1099511627776).bind fun x5=>if(!x5)=true then(some 27)else((dY a0.bS 0 1099511627776).bind fun x7=>if(!x7)=true then(some 27)else((dY a0.lC 0 1099511627776).bind fun x9=>if(!x9)=true then(some 27)else((dY a0.cB 0 1099511627776).bind fun x11=>if(!x11)=true then(some 27)else((dY a0.cw 2 16).bind fun x13=>if(!x13)=true then(some 27)else(if(decide ((a1.length:Int)>256))=true then(some 8)else((dS (cQ a1 a0) 0).bind fun o23=>match o23 with| .inl _=>(some 0)| .inr r25=>(some r25)))))))))
def cL(a0:bu):Option (Bool):=
  (cz a0.b8).bind fun x1=>if(x1==0)=true then(if(decide (a0.bI>=0))=true then(if(decide (a0.bI<=65536))=true then(if(decide (a0.bw>=1))=true then(some (decide (a0.bw<=65536)))else(some false))else(some false))else(some false))else(some false)
def ey(a0:ap):Option (Int):=
  (di a0.ah []).bind fun x1=>if(x1 != 0)=true then(some 27)else((cL a0.fb).bind fun x3=>if(!x3)=true then(some 27)else(if(decide (a0.bS<0))=true then(some 27)else(if(decide (a0.bS>1099511627776))=true then(some 27)else(some 0))))
def l9(a0:Int):Option (Bool):=
  if(decide (a0>=65))=true then(if(decide (a0<=90))=true then(some true)else(if(decide (a0>=48))=true then(some (decide (a0<=57)))else(some false)))else(if(decide (a0>=48))=true then(some (decide (a0<=57)))else(some false))
def iG(a0:(List UInt8)):Int->Option (fK (Int) ((Unit)⊕(Bool))):=fun s1=>
  if(decide (s1<(a0.length:Int)))=true then((u4 a0 s1).bind fun x4=>(l9 x4).bind fun x5=>if(!x5)=true then(some (.stop (.inr false)))else(some (.next (IntKind.wrap .i64 (s1+1)))))else(some (.stop (.inl ())))
def fJ(a0:(List UInt8))(a1:Int)(a2:Int):Option (Bool):=
  (dS (iG a0) 0).bind fun o8=>match o8 with| .inl _=>(if(decide ((a0.length:Int)>=a1))=true then(some (decide ((a0.length:Int)<=a2)))else(some false))| .inr r10=>(some r10)
def gJ(a0:aw):Option (Bool):=
  (fJ a0.a8 1 2).bind fun x1=>if x1=true then((fJ a0.aN 1 5).bind fun x3=>if x3=true then((fJ a0.aq 0 2).bind fun x5=>if x5=true then(if((a0.aq.length:Int) != 1)=true then((fJ a0.bd 3 3).bind fun x8=>some x8)else(some false))else(some false))else(some false))else(some false)
def pe(a0:Int)(a1:Int)(a2:Int):Option (Bool):=
  if(decide (a0>=a1))=true then(some (decide (a0<=a2)))else(some false)
def rate_gcd_l7:(Int×Int)->Option (fK (Int×Int) (Int)):=fun(s1,s2)=>
  if(s2 != 0)=true then((vu s1 s2).bind fun x6=>some (.next (s2,x6)))else(some (.stop s1))
def oS(a0:Int)(a1:Int):Option (Int):=
  (dS (rate_gcd_l7) (a0,a1)).bind fun o8=>some o8
def kT(a0:bo):Option (Bool):=
  (pe a0.bI 1 4096).bind fun x1=>if x1=true then((pe a0.bw 1 4096).bind fun x3=>if x3=true then((oS a0.bI a0.bw).bind fun x5=>some (x5==1))else(some false))else(some false)
def bq(a0:Int)(a1:Int)(a2:Int):Option (Bool):=
  if(decide (a0>=a1))=true then(some (decide (a0<=a2)))else(some false)
def ja(a0:Int):Option (Bool):=
  (bq a0 (-1048576) 1048576).bind fun x1=>some (!x1)
def dg(a0:(List Int)):Int->Option (fK (Int) ((Unit)⊕(Int))):=fun s1=>
  if(decide (s1<(a0.length:Int)))=true then((eQ a0 s1).bind fun x4=>(ja x4).bind fun x5=>if x5=true then(some (.stop (.inr s1)))else(some (.next (IntKind.wrap .i64 (s1+1)))))else(some (.stop (.inl ())))
def cW(a0:(List Int)):Option (Int):=
  (dS (dg a0) 0).bind fun o8=>match o8 with| .inl _=>(some (-1))| .inr r10=>(some r10)
def cx(a0:(List Int)):Option (Bool):=
  (cW a0).bind fun x1=>some (decide (x1>=0))
def cp(a0:(List Int)):Option (Bool):=
  (cx a0).bind fun x1=>some (!x1)
def lL(a0:(List Int)):(Int×Int)->Option (fK (Int×Int) (Int)):=fun(s1,s2)=>
  if(decide (s2<(a0.length:Int)))=true then((eQ a0 s2).bind fun x6=>some (.next ((IntKind.wrap .i64 (s1+x6)),(IntKind.wrap .i64 (s2+1)))))else(some (.stop s1))
def dF(a0:(List Int)):Option (Int):=
  (dS (lL a0) (0,0)).bind fun o8=>some o8
def cC(a0:aH):Option (Bool):=
  if((a0.dM.length:Int)==0)=true then(if(a0.dD==0)=true then(if(a0.fP==0)=true then(if(a0.dO==0)=true then(if((a0.bI.a0==a0.bI.a0)&&((a0.bI.a1==0)&&((a0.bI.a2==0)&&true)))=true then(if((a0.bw.a0==a0.bw.a0)&&((a0.bw.a1==0)&&((a0.bw.a2==0)&&true)))=true then((bq a0.bI.a0 1 1048576).bind fun x7=>if x7=true then((bq a0.bw.a0 1 1048576).bind fun x9=>some x9)else(some false))else(some false))else(some false))else(some false))else(if(a0.fP==1)=true then(if(a0.dO==0)=true then((cp [a0.bI.a0,a0.bI.a1,a0.bI.a2]).bind fun x12=>if x12=true then((cp [a0.bw.a0,a0.bw.a1,a0.bw.a2]).bind fun x14=>if x14=true then(some (a0.bw.a0 != 0))else(some false))else(some false))else(some false))else(if(a0.fP==2)=true then(if((a0.bI.a0==0)&&((a0.bI.a1==0)&&((a0.bI.a2==0)&&true)))=true then(if((a0.bw.a0==0)&&((a0.bw.a1==0)&&((a0.bw.a2==0)&&true)))=true then((bq (a0.dM.length:Int) 1 128).bind fun x19=>if x19=true then((cp a0.dM).bind fun x21=>if x21=true then((dF a0.dM).bind fun x23=>if(x23 != 0)=true then((bq a0.dD 1 64).bind fun x25=>if x25=true then((bq a0.dO 0 40).bind fun x27=>some x27)else(some false))else(some false))else(some false))else(some false))else(some false))else(some false))else(some false))))else(if(a0.fP==0)=true then(some false)else(if(a0.fP==1)=true then(some false)else(if(a0.fP==2)=true then(if((a0.bI.a0==0)&&((a0.bI.a1==0)&&((a0.bI.a2==0)&&true)))=true then(if((a0.bw.a0==0)&&((a0.bw.a1==0)&&((a0.bw.a2==0)&&true)))=true then((bq (a0.dM.length:Int) 1 128).bind fun x33=>if x33=true then((cp a0.dM).bind fun x35=>if x35=true then((dF a0.dM).bind fun x37=>if(x37 != 0)=true then((bq a0.dD 1 64).bind fun x39=>if x39=true then((bq a0.dO 0 40).bind fun x41=>some x41)else(some false))else(some false))else(some false))else(some false))else(some false))else(some false))else(some false)))))else(if(a0.fP==0)=true then(some false)else(if(a0.fP==1)=true then(some false)else(if(a0.fP==2)=true then(if((a0.bI.a0==0)&&((a0.bI.a1==0)&&((a0.bI.a2==0)&&true)))=true then(if((a0.bw.a0==0)&&((a0.bw.a1==0)&&((a0.bw.a2==0)&&true)))=true then((bq (a0.dM.length:Int) 1 128).bind fun x47=>if x47=true then((cp a0.dM).bind fun x49=>if x49=true then((dF a0.dM).bind fun x51=>if(x51 != 0)=true then((bq a0.dD 1 64).bind fun x53=>if x53=true then((bq a0.dO 0 40).bind fun x55=>some x55)else(some false))else(some false))else(some false))else(some false))else(some false))else(some false))else(some false))))
def eH(a0:aH):Option (Bool):=
  (cC a0).bind fun x1=>some (!x1)
def cq(a0:(List aH)):Int->Option (fK (Int) ((Unit)⊕(Int))):=fun s1=>
  if(decide (s1<(a0.length:Int)))=true then((eQ a0 s1).bind fun x4=>(eH x4).bind fun x5=>if x5=true then(some (.stop (.inr s1)))else(some (.next (IntKind.wrap .i64 (s1+1)))))else(some (.stop (.inl ())))
def cG(a0:(List aH)):Option (Int):=
  (dS (cq a0) 0).bind fun o8=>match o8 with| .inl _=>(some (-1))| .inr r10=>(some r10)
def b9(a0:(List aH)):Option (Bool):=
  (cG a0).bind fun x1=>some (decide (x1>=0))
def gI(a0:(List aH)):(Int×Int)->Option (fK (Int×Int) ((Int)⊕(Int))):=fun(s1,s2)=>
  if(decide (s2<(a0.length:Int)))=true then((eQ a0 s2).bind fun x6=>if(x6.fP != 2)=true then(some (.next (s1,(IntKind.wrap .i64 (s2+1)))))else(if(decide ((IntKind.wrap .i64 (s1*x6.dD))>64))=true then(some (.stop (.inr 0)))else(some (.next ((IntKind.wrap .i64 (s1*x6.dD)),(IntKind.wrap .i64 (s2+1)))))))else(some (.stop (.inl s1)))
def fr(a0:(List aH)):Option (Int):=
  (dS (gI a0) (1,0)).bind fun o10=>match o10 with| .inl y11=>(some y11)| .inr r12=>(some r12)
def fe(a0:aP):Option (Bool):=
  if(decide ((a0.bG.length:Int)>8))=true then(some false)else((b9 a0.bG).bind fun x2=>if x2=true then(some false)else((fr a0.bG).bind fun x4=>some (decide (x4>0))))
def de(a0:Int)(a1:Int)(a2:Int):Option (Bool):=
  if(decide (a0>=a1))=true then(some (decide (a0<=a2)))else(some false)
def dp(a0:av):Option (Bool):=
  if(decide (a0.bp>=0))=true then(if(decide (a0.bp<a0.fTo))=true then(if(decide (a0.fTo<=9007199254740992))=true then((kT a0.gq).bind fun x4=>if x4=true then((fe a0.bN).bind fun x6=>if x6=true then((de a0.bj.fX (-1048576) 1048576).bind fun x8=>if x8=true then((de a0.bj.fY (-1048576) 1048576).bind fun x10=>if x10=true then((de a0.bj.fZ (-16384) 1048576).bind fun x12=>some x12)else(some false))else(some false))else(some false))else(some false))else(some false))else(some false))else(some false)
def d7(a0:(List av)):Int->Option (fK (Int) ((Unit)⊕(Bool))):=fun s1=>
  if(decide (s1<(a0.length:Int)))=true then((eQ a0 s1).bind fun x4=>(dp x4).bind fun x5=>if(!x5)=true then(some (.stop (.inr false)))else(if(decide (s1>0))=true then((eQ a0 (IntKind.wrap .i64 (s1-1))).bind fun x8=>if(decide (x4.bp<x8.fTo))=true then(some (.stop (.inr false)))else(some (.next (IntKind.wrap .i64 (s1+1)))))else(some (.next (IntKind.wrap .i64 (s1+1))))))else(some (.stop (.inl ())))
def e7(a0:(List av)):Option (Bool):=
  (dS (d7 a0) 0).bind fun o11=>match o11 with| .inl _=>((de (a0.length:Int) 1 32).bind fun x14=>some x14)| .inr r13=>(some r13)
def f8(a0:(List UInt8)):Option (Bool):=
  some (!(a0==a0))
def bX(a0:(List UInt8))(a1:(List UInt8)):Option (Int):=
  (f8 a0).bind fun x1=>(f8 a1).bind fun x2=>if x1=true then(if x2=true then(some 0)else(some (-1)))else(if x2=true then(some 1)else(if(Op.bytesLess a0 a1)=true then(some (-1))else(if(!(Op.bytesLess a0 a1||a0==a1))=true then(some 1)else(some 0))))
def dx(a0:(List Int)):Int->Option (fK (Int) ((Unit)⊕(Int))):=fun s1=>
  if(decide (s1<(a0.length:Int)))=true then((eQ a0 s1).bind fun x4=>if(x4 != 0)=true then(some (.stop (.inr x4)))else(some (.next (IntKind.wrap .i64 (s1+1)))))else(some (.stop (.inl ())))
def cv(a0:(List Int)):Option (Int):=
  (dS (dx a0) 0).bind fun o7=>match o7 with| .inl _=>(some 0)| .inr r9=>(some r9)
def et(a0:aw)(a1:aw):Option (Int):=
  (bX a0.a8 a1.a8).bind fun x1=>(bX a0.aN a1.aN).bind fun x2=>(bX a0.aq a1.aq).bind fun x3=>(bX a0.bd a1.bd).bind fun x4=>(cv [x1,x2,x3,x4]).bind fun x5=>some x5
def eF(a0:ar):Int->Option (fK (Int) ((Unit)⊕(Bool))):=fun s1=>
  if(decide (s1<(a0.aT.length:Int)))=true then((eQ a0.aT s1).bind fun x4=>(gJ x4.aD).bind fun x5=>if(!x5)=true then(some (.stop (.inr false)))else((e7 x4.bM).bind fun x7=>if(!x7)=true then(some (.stop (.inr false)))else(if(decide (s1>0))=true then((eQ a0.aT (IntKind.wrap .i64 (s1-1))).bind fun x10=>(et x10.aD x4.aD).bind fun x11=>if(decide (x11>=0))=true then(some (.stop (.inr false)))else(some (.next (IntKind.wrap .i64 (s1+1)))))else(some (.next (IntKind.wrap .i64 (s1+1)))))))else(some (.stop (.inl ())))
def cN(a0:ar):Option (Bool):=
  (dS (eF a0) 0).bind fun o14=>match o14 with| .inl _=>(some (decide ((a0.aT.length:Int)<=128)))| .inr r16=>(some r16)
def jf(a0:Int):Option (Bool):=
  some (a0 != a0)
def bJ(a0:Int)(a1:Int):Option (Int):=
  (jf a0).bind fun x1=>(jf a1).bind fun x2=>if x1=true then(if x2=true then(some 0)else(some (-1)))else(if x2=true then(some 1)else(if(decide (a0<a1))=true then(some (-1))else(if(decide (a0>a1))=true then(some 1)else(some 0))))
def ca(a0:ae)(a1:ae):Option (Int):=
  (et a0.aD a1.aD).bind fun x1=>(bJ a0.aX a1.aX).bind fun x2=>(bJ a0.aK a1.aK).bind fun x3=>(bJ a0.bf a1.bf).bind fun x4=>(bJ a0.aQ a1.aQ).bind fun x5=>(bJ a0.aU a1.aU).bind fun x6=>(cv [x1,x2,x3,x4,x5,x6]).bind fun x7=>some x7
def gi(s2:Int)(d0:(List ae)):(Int×Int×(List ae))->Option (fK (Int×Int×(List ae)) (Int×(List ae))):=fun(s13,s14,s15)=>
  (lenV s15.length (0+(s2:Int).toNat) (0+((d0.length:Int):Int).toNat)).bind fun x19=>if(decide (s14<x19))=true then((inV s15.length (0+(s2:Int).toNat) (0+((d0.length:Int):Int).toNat) s14).bind fun _=>(eQ s15 (((0+(s2:Int).toNat)+(s14:Int).toNat:Nat):Int)).bind fun x22=>(inV s15.length (0+(s2:Int).toNat) (0+((d0.length:Int):Int).toNat) (IntKind.wrap .i64 (s14-1))).bind fun _=>(eQ s15 (((0+(s2:Int).toNat)+((IntKind.wrap .i64 (s14-1)):Int).toNat:Nat):Int)).bind fun x24=>if(!(((x22.aD.a8==x24.aD.a8)&&((x22.aD.aN==x24.aD.aN)&&((x22.aD.aq==x24.aD.aq)&&((x22.aD.bd==x24.aD.bd)&&true))))&&((x22.aX==x24.aX)&&((x22.aK==x24.aK)&&((x22.bf==x24.bf)&&((x22.aQ==x24.aQ)&&((x22.aU==x24.aU)&&true)))))))=true then((inV s15.length (0+(s2:Int).toNat) (0+((d0.length:Int):Int).toNat) s14).bind fun _=>(eQ s15 (((0+(s2:Int).toNat)+(s14:Int).toNat:Nat):Int)).bind fun x27=>(inO s15 s13).bind fun _=>(sj s15 s13 x27).bind fun x30=>some (.next ((IntKind.wrap .i64 (s13+1)),(IntKind.wrap .i64 (s14+1)),x30)))else(some (.next (s13,(IntKind.wrap .i64 (s14+1)),s15))))else(some (.stop (s13,s15)))
def gj(d0:(List ae)):Int->Option (fK (Int) ((Unit)⊕((List ae)))):=fun s2=>
  if(decide (s2<(d0.length:Int)))=true then((inO d0 s2).bind fun _=>(eQ d0 s2).bind fun x7=>(inO d0 (IntKind.wrap .i64 (s2-1))).bind fun _=>(eQ d0 (IntKind.wrap .i64 (s2-1))).bind fun x10=>if(((x7.aD.a8==x10.aD.a8)&&((x7.aD.aN==x10.aD.aN)&&((x7.aD.aq==x10.aD.aq)&&((x7.aD.bd==x10.aD.bd)&&true))))&&((x7.aX==x10.aX)&&((x7.aK==x10.aK)&&((x7.bf==x10.bf)&&((x7.aQ==x10.aQ)&&((x7.aU==x10.aU)&&true))))))=true then((vw d0.length s2 (d0.length:Int)).bind fun _=>(dS (gi s2 d0) (s2,1,d0)).bind fun o32=>(vw o32.2.length o32.1 (o32.2.length:Int)).bind fun _=>(xD o32.2.length (0+(o32.1:Int).toNat) (0+((o32.2.length:Int):Int).toNat)).bind fun _=>(vw (tz o32.2 (0+(o32.1:Int).toNat) ((0+((o32.2.length:Int):Int).toNat)-(0+(o32.1:Int).toNat)) (ae.mk (aw.mk [] [] [] []) 0 0 0 0 0)).length 0 o32.1).bind fun _=>(vr (tz o32.2 (0+(o32.1:Int).toNat) ((0+((o32.2.length:Int):Int).toNat)-(0+(o32.1:Int).toNat)) (ae.mk (aw.mk [] [] [] []) 0 0 0 0 0)) (0+(0:Int).toNat) (0+(o32.1:Int).toNat)).bind fun x37=>some (.stop (.inr x37)))else(some (.next (IntKind.wrap .i64 (s2+1)))))else(some (.stop (.inl ())))
def eI(d0:(List ae)):Option ((List ae)):=
  if(decide ((d0.length:Int)<2))=true then(some d0)else((dS (gj d0) 1).bind fun o39=>match o39 with| .inl _=>(some d0)| .inr r41=>(some r41))
def c7(a0:(List ae)):Option ((List ae)):=
  (ru 104 a0).bind fun x1=>(uR ca x1).bind fun x2=>(eI x2).bind fun x3=>some x3
def iS(a0:Int)(a1:Int)(a2:Int):Option (Bool):=
  if(decide (a0>=a1))=true then(some (decide (a0<=a2)))else(some false)
def e8(a0:ae):Option (Bool):=
  (gJ a0.aD).bind fun x1=>if x1=true then(if(decide (a0.aK>=0))=true then(if(decide (a0.aK<=a0.aX))=true then(if(decide (a0.aX<=a0.bf))=true then(if(decide (a0.bf<=18014398509481984))=true then((iS a0.aQ 0 1073741823).bind fun x7=>if x7=true then((iS a0.aU (-1) 1).bind fun x9=>some x9)else(some false))else(some false))else(some false))else(some false))else(some false))else(some false)
def ex(x1:(List aH)):(Int×(List aH))->Option (fK (Int×(List aH)) ((List aH))):=fun(s2,s3)=>
  if(decide (s2<(x1.length:Int)))=true then((inO s3 s2).bind fun _=>(eQ s3 s2).bind fun x9=>(ru 8 x9.dM).bind fun x10=>(inO s3 s2).bind fun _=>(modO s3 s2 (fun(z14:aH)=>(aH.mk z14.fP z14.bI z14.bw x10 z14.dD z14.dO))).bind fun x13=>some (.next ((IntKind.wrap .i64 (s2+1)),x13)))else(some (.stop s3))
def dK(a0:av):Option (av):=
  (ru 96 a0.bN.bG).bind fun x1=>(dS (ex x1) (0,x1)).bind fun o16=>some (av.mk a0.bp a0.fTo a0.gq a0.bj (aP.mk o16))
def d6(x1:(List av)):(Int×(List av))->Option (fK (Int×(List av)) ((List av))):=fun(s2,s3)=>
  if(decide (s2<(x1.length:Int)))=true then((inO s3 s2).bind fun _=>(eQ s3 s2).bind fun x9=>(dK x9).bind fun x10=>(inO s3 s2).bind fun _=>(sj s3 s2 x10).bind fun x13=>some (.next ((IntKind.wrap .i64 (s2+1)),x13)))else(some (.stop s3))
def eZ(a0:az):Option (az):=
  (ru 80 a0.bM).bind fun x1=>(dS (d6 x1) (0,x1)).bind fun o15=>some (az.mk a0.aD o15)
def fA(a0:ar)(a1:aw):Int->Option (fK (Int) ((Unit)⊕(az×Bool))):=fun s1=>
  if(decide (s1<(a0.aT.length:Int)))=true then((eQ a0.aT s1).bind fun x4=>if((x4.aD.a8==a1.a8)&&((x4.aD.aN==a1.aN)&&((x4.aD.aq==a1.aq)&&((x4.aD.bd==a1.bd)&&true))))=true then((eZ x4).bind fun x6=>some (.stop (.inr (x6,true))))else(some (.next (IntKind.wrap .i64 (s1+1)))))else(some (.stop (.inl ())))
def gc(a0:ar)(a1:aw):Option (az×Bool):=
  (dS (fA a0 a1) 0).bind fun o8=>match o8 with| .inl _=>(some ((az.mk (aw.mk [] [] [] []) []),false))| .inr r10=>(some r10)
def jq(a0:az)(a1:Int):Int->Option (fK (Int) ((Unit)⊕(av×Bool))):=fun s1=>
  if(decide (s1<(a0.bM.length:Int)))=true then((eQ a0.bM s1).bind fun x4=>if(decide (x4.bp<=a1))=true then(if(decide (a1<x4.fTo))=true then(some (.stop (.inr (x4,true))))else(some (.next (IntKind.wrap .i64 (s1+1)))))else(some (.next (IntKind.wrap .i64 (s1+1)))))else(some (.stop (.inl ())))
def iO(a0:az)(a1:Int):Option (av×Bool):=
  (dS (jq a0 a1) 0).bind fun o8=>match o8 with| .inl _=>(some ((av.mk 0 0 (bo.mk 0 0) (aa.mk 0 0 0) (aP.mk [])),false))| .inr r10=>(some r10)
def iN(a0:ar)(a1:aw)(a2:Int):Option (av×Int):=
  (cN a0).bind fun x1=>if(!x1)=true then(some ((av.mk 0 0 (bo.mk 0 0) (aa.mk 0 0 0) (aP.mk [])),1))else((gc a0 a1).bind fun x3=>(iO x3.1 a2).bind fun x4=>if(!x4.2)=true then(some ((av.mk 0 0 (bo.mk 0 0) (aa.mk 0 0 0) (aP.mk [])),6))else(some (x4.1,0)))
def cO(a0:ap)(a1:ar)(a2:ae):Option (ak×av×Bool):=
  (e8 a2).bind fun x1=>if(!x1)=true then(some ((ak.mk (aa.mk 0 0 0) 0 0 0),(av.mk 0 0 (bo.mk 0 0) (aa.mk 0 0 0) (aP.mk [])),false))else((iN a1 a2.aD a2.aX).bind fun x3=>if(x3.2 != 0)=true then(some ((ak.mk (aa.mk 0 0 0) 0 0 0),(av.mk 0 0 (bo.mk 0 0) (aa.mk 0 0 0) (aP.mk [])),false))else((dC a0.ah.bi a0.ah.aO (ak.mk x3.1.bj a2.aK a2.bf 1)).bind fun x5=>if(x5.2 != 0)=true then(some ((ak.mk (aa.mk 0 0 0) 0 0 0),(av.mk 0 0 (bo.mk 0 0) (aa.mk 0 0 0) (aP.mk [])),false))else(some ((ak.mk x3.1.bj a2.aK a2.bf 1),x3.1,true))))
def jt(a0:ap)(a1:ar)(a2:ae):Option (ak×Bool):=
  (ey a0).bind fun x1=>if(x1 != 0)=true then(some ((ak.mk (aa.mk 0 0 0) 0 0 0),false))else((cN a1).bind fun x3=>if(!x3)=true then(some ((ak.mk (aa.mk 0 0 0) 0 0 0),false))else((cO a0 a1 a2).bind fun x5=>some (x5.1,x5.2.2)))
def kK(x5:(List ae))(a0:ap)(a1:ar):(Int×(List ae)×(List ak))->Option (fK (Int×(List ae)×(List ak)) ((List ae)×(List ak))):=fun(s6,s7,s8)=>
  if(decide (s6<(x5.length:Int)))=true then((eQ x5 s6).bind fun x13=>(jt a0 a1 x13).bind fun x14=>if x14.2=true then((nJ s7 [x13] 104).bind fun x16=>(nJ s8 [x14.1] 48).bind fun x17=>some (.next ((IntKind.wrap .i64 (s6+1)),x16,x17)))else(some (.next ((IntKind.wrap .i64 (s6+1)),s7,s8))))else(some (.stop (s7,s8)))
def kf(a0:ap)(a1:ar)(a2:(List ae)):Option ((List ae)×(List ak)×Int):=
  (ey a0).bind fun x1=>if(x1 != 0)=true then(some (([]:(List ae)),([]:(List ak)),27))else((cN a1).bind fun x3=>if(!x3)=true then(some (([]:(List ae)),([]:(List ak)),1))else((c7 a2).bind fun x5=>(dS (kK x5 a0 a1) (0,([]:(List ae)),([]:(List ak)))).bind fun o19=>if(decide ((o19.1.length:Int)>256))=true then(some (([]:(List ae)),([]:(List ak)),8))else(some (o19.1,o19.2,0))))
def dQ(a0:aa)(a1:aa):Option (Int):=
  (bJ a0.fX a1.fX).bind fun x1=>(bJ a0.fY a1.fY).bind fun x2=>(bJ a0.fZ a1.fZ).bind fun x3=>(cv [x1,x2,x3]).bind fun x4=>some x4
def ie(a0:ak)(a1:ak):Option (Int):=
  (bJ a0.aK a1.aK).bind fun x1=>(bJ a0.bf a1.bf).bind fun x2=>(dQ a0.aN a1.aN).bind fun x3=>(bJ a0.bA a1.bA).bind fun x4=>(cv [x1,x2,x3,x4]).bind fun x5=>some x5
def fw(a0:Int)(a1:Int)(d0:(List ak)):Option (Int):=
  (eQ d0 a0).bind fun x1=>(eQ d0 a1).bind fun x2=>(ie x1 x2).bind fun x3=>some x3
def ib(a0:Int)(d1:(List ak))(s1:Int):(Int×(List Int))->Option (fK (Int×(List Int)) (Int×(List Int))):=fun(s5,s6)=>
  if(decide (s5>a0))=true then((inO s6 s5).bind fun _=>(eQ s6 s5).bind fun x13=>(inO s6 (IntKind.wrap .i64 (s5-1))).bind fun _=>(eQ s6 (IntKind.wrap .i64 (s5-1))).bind fun x16=>(fw x13 x16 d1).bind fun x17=>if(decide (x17<0))=true then((inO s6 (IntKind.wrap .i64 (s5-1))).bind fun _=>(eQ s6 (IntKind.wrap .i64 (s5-1))).bind fun x21=>(inO s6 s5).bind fun _=>(eQ s6 s5).bind fun x24=>(inO s6 s5).bind fun _=>(sj s6 s5 x21).bind fun x27=>(inO x27 (IntKind.wrap .i64 (s5-1))).bind fun _=>(sj x27 (IntKind.wrap .i64 (s5-1)) x24).bind fun x30=>some (.next ((IntKind.wrap .i64 (s5-1)),x30)))else(some (.stop (s1,s6))))else(some (.stop (s1,s6)))
def ic(a1:Int)(a0:Int)(d1:(List ak)):(Int×(List Int))->Option (fK (Int×(List Int)) ((List Int))):=fun(s1,s2)=>
  if(decide (s1<a1))=true then((dS (ib a0 d1 s1) (s1,s2)).bind fun o32=>some (.next ((IntKind.wrap .i64 (o32.1+1)),o32.2)))else((some s2).bind fun z33=>some (.stop z33))
def cj(a0:Int)(a1:Int)(d0:(List Int))(d1:(List ak)):Option ((List Int)):=
  (dS (ic a1 a0 d1) ((IntKind.wrap .i64 (a0+1)),d0)).bind fun o35=>some o35
def fI(a0:Int)(d1:(List ak)):(Int×Int×(List Int))->Option (fK (Int×Int×(List Int)) (Int×(List Int))):=fun(s1,s2,s3)=>
  if(decide (s2<=a0))=true then((cj s1 s2 s3 d1).bind fun x8=>some (.next (s2,(IntKind.wrap .i64 (s2+20)),x8)))else(some (.stop (s1,s3)))
def jQ(s12:Int)(a0:Int):Unit->Option (fK (Unit) (Int)):=fun _=>
  if(decide ((IntKind.wrap .i64 (2*s12))<=a0))=true then(none)else(some (.stop s12))
def fj(a0:Int)(x11:(List Int)):Int->Option (fK (Int) ((List Int))):=fun s12=>
  if(decide (s12<a0))=true then((dS (jQ s12 a0) ()).bind fun o19=>if(decide ((IntKind.wrap .i64 (0+o19))<a0))=true then(none)else(some (.next (IntKind.wrap .i64 (o19*2)))))else((some x11).bind fun z21=>some (.stop z21))
def ep(a0:Int)(d0:(List Int))(d1:(List ak)):Option ((List Int)):=
  (dS (fI a0 d1) (0,20,d0)).bind fun o10=>(cj o10.1 a0 o10.2 d1).bind fun x11=>(dS (fj a0 x11) 20).bind fun o23=>some o23
def cU(d0:(List Int))(d1:(List ak)):Option ((List Int)):=
  (ep (d0.length:Int) d0 d1).bind fun x1=>some x1
def lR(x1:(List Int)):(Int×(List Int))->Option (fK (Int×(List Int)) ((List Int))):=fun(s2,s3)=>
  if(decide (s2<(x1.length:Int)))=true then((inO s3 s2).bind fun _=>(sj s3 s2 s2).bind fun x9=>some (.next ((IntKind.wrap .i64 (s2+1)),x9)))else(some (.stop s3))
def gK(a0:(List ak)):Option ((List Int)):=
  (mkO (a0.length:Int) 0 8).bind fun x1=>(dS (lR x1) (0,x1)).bind fun o11=>(cU o11 a0).bind fun x12=>some x12
def jU(a0:Int):(Int×(List Int)×(List Int))->Option (fK (Int×(List Int)×(List Int)) ((List Int)×(List Int))):=fun(s3,s4,s5)=>
  if(decide (s3<(IntKind.wrap .i64 (a0+1))))=true then((vu (IntKind.wrap .i64 (s3+1)) (IntKind.wrap .i64 (a0+1))).bind fun x10=>(vu (IntKind.wrap .i64 (s3+1)) (IntKind.wrap .i64 (a0+1))).bind fun x11=>(inO s4 s3).bind fun _=>(sj s4 s3 x11).bind fun x14=>(inO s5 x10).bind fun _=>(sj s5 x10 s3).bind fun x17=>some (.next ((IntKind.wrap .i64 (s3+1)),x14,x17)))else(some (.stop (s4,s5)))
def gt(a0:Int):Option (bg):=
  (mkO (IntKind.wrap .i64 (a0+1)) 0 8).bind fun x1=>(mkO (IntKind.wrap .i64 (a0+1)) 0 8).bind fun x2=>(dS (jU a0) (0,x1,x2)).bind fun o19=>some (bg.mk o19.1 o19.2)
def iK(a0:bg):Option (Int):=
  some (IntKind.wrap .i64 ((a0.np.length:Int)-1))
def cr(d0:(List Int))(d1:(List Int))(a3:(List Int))(a2:(List ak))(x4:Int)(a1:aJ):(Int×(List Int))->Option (fK (Int×(List Int)) ((List Int))):=fun(s5,s6)=>
  (iK (bg.mk d0 d1)).bind fun x9=>if(s5 != x9)=true then(if(decide ((s6.length:Int)<16))=true then((eQ a3 s5).bind fun x12=>(eQ a2 x12).bind fun x13=>(eQ a3 x4).bind fun x14=>(eQ a2 x14).bind fun x15=>if(decide ((IntKind.wrap .i64 (x13.aK-x15.aK))<=a1.cB))=true then((nJ s6 [s5] 8).bind fun x17=>(inO d0 s5).bind fun _=>(eQ d0 s5).bind fun x20=>some (.next (x20,x17)))else(some (.stop s6)))else(some (.stop s6)))else(some (.stop s6))
def la(a1:aJ)(a2:(List ak))(a3:(List Int))(d0:(List Int))(d1:(List Int)):Option ((List Int)×(List Int)×(List Int)):=
  (iK (bg.mk d0 d1)).bind fun x1=>(inO d0 x1).bind fun _=>(eQ d0 x1).bind fun x4=>(dS (cr d0 d1 a3 a2 x4 a1) (x4,([]:(List Int)))).bind fun o22=>some (o22,d0,d1)
def eu(a0:aJ)(a1:(List ak)):Option (ag):=
  some (ag.mk a0.aO a0.bi a1 a0.da)
def lX(a0:ag):Int->Option (fK (Int) ((Unit)⊕(Int))):=fun s9=>
  if(decide (s9<(a0.ba.length:Int)))=true then((eQ a0.ba s9).bind fun x12=>(dC a0.bi a0.aO x12).bind fun x13=>if(x13.2 != 0)=true then(some (.stop (.inr x13.2)))else(some (.next (IntKind.wrap .i64 (s9+1)))))else(some (.stop (.inl ())))
def gN(a0:ag):Option (Int):=
  (bB a0.aO).bind fun x1=>if(!x1)=true then(some 20)else((cz a0.bi).bind fun x3=>if(x3 != 0)=true then(some x3)else(if((a0.ba.length:Int)==0)=true then(some 24)else(if(decide ((a0.ba.length:Int)>64))=true then(some 8)else(if(decide (a0.da<1))=true then(some 2)else(if(decide (a0.da>1099511627776))=true then(some 2)else((dS (lX a0) 0).bind fun o16=>match o16 with| .inl _=>(some 0)| .inr r18=>(some r18)))))))
def fy(a0:ai)(a1:aa):Option (Bool):=
  (bB a0).bind fun x1=>if x1=true then((cK a1).bind fun x3=>if x3=true then((eU a0 a1).bind fun x5=>some (x5==0))else(some false))else(some false)
def jp(a0:ai)(a1:ai):Option (Bool):=
  (bB a0).bind fun x1=>if x1=true then((fy a1 a0.aL).bind fun x3=>if x3=true then((fy a1 a0.aF).bind fun x5=>some x5)else(some false))else(some false)
def kR(a0:ag)(a1:ai):(Int×(List aG))->Option (fK (Int×(List aG)) (((List aG))⊕((List aG)×Int))):=fun(s2,s3)=>
  if(decide (s2<(a0.ba.length:Int)))=true then((eQ a0.ba s2).bind fun x7=>(dC a0.bi a1 x7).bind fun x8=>if(x8.2 != 0)=true then(some (.stop (.inr (([]:(List aG)),x8.2))))else((nJ s3 [x8.1] 16).bind fun x10=>some (.next ((IntKind.wrap .i64 (s2+1)),x10))))else(some (.stop (.inl s3)))
def l7(a0:ag)(a1:ai):Option ((List aG)×Int):=
  (mkCO 0 (a0.ba.length:Int) (aG.mk 0 0) 16).bind fun x1=>(dS (kR a0 a1) (0,x1)).bind fun o12=>match o12 with| .inl y13=>(some (y13,0))| .inr r14=>(some r14)
def fD(a0:ag)(a1:ai):Option ((List aG)×Int):=
  (gN a0).bind fun x1=>if(x1 != 0)=true then(some (([]:(List aG)),x1))else((jp a1 a0.aO).bind fun x3=>if(!x3)=true then(some (([]:(List aG)),20))else((l7 a0 a1).bind fun x5=>some (x5.1,x5.2)))
def fo(a0:aG)(a1:Int):Option (Int):=
  some (if 0>(if(IntKind.wrap .i64 (a1-a0.fTo))>(IntKind.wrap .i64 (a0.bp-a1))then(IntKind.wrap .i64 (a1-a0.fTo))else(IntKind.wrap .i64 (a0.bp-a1)))then 0 else(if(IntKind.wrap .i64 (a1-a0.fTo))>(IntKind.wrap .i64 (a0.bp-a1))then(IntKind.wrap .i64 (a1-a0.fTo))else(IntKind.wrap .i64 (a0.bp-a1))))
def lG(a0:ag)(a1:(List aG))(a2:Int):(Int×Int)->Option (fK (Int×Int) (Int)):=fun(s1,s2)=>
  if(decide (s2<(a0.ba.length:Int)))=true then((eQ a0.ba s2).bind fun x6=>if(decide (s2<(a1.length:Int)))=true then((eQ a1 s2).bind fun x8=>(fo x8 a2).bind fun x9=>some (.next ((IntKind.wrap .i64 (s1+(IntKind.wrap .i64 (x6.bA*(if x9<a0.da then x9 else a0.da))))),(IntKind.wrap .i64 (s2+1)))))else(some (.next (s1,(IntKind.wrap .i64 (s2+1))))))else(some (.stop s1))
def iu(a0:ag)(a1:(List aG))(a2:Int):Option (Int):=
  (dS (lG a0 a1 a2) (0,0)).bind fun o11=>some o11
def mw(a1:(List aG)):(Int×(List Int))->Option (fK (Int×(List Int)) ((List Int))):=fun(s2,s3)=>
  if(decide (s2<(a1.length:Int)))=true then((eQ a1 s2).bind fun x7=>(nJ s3 [x7.bp,x7.fTo] 8).bind fun x8=>some (.next ((IntKind.wrap .i64 (s2+1)),x8)))else(some (.stop s3))
def lF(x20:Int)(o10:(List Int))(a0:ag)(a1:(List aG)):(Int×Int×Int)->Option (fK (Int×Int×Int) (Int×Int)):=fun(s21,s22,s23)=>
  if(decide (s23<x20))=true then((inV o10.length (0+(1:Int).toNat) (0+((o10.length:Int):Int).toNat) s23).bind fun _=>(eQ o10 (((0+(1:Int).toNat)+(s23:Int).toNat:Nat):Int)).bind fun x29=>(iu a0 a1 x29).bind fun x30=>if(decide (x30<s22))=true then(some (.next (x29,x30,(IntKind.wrap .i64 (s23+1)))))else(if(x30==s22)=true then(if(decide (x29<s21))=true then(some (.next (x29,x30,(IntKind.wrap .i64 (s23+1)))))else(some (.next (s21,s22,(IntKind.wrap .i64 (s23+1))))))else(some (.next (s21,s22,(IntKind.wrap .i64 (s23+1)))))))else(some (.stop (s21,s22)))
def ir(a0:ag)(a1:(List aG)):Option (Int×Int):=
  (mkCO 0 (IntKind.wrap .i64 (2*(a1.length:Int))) 0 8).bind fun x1=>(dS (mw a1) (0,x1)).bind fun o10=>if((o10.length:Int)==0)=true then(some (0,0))else((inO o10 0).bind fun _=>(eQ o10 0).bind fun x14=>(inO o10 0).bind fun _=>(eQ o10 0).bind fun x17=>(iu a0 a1 x17).bind fun x18=>(vw o10.length 1 (o10.length:Int)).bind fun _=>(lenV o10.length (0+(1:Int).toNat) (0+((o10.length:Int):Int).toNat)).bind fun x20=>(dS (lF x20 o10 a0 a1) (x14,x18,0)).bind fun o35=>some (o35.1,o35.2))
def eO(a0:ag)(a1:ai):Option (Int×Int):=
  (fD a0 a1).bind fun x1=>if(x1.2 != 0)=true then(some (0,x1.2))else((ir a0 x1.1).bind fun x3=>some (x3.2,0))
def nV(a0:al)(e1:ag)(e2:Int)(e3:Int)(e4:Bool)(e5:aj):Option ((List al)):=
  (nJ ([]:List al) [a0] 64).bind fun x1=>some x1
def gX(a0:(List al)):Option (Int):=
  some (a0.length:Int)
def ix(a0:(List al))(a1:Int)(a2:Int):Option (Bool):=
  (eQ a0 a1).bind fun x1=>(eQ a0 a2).bind fun x2=>(bJ x1.ch x2.ch).bind fun x3=>(eQ a0 a1).bind fun x4=>(eQ a0 a2).bind fun x5=>(bJ x4.gw x5.gw).bind fun x6=>(cv [x3,x6]).bind fun x7=>some (decide (x7<0))
def iy(a1:Int)(a2:Int)(d0:(List al)):Option ((List al)):=
  (inO d0 a2).bind fun _=>(eQ d0 a2).bind fun x3=>(inO d0 a1).bind fun _=>(eQ d0 a1).bind fun x6=>(inO d0 a1).bind fun _=>(sj d0 a1 x3).bind fun x9=>(inO x9 a2).bind fun _=>(sj x9 a2 x6).bind fun x12=>some x12
def mK:(Int×(List al))->Option (fK (Int×(List al)) ((List al))):=fun(s1,s2)=>
  (rr .i64 (IntKind.wrap .i64 (s1-1)) 2).bind fun x4=>if(x4==s1)=true then((some s2).bind fun z6=>some (.stop z6))else((ix s2 s1 x4).bind fun x7=>if(!x7)=true then((some s2).bind fun z9=>some (.stop z9))else((iy x4 s1 s2).bind fun x10=>some (.next (x4,x10))))
def nN(a0:Int)(e1:ag)(e2:Int)(e3:Int)(e4:Bool)(e5:aj)(d1:(List al)):Option ((List al)):=
  (dS (mK) (a0,d1)).bind fun o12=>some o12
def me(a0:al)(e1:ag)(e2:Int)(e3:Int)(e4:Bool)(e5:aj):Option ((List al)):=
  (nV a0 e1 e2 e3 e4 e5).bind fun x1=>(gX x1).bind fun x2=>(nN (IntKind.wrap .i64 (x2-1)) e1 e2 e3 e4 e5 x1).bind fun x3=>some x3
def jl(x1:Int×Int)(j2:Int)(j3:(List al)):Option (Int×(List al)×Int):=
  some (x1.2,j3,j2)
def kV(a0:ai)(e1:ag)(e2:Int)(e3:Int)(e4:Bool)(e5:aj):Option (Int×(List al)×Int):=
  (eO e1 a0).bind fun x1=>if(x1.2==0)=true then((me (al.mk a0 x1.1 e2) e1 e2 e3 e4 e5).bind fun x6=>jl x1 (IntKind.wrap .i64 (e2+1)) x6)else(jl x1 e2 ([]:List al))
def iV(a0:Int)(e1:ag)(e2:Int)(e3:Int)(e4:Bool)(e5:aj)(d1:(List al)):Option (Bool):=
  if((d1.length:Int)==0)=true then(some true)else(if e4=true then((inO d1 0).bind fun _=>(eQ d1 0).bind fun x5=>some (decide ((IntKind.wrap .i64 (e5.bh-x5.ch))<=a0)))else(some false))
def eV(s2:(List al))(s1:Int)(j8:Int):Option (fK (Int×(List al)) (Int×(List al))):=
  (ix s2 j8 s1).bind fun x9=>if(!x9)=true then(some (.stop (s1,s2)))else((iy s1 j8 s2).bind fun x11=>some (.next (j8,x11)))
def mZ(a1:Int):(Int×(List al))->Option (fK (Int×(List al)) (Int×(List al))):=fun(s1,s2)=>
  if(decide ((IntKind.wrap .i64 ((IntKind.wrap .i64 (2*s1))+1))>=a1))=true then(some (.stop (s1,s2)))else(if(decide ((IntKind.wrap .i64 ((IntKind.wrap .i64 (2*s1))+1))<0))=true then(some (.stop (s1,s2)))else(if(decide ((IntKind.wrap .i64 ((IntKind.wrap .i64 ((IntKind.wrap .i64 (2*s1))+1))+1))<a1))=true then((ix s2 (IntKind.wrap .i64 ((IntKind.wrap .i64 ((IntKind.wrap .i64 (2*s1))+1))+1)) (IntKind.wrap .i64 ((IntKind.wrap .i64 (2*s1))+1))).bind fun x14=>if x14=true then(eV s2 s1 (IntKind.wrap .i64 ((IntKind.wrap .i64 ((IntKind.wrap .i64 (2*s1))+1))+1)))else(eV s2 s1 (IntKind.wrap .i64 ((IntKind.wrap .i64 (2*s1))+1))))else(eV s2 s1 (IntKind.wrap .i64 ((IntKind.wrap .i64 (2*s1))+1)))))
def mf(a0:Int)(a1:Int)(e2:ag)(e3:Int)(e4:Int)(e5:Bool)(e6:aj)(d1:(List al)):Option (Bool×(List al)):=
  (dS (mZ a1) (a0,d1)).bind fun o17=>some ((decide (o17.1>a0)),o17.2)
def pc(e0:ag)(e1:Int)(e2:Int)(e3:Bool)(e4:aj)(d1:(List al)):Option (al×(List al)):=
  (inO d1 (IntKind.wrap .i64 ((d1.length:Int)-1))).bind fun _=>(eQ d1 (IntKind.wrap .i64 ((d1.length:Int)-1))).bind fun x3=>(vw d1.length 0 (IntKind.wrap .i64 ((d1.length:Int)-1))).bind fun _=>some (x3,(d1.take ((IntKind.wrap .i64 ((d1.length:Int)-1)):Int).toNat))
def nq(e0:ag)(e1:Int)(e2:Int)(e3:Bool)(e4:aj)(d1:(List al)):Option (al×(List al)):=
  (gX d1).bind fun x1=>(iy 0 (IntKind.wrap .i64 (x1-1)) d1).bind fun x2=>(mf 0 (IntKind.wrap .i64 (x1-1)) e0 e1 e2 e3 e4 x2).bind fun x3=>(pc e0 e1 e2 e3 e4 x3.2).bind fun x4=>some (x4.1,x4.2)
def bR(a0:Int)(a1:Int):Option (Int):=
  (rr .i64 (IntKind.wrap .i64 (a1-a0)) 2).bind fun x1=>some (IntKind.wrap .i64 (a0+x1))
def bD(a0:aW):Option (aa):=
  some (aa.mk a0.a0 a0.a1 a0.a2)
def fm(a0:ai):Option (aa):=
  (bB a0).bind fun x1=>if(!x1)=true then(some (aa.mk 0 0 0))else((bv a0.aL).bind fun x3=>(bv a0.aF).bind fun x4=>(bR x3.a0 x4.a0).bind fun x5=>(bR x3.a1 x4.a1).bind fun x6=>(bR x3.a2 x4.a2).bind fun x7=>(bD (aW.mk x5 x6 x7)).bind fun x8=>some x8)
def gW(a0:ag)(a1:aa):Option (Int×Int×Int):=
  (fD a0 (ai.mk a1 a1)).bind fun x1=>if(x1.2 != 0)=true then(some (0,0,x1.2))else((ir a0 x1.1).bind fun x3=>some (x3.1,x3.2,0))
def jK(a0:ai)(e1:ag)(e2:Int)(e3:Int)(e4:Bool)(e5:aj)(d1:(List al)):Option (Int×Bool×aj):=
  (fm a0).bind fun x1=>(gW e1 x1).bind fun x2=>if(x2.2.2 != 0)=true then(some (x2.2.2,e4,e5))else(if(!e4)=true then(some (0,true,(aj.mk x1 x2.1 x2.2.1 0 (ai.mk (aa.mk 0 0 0) (aa.mk 0 0 0)))))else(if(decide (x2.2.1<e5.bh))=true then(some (0,true,(aj.mk x1 x2.1 x2.2.1 0 (ai.mk (aa.mk 0 0 0) (aa.mk 0 0 0)))))else(if(x2.2.1==e5.bh)=true then((dQ x1 e5.aV).bind fun x7=>if(decide (x7<0))=true then(some (0,true,(aj.mk x1 x2.1 x2.2.1 0 (ai.mk (aa.mk 0 0 0) (aa.mk 0 0 0)))))else(some (0,e4,e5)))else(some (0,e4,e5)))))
def jo(a0:ai):Option (Int):=
  (bB a0).bind fun x1=>if(!x1)=true then(some 0)else((bv a0.aF).bind fun x3=>(bv a0.aL).bind fun x4=>some (IntKind.wrap .i64 ((IntKind.wrap .i64 ((IntKind.wrap .i64 (1*(IntKind.wrap .i64 ((IntKind.wrap .i64 (x3.a0-x4.a0))+1))))*(IntKind.wrap .i64 ((IntKind.wrap .i64 (x3.a1-x4.a1))+1))))*(IntKind.wrap .i64 ((IntKind.wrap .i64 (x3.a2-x4.a2))+1)))))
def fd(a0:ai):Option (ai×ai×Bool):=
  (jo a0).bind fun x1=>if(decide (x1<2))=true then(some ((ai.mk (aa.mk 0 0 0) (aa.mk 0 0 0)),(ai.mk (aa.mk 0 0 0) (aa.mk 0 0 0)),false))else((bv a0.aL).bind fun x3=>(bv a0.aF).bind fun x4=>if(decide ((IntKind.wrap .i64 (x4.a1-x3.a1))>(IntKind.wrap .i64 (x4.a0-x3.a0))))=true then(if(decide ((IntKind.wrap .i64 (x4.a2-x3.a2))>(IntKind.wrap .i64 (x4.a1-x3.a1))))=true then((bR x3.a2 x4.a2).bind fun x7=>(bD (aW.mk x4.a0 x4.a1 x7)).bind fun x8=>(bD (aW.mk x3.a0 x3.a1 (IntKind.wrap .i64 (x7+1)))).bind fun x9=>some ((ai.mk a0.aL x8),(ai.mk x9 a0.aF),true))else((bR x3.a1 x4.a1).bind fun x10=>(bD (aW.mk x4.a0 x10 x4.a2)).bind fun x11=>(bD (aW.mk x3.a0 (IntKind.wrap .i64 (x10+1)) x3.a2)).bind fun x12=>some ((ai.mk a0.aL x11),(ai.mk x12 a0.aF),true)))else(if(decide ((IntKind.wrap .i64 (x4.a2-x3.a2))>(IntKind.wrap .i64 (x4.a0-x3.a0))))=true then((bR x3.a2 x4.a2).bind fun x14=>(bD (aW.mk x4.a0 x4.a1 x14)).bind fun x15=>(bD (aW.mk x3.a0 x3.a1 (IntKind.wrap .i64 (x14+1)))).bind fun x16=>some ((ai.mk a0.aL x15),(ai.mk x16 a0.aF),true))else((bR x3.a0 x4.a0).bind fun x17=>(bD (aW.mk x17 x4.a1 x4.a2)).bind fun x18=>(bD (aW.mk (IntKind.wrap .i64 (x17+1)) x3.a1 x3.a2)).bind fun x19=>some ((ai.mk a0.aL x18),(ai.mk x19 a0.aF),true))))
def mP(a0:al)(e1:ag)(e2:Int)(e3:Int)(e4:Bool)(e5:aj)(d1:(List al)):Option ((List al)):=
  (nJ d1 [a0] 64).bind fun x1=>some x1
def kM(a0:al)(e1:ag)(e2:Int)(e3:Int)(e4:Bool)(e5:aj)(d1:(List al)):Option ((List al)):=
  (mP a0 e1 e2 e3 e4 e5 d1).bind fun x1=>(gX x1).bind fun x2=>(nN (IntKind.wrap .i64 (x2-1)) e1 e2 e3 e4 e5 x1).bind fun x3=>some x3
def iC(x1:Int×Int)(j2:Int)(j3:(List al)):Option (Int×Int×(List al)):=
  some (x1.2,j2,j3)
def iB(a0:ai)(e1:ag)(e2:Int)(e3:Int)(e4:Bool)(e5:aj)(d1:(List al)):Option (Int×Int×(List al)):=
  (eO e1 a0).bind fun x1=>if(x1.2==0)=true then((kM (al.mk a0 x1.1 e2) e1 e2 e3 e4 e5 d1).bind fun x6=>iC x1 (IntKind.wrap .i64 (e2+1)) x6)else(iC x1 e2 d1)
def jL(e0:ag)(e1:Int)(e2:Int)(e3:Bool)(e4:aj)(d1:(List al)):Option (Int×Int×Int×Bool×aj×(List al)):=
  if(e2==3000)=true then(some (25,e1,e2,e3,e4,d1))else((inO d1 0).bind fun _=>(eQ d1 0).bind fun x4=>(nq e0 e1 e2 e3 e4 d1).bind fun x5=>(jK x4.jx e0 e1 (IntKind.wrap .i64 (e2+1)) e3 e4 x5.2).bind fun x6=>if(x6.1 != 0)=true then(some (x6.1,e1,(IntKind.wrap .i64 (e2+1)),x6.2.1,x6.2.2,x5.2))else((fd x4.jx).bind fun x8=>if(!x8.2.2)=true then(some (0,e1,(IntKind.wrap .i64 (e2+1)),x6.2.1,x6.2.2,x5.2))else((iB x8.1 e0 e1 (IntKind.wrap .i64 (e2+1)) x6.2.1 x6.2.2 x5.2).bind fun x10=>if(x10.1 != 0)=true then(some (x10.1,x10.2.1,(IntKind.wrap .i64 (e2+1)),x6.2.1,x6.2.2,x10.2.2))else((iB x8.2.1 e0 x10.2.1 (IntKind.wrap .i64 (e2+1)) x6.2.1 x6.2.2 x10.2.2).bind fun x12=>some (x12.1,x12.2.1,(IntKind.wrap .i64 (e2+1)),x6.2.1,x6.2.2,x12.2.2)))))
def ko(a1:Int)(a0:ag):(Int×Int×Bool×aj×(List al))->Option (fK (Int×Int×Bool×aj×(List al)) (((List al)×Int×Int×Bool×aj)⊕((Option bQ)×Int))):=fun(s6,s7,s8,s9,s10)=>
  (iV a1 a0 s6 s7 s8 s9 s10).bind fun x17=>if(!x17)=true then((jL a0 s6 s7 s8 s9 s10).bind fun x19=>if(x19.1 != 0)=true then(some (.stop (.inr (none,x19.1))))else(some (.next (x19.2.1,x19.2.2.1,x19.2.2.2.1,x19.2.2.2.2.1,x19.2.2.2.2.2))))else(some (.stop (.inl (s10,s6,s7,s8,s9))))
def ip(a0:ag)(a1:Int):Option ((Option bQ)×Int):=
  (gN a0).bind fun x1=>if(x1 != 0)=true then(some (none,x1))else(if(decide (a1<0))=true then(some (none,2))else((kV a0.aO a0 0 0 false (aj.mk (aa.mk 0 0 0) 0 0 0 (ai.mk (aa.mk 0 0 0) (aa.mk 0 0 0)))).bind fun x4=>if(x4.1 != 0)=true then(some (none,x4.1))else((dS (ko a1 a0) (x4.2.2,0,false,(aj.mk (aa.mk 0 0 0) 0 0 0 (ai.mk (aa.mk 0 0 0) (aa.mk 0 0 0))),x4.2.1)).bind fun o22=>match o22 with| .inl y23=>(some ((some (bQ.mk a0 y23.1 y23.2.1 y23.2.2.1 y23.2.2.2.1 (aj.mk (aa.mk y23.2.2.2.2.aV.fX y23.2.2.2.2.aV.fY y23.2.2.2.2.aV.fZ) y23.2.2.2.2.aX y23.2.2.2.2.bh y23.2.2.2.2.d5 (ai.mk (aa.mk y23.2.2.2.2.aY.aL.fX y23.2.2.2.2.aY.aL.fY y23.2.2.2.2.aY.aL.fZ) (aa.mk y23.2.2.2.2.aY.aF.fX y23.2.2.2.2.aY.aF.fY y23.2.2.2.2.aY.aF.fZ))))),0))| .inr r24=>(some r24))))
def ld(a0:ai)(a1:ai):Option (ai):=
  (bB a0).bind fun x1=>if(!x1)=true then(some (ai.mk (aa.mk 0 0 0) (aa.mk 0 0 0)))else((bB a1).bind fun x3=>if(!x3)=true then(some (ai.mk (aa.mk 0 0 0) (aa.mk 0 0 0)))else((bv a0.aL).bind fun x5=>(bv a0.aF).bind fun x6=>(bv a1.aL).bind fun x7=>(bv a1.aF).bind fun x8=>(bD (aW.mk (if x7.a0<x5.a0 then x7.a0 else x5.a0) (if x7.a1<x5.a1 then x7.a1 else x5.a1) (if x7.a2<x5.a2 then x7.a2 else x5.a2))).bind fun x9=>(bD (aW.mk (if x8.a0>x6.a0 then x8.a0 else x6.a0) (if x8.a1>x6.a1 then x8.a1 else x6.a1) (if x8.a2>x6.a2 then x8.a2 else x6.a2))).bind fun x10=>some (ai.mk x9 x10)))
def kl(y2:bQ):(Int×Int×ai)->Option (fK (Int×Int×ai) (Int×ai)):=fun(s5,s6,s7)=>
  if(decide (s5<(y2.kg.length:Int)))=true then((eQ y2.kg s5).bind fun x12=>if(decide (x12.ch<y2.bT.bh))=true then((ld s7 x12.jx).bind fun x14=>some (.next ((IntKind.wrap .i64 (s5+1)),(if x12.ch<s6 then x12.ch else s6),x14)))else(some (.next ((IntKind.wrap .i64 (s5+1)),(if x12.ch<s6 then x12.ch else s6),s7))))else(some (.stop (s6,s7)))
def db(a0:ag)(a1:Int):Option (aj×Int):=
  (ip a0 a1).bind fun x1=>optC x1.1 (if(x1.2 != 0)=true then(some ((aj.mk (aa.mk 0 0 0) 0 0 0 (ai.mk (aa.mk 0 0 0) (aa.mk 0 0 0))),x1.2))else(none)) (fun y2=>if(x1.2 != 0)=true then(some ((aj.mk (aa.mk 0 0 0) 0 0 0 (ai.mk (aa.mk 0 0 0) (aa.mk 0 0 0))),x1.2))else((dS (kl y2) (0,y2.bT.bh,(ai.mk y2.bT.aV y2.bT.aV))).bind fun o16=>some ((aj.mk y2.bT.aV y2.bT.aX y2.bT.bh o16.1 (ai.mk (aa.mk o16.2.aL.fX o16.2.aL.fY o16.2.aL.fZ) (aa.mk o16.2.aF.fX o16.2.aF.fY o16.2.aF.fZ))),0)))
def iv(x1:(List aG)×Int)(a2:Int):(Int×(List Int))->Option (fK (Int×(List Int)) ((List Int))):=fun(s6,s7)=>
  if(decide (s6<(x1.1.length:Int)))=true then((eQ x1.1 s6).bind fun x11=>(fo x11 a2).bind fun x12=>(nJ s7 [x12] 8).bind fun x13=>some (.next ((IntKind.wrap .i64 (s6+1)),x13)))else(some (.stop s7))
def gf(a0:ag)(a1:aa)(a2:Int):Option ((List Int)×Int):=
  (fD a0 (ai.mk a1 a1)).bind fun x1=>if(x1.2 != 0)=true then(some (([]:(List Int)),x1.2))else(if(decide (a2<(-18014398509481984)))=true then(some (([]:(List Int)),2))else(if(decide (a2>18014398509481984))=true then(some (([]:(List Int)),2))else((mkCO 0 (x1.1.length:Int) 0 8).bind fun x5=>(dS (iv x1 a2) (0,x5)).bind fun o15=>some (o15,0))))
def jV(a1:Int)(d0:(List Int))(d1:(List Int)):Option ((List Int)×(List Int)):=
  (inO d1 a1).bind fun _=>(eQ d1 a1).bind fun x3=>(inO d0 a1).bind fun _=>(eQ d0 a1).bind fun x6=>(inO d0 a1).bind fun _=>(eQ d0 a1).bind fun x9=>(inO d1 a1).bind fun _=>(eQ d1 a1).bind fun x12=>(inO d0 x3).bind fun _=>(sj d0 x3 x9).bind fun x15=>(inO d1 x6).bind fun _=>(sj d1 x6 x12).bind fun x18=>some (x15,x18)
def cm(x18:(List Int)×(List Int)×(List Int))(x3:(List Int))(j19:(List a7))(j20:(List Int)):Option (fK ((List a7)×(List Int)×(List Int)×(List Int)) (((List a7)×(List Int))⊕((List a7)×(List Int)×Int))):=
  (eQ x18.1 0).bind fun x21=>(eQ x3 x21).bind fun x22=>(nJ j20 [x22] 8).bind fun x23=>(eQ x18.1 0).bind fun x24=>(jV x24 x18.2.1 x18.2.2).bind fun x25=>some (.next (j19,x23,x25.1,x25.2))
def dm(x18:(List Int)×(List Int)×(List Int))(x3:(List Int))(a1:(List ak))(s5:(List a7))(s6:(List Int)):(Int×(List ak))->Option (fK (Int×(List ak)) ((List ak)×(List a7)×(List Int))):=fun(s28,s29)=>
  if(decide (s28<(x18.1.length:Int)))=true then((eQ x18.1 s28).bind fun x35=>(eQ x3 x35).bind fun x36=>(eQ a1 x36).bind fun x37=>(nJ s29 [x37] 48).bind fun x38=>some (.next ((IntKind.wrap .i64 (s28+1)),x38)))else(some (.stop (s29,s5,s6)))
def dn(x18:(List Int)×(List Int)×(List Int))(x45:(List Int)×Int)(a0:aJ):(Int×(List Int))->Option (fK (Int×(List Int)) ((List Int))):=fun(s47,s48)=>
  if(decide (s47<(x18.1.length:Int)))=true then((eQ x18.1 s47).bind fun x52=>(eQ x45.1 s47).bind fun x53=>if(decide (x53<=a0.lC))=true then((nJ s48 [x52] 8).bind fun x55=>some (.next ((IntKind.wrap .i64 (s47+1)),x55)))else(some (.next ((IntKind.wrap .i64 (s47+1)),s48))))else(some (.stop s48))
def cn(o57:(List Int))(x3:(List Int)):(Int×(List Int)×(List Int)×(List Int))->Option (fK (Int×(List Int)×(List Int)×(List Int)) ((List Int)×(List Int)×(List Int))):=fun(s59,s60,s61,s62)=>
  if(decide (s59<(o57.length:Int)))=true then((inO o57 s59).bind fun _=>(eQ o57 s59).bind fun x70=>(jV x70 s60 s61).bind fun x71=>(eQ x3 x70).bind fun x72=>(nJ s62 [x72] 8).bind fun x73=>some (.next ((IntKind.wrap .i64 (s59+1)),x71.1,x71.2,x73)))else(some (.stop (s60,s61,s62)))
def bW(a0:aJ)(a1:(List ak))(x3:(List Int)):((List a7)×(List Int)×(List Int)×(List Int))->Option (fK ((List a7)×(List Int)×(List Int)×(List Int)) (((List a7)×(List Int))⊕((List a7)×(List Int)×Int))):=fun(s5,s6,s7,s8)=>
  (iK (bg.mk s7 s8)).bind fun x12=>(inO s7 x12).bind fun _=>(eQ s7 x12).bind fun x15=>(iK (bg.mk s7 s8)).bind fun x16=>if(x15 != x16)=true then((la a0 a1 x3 s7 s8).bind fun x18=>if(decide ((x18.1.length:Int)>=a0.cw))=true then((dS (dm x18 x3 a1 s5 s6) (0,([]:(List ak)))).bind fun o40=>(eu a0 o40.1).bind fun x41=>(db x41 a0.bS).bind fun x42=>if(x42.2 != 0)=true then(some (.stop (.inr (([]:(List a7)),([]:(List Int)),x42.2))))else((eu a0 o40.1).bind fun x44=>(gf x44 x42.1.aV x42.1.aX).bind fun x45=>if(x45.2 != 0)=true then(some (.stop (.inr (([]:(List a7)),([]:(List Int)),x45.2))))else((dS (dn x18 x45 a0) (0,([]:(List Int)))).bind fun o57=>if(decide ((o57.length:Int)>=a0.cw))=true then((dS (cn o57 x3) (0,x18.2.1,x18.2.2,([]:(List Int)))).bind fun o75=>(sb o75.2.2).bind fun x76=>(nJ o40.2.1 [(a7.mk x76 x42.1.aV x42.1.aX)] 56).bind fun x77=>some (.next (x77,o40.2.2,o75.1,o75.2.1)))else(cm x18 x3 o40.2.1 o40.2.2))))else(cm x18 x3 s5 s6))else(some (.stop (.inl (s5,s6))))
def fT(a0:aJ)(a1:(List ak)):Option ((List a7)×(List Int)×Int):=
  (di a0 a1).bind fun x1=>if(x1 != 0)=true then(some (([]:(List a7)),([]:(List Int)),x1))else((gK a1).bind fun x3=>(gt (a1.length:Int)).bind fun x4=>(dS (bW a0 a1 x3) (([]:(List a7)),([]:(List Int)),x4.np,x4.fback)).bind fun o79=>match o79 with| .inl y80=>((sb y80.2).bind fun x82=>some (y80.1,x82,0))| .inr r81=>(some r81))
def jb(x5:(List ae))(a0:ap)(a1:ar):(Int×(List ae)×(List ak)×(List av))->Option (fK (Int×(List ae)×(List ak)×(List av)) ((List ae)×(List ak)×(List av))):=fun(s6,s7,s8,s9)=>
  if(decide (s6<(x5.length:Int)))=true then((eQ x5 s6).bind fun x15=>(cO a0 a1 x15).bind fun x16=>if x16.2.2=true then((nJ s7 [x15] 104).bind fun x18=>(nJ s8 [x16.1] 48).bind fun x19=>(nJ s9 [x16.2.1] 80).bind fun x20=>some (.next ((IntKind.wrap .i64 (s6+1)),x18,x19,x20)))else(some (.next ((IntKind.wrap .i64 (s6+1)),s7,s8,s9))))else(some (.stop (s7,s8,s9)))
def gP(a0:ap)(a1:ar)(a2:(List ae)):Option (aS×Int):=
  (ey a0).bind fun x1=>if(x1 != 0)=true then(some ((aS.mk [] [] []),27))else((cN a1).bind fun x3=>if(!x3)=true then(some ((aS.mk [] [] []),1))else((c7 a2).bind fun x5=>(dS (jb x5 a0 a1) (0,([]:(List ae)),([]:(List ak)),([]:(List av)))).bind fun o22=>some ((aS.mk o22.1 o22.2.1 o22.2.2),0)))
def iQ(a0:aS)(a1:ap):Option (ag×Int):=
  if((a0.dc.length:Int)==0)=true then(some ((ag.mk (ai.mk (aa.mk 0 0 0) (aa.mk 0 0 0)) (aI.mk 0 [] []) [] 0),24))else(if(decide ((a0.dc.length:Int)>64))=true then(some ((ag.mk (ai.mk (aa.mk 0 0 0) (aa.mk 0 0 0)) (aI.mk 0 [] []) [] 0),8))else((ru 8 a1.ah.bi.aL).bind fun x3=>(ru 8 a1.ah.bi.aF).bind fun x4=>some ((ag.mk a1.ah.aO (aI.mk a1.ah.bi.bn x3 x4) a0.dc a1.ah.da),0)))
def nat_From_l9:(Int×(List Int))->Option (fK (Int×(List Int)) ((List Int))):=fun(s2,s3)=>
  if(decide (s2>0))=true then((vu s2 1073741824).bind fun x7=>(nJ s3 [x7] 8).bind fun x8=>some (.next ((jS .i64 s2 30),x8)))else(some (.stop s3))
def qk(a0:Int):Option ((List Int)×Int):=
  if(decide (a0<0))=true then(some (([]:(List Int)),2))else((dS (nat_From_l9) (a0,([]:(List Int)))).bind fun o10=>some (o10,0))
def mA(a0:Int):Option (Bool):=
  if(decide (a0<0))=true then(some true)else(some (decide (a0>=1073741824)))
def gr(a0:(List Int)):Int->Option (fK (Int) ((Unit)⊕(Int))):=fun s1=>
  if(decide (s1<(a0.length:Int)))=true then((eQ a0 s1).bind fun x4=>(mA x4).bind fun x5=>if x5=true then(some (.stop (.inr s1)))else(some (.next (IntKind.wrap .i64 (s1+1)))))else(some (.stop (.inl ())))
def ff(a0:(List Int)):Option (Int):=
  (dS (gr a0) 0).bind fun o8=>match o8 with| .inl _=>(some (-1))| .inr r10=>(some r10)
def cu(a0:(List Int)):Option (Bool):=
  (ff a0).bind fun x1=>some (decide (x1>=0))
def jJ(a0:(List Int)):Option (Bool):=
  if(decide ((a0.length:Int)>64))=true then(some false)else(if(decide ((a0.length:Int)>0))=true then((eQ a0 (IntKind.wrap .i64 ((a0.length:Int)-1))).bind fun x3=>if(x3==0)=true then(some false)else((cu a0).bind fun x5=>some (!x5)))else((cu a0).bind fun x6=>some (!x6)))
def oN(a0:(List Int))(a1:(List Int)):Option (Bool):=
  (jJ a0).bind fun x1=>if x1=true then((jJ a1).bind fun x3=>some x3)else(some false)
def mi(a0:(List Int))(a1:Int):Option (Int):=
  if(decide (a1>=(a0.length:Int)))=true then(some 0)else((eQ a0 a1).bind fun x2=>some x2)
def nat_trim_l8:(List Int)->Option (fK ((List Int)) ((List Int))):=fun s1=>
  if(decide ((s1.length:Int)>0))=true then((eQ s1 (IntKind.wrap .i64 ((s1.length:Int)-1))).bind fun x5=>if(x5==0)=true then((wD s1 0 (IntKind.wrap .i64 ((s1.length:Int)-1))).bind fun x7=>some (.next x7))else(some (.stop s1)))else(some (.stop s1))
def oO(a0:(List Int)):Option ((List Int)):=
  (dS (nat_trim_l8) a0).bind fun o9=>some o9
def nw(a1:(List Int))(s2:Int)(x7:Int):(Int×Int×(List Int))->Option (fK (Int×Int×(List Int)) (Int×(List Int))):=fun(s8,s9,s10)=>
  if(decide (s9<(IntKind.wrap .i64 ((a1.length:Int)+1))))=true then(if(decide ((IntKind.wrap .i64 (s2+s9))<(s10.length:Int)))=true then((inO s10 (IntKind.wrap .i64 (s2+s9))).bind fun _=>(eQ s10 (IntKind.wrap .i64 (s2+s9))).bind fun x18=>(mi a1 s9).bind fun x19=>(vu (IntKind.wrap .i64 (s8+(IntKind.wrap .i64 (x18+(IntKind.wrap .i64 (x7*x19)))))) 1073741824).bind fun x20=>(inO s10 (IntKind.wrap .i64 (s2+s9))).bind fun _=>(sj s10 (IntKind.wrap .i64 (s2+s9)) x20).bind fun x23=>some (.next ((jS .i64 (IntKind.wrap .i64 (s8+(IntKind.wrap .i64 (x18+(IntKind.wrap .i64 (x7*x19)))))) 30),(IntKind.wrap .i64 (s9+1)),x23)))else(some (.next (s8,(IntKind.wrap .i64 (s9+1)),s10))))else(some (.stop (s2,s10)))
def ny(a0:(List Int))(a1:(List Int)):(Int×(List Int))->Option (fK (Int×(List Int)) ((List Int))):=fun(s2,s3)=>
  if(decide (s2<(a0.length:Int)))=true then((eQ a0 s2).bind fun x7=>(dS (nw a1 s2 x7) (0,0,s3)).bind fun o25=>some (.next ((IntKind.wrap .i64 (o25.1+1)),o25.2)))else(some (.stop s3))
def iR(a0:(List Int))(a1:(List Int)):Option ((List Int)):=
  (mkO (IntKind.wrap .i64 ((a0.length:Int)+(a1.length:Int))) 0 8).bind fun x1=>(dS (ny a0 a1) (0,x1)).bind fun o27=>(oO o27).bind fun x28=>some x28
def iw(a0:(List Int)):Option ((List Int)×Int):=
  (oO a0).bind fun x1=>if(decide ((x1.length:Int)>64))=true then(some (([]:(List Int)),8))else(some (x1,0))
def nat_Mul(a0:(List Int))(a1:(List Int)):Option ((List Int)×Int):=
  (oN a0 a1).bind fun x1=>if(!x1)=true then(some (([]:(List Int)),1))else((iR a0 a1).bind fun x3=>(iw x3).bind fun x4=>some (x4.1,x4.2))
def df(a0:Int):Option ((List Int)):=
  (qk (if(IntKind.wrap .i64 (0-a0))>a0 then(IntKind.wrap .i64 (0-a0))else a0)).bind fun x1=>(nat_Mul x1.1 x1.1).bind fun x2=>some x2.1
def nat_Add_l13(a1:(List Int))(a0:(List Int)):(Int×Int×(List Int))->Option (fK (Int×Int×(List Int)) ((List Int))):=fun(s3,s4,s5)=>
  if(decide (s4<(IntKind.wrap .i64 ((if(a1.length:Int)>(a0.length:Int)then(a1.length:Int)else(a0.length:Int))+1))))=true then((mi a0 s4).bind fun x9=>(mi a1 s4).bind fun x10=>(vu (IntKind.wrap .i64 (s3+(IntKind.wrap .i64 (x9+x10)))) 1073741824).bind fun x11=>(nJ s5 [x11] 8).bind fun x12=>some (.next ((jS .i64 (IntKind.wrap .i64 (s3+(IntKind.wrap .i64 (x9+x10)))) 30),(IntKind.wrap .i64 (s4+1)),x12)))else(some (.stop s5))
def nat_Add(a0:(List Int))(a1:(List Int)):Option ((List Int)×Int):=
  (oN a0 a1).bind fun x1=>if(!x1)=true then(some (([]:(List Int)),1))else((dS (nat_Add_l13 a1 a0) (0,0,([]:(List Int)))).bind fun o14=>(iw o14).bind fun x15=>some (x15.1,x15.2))
def gh(a0:aW)(a1:Int)(a2:Int):Option ((List Int)):=
  (df (IntKind.wrap .i64 ((IntKind.wrap .i64 ((IntKind.wrap .i64 (a0.a0*a2))*a2))-(IntKind.wrap .i64 ((IntKind.wrap .i64 (a0.a2*a1))*a1))))).bind fun x1=>(df (IntKind.wrap .i64 ((IntKind.wrap .i64 (a0.a1*a1))*a2))).bind fun x2=>(nat_Add x1 x2).bind fun x3=>some x3.1
def lm(a0:aH)(a1:Int)(a2:Int):Option (aM×Bool):=
  if(a0.fP==0)=true then((df a0.bI.a0).bind fun x2=>(df a0.bw.a0).bind fun x3=>some ((aM.mk x2 x3),true))else(if(a0.fP==1)=true then((gh a0.bI a1 a2).bind fun x5=>(gh a0.bw a1 a2).bind fun x6=>some ((aM.mk x5 x6),(decide ((x6.length:Int)>0))))else((dF a0.dM).bind fun x7=>(df x7).bind fun x8=>(xh .i64 1 a0.dO).bind fun x9=>(df x9).bind fun x10=>some ((aM.mk x8 x10),true)))
def fF(a0:aM):Option (Bool):=
  (jJ a0.bI).bind fun x1=>if x1=true then((jJ a0.bw).bind fun x3=>if x3=true then(some (decide ((a0.bw.length:Int)>0)))else(some false))else(some false)
def pb(a0:aM)(a1:aM):Option (aM×Int):=
  (fF a0).bind fun x1=>if(!x1)=true then(some ((aM.mk [] []),1))else((fF a1).bind fun x3=>if(!x3)=true then(some ((aM.mk [] []),1))else((iR a0.bI a1.bI).bind fun x5=>(iw x5).bind fun x6=>(iR a0.bw a1.bw).bind fun x7=>(iw x7).bind fun x8=>if(x6.2 != 0)=true then(some ((aM.mk [] []),8))else(if(x8.2 != 0)=true then(some ((aM.mk [] []),8))else(some ((aM.mk x6.1 x8.1),0)))))
def mQ(a0:aP)(a1:Int)(a2:Int):(Int×(List Int)×(List Int))->Option (fK (Int×(List Int)×(List Int)) (((List Int)×(List Int))⊕(aM×Int))):=fun(s7,s8,s9)=>
  if(decide (s7<(a0.bG.length:Int)))=true then((eQ a0.bG s7).bind fun x14=>(lm x14 a1 a2).bind fun x15=>if(!x15.2)=true then(some (.stop (.inr ((aM.mk [] []),11))))else((pb (aM.mk s8 s9) x15.1).bind fun x17=>if(x17.2 != 0)=true then(some (.stop (.inr ((aM.mk [] []),x17.2))))else(some (.next ((IntKind.wrap .i64 (s7+1)),x17.1.bI,x17.1.bw)))))else(some (.stop (.inl (s8,s9))))
def lk(a0:aP)(a1:Int)(a2:Int):Option (aM×Int):=
  (fe a0).bind fun x1=>if(!x1)=true then(some ((aM.mk [] []),1))else((bq a1 0 65536).bind fun x3=>if(!x3)=true then(some ((aM.mk [] []),2))else((bq a2 1 65536).bind fun x5=>if(!x5)=true then(some ((aM.mk [] []),2))else((dS (mQ a0 a1 a2) (0,[1],[1])).bind fun o20=>match o20 with| .inl y21=>(some ((aM.mk y21.1 y21.2),0))| .inr r22=>(some r22))))
def d8(a0:Int)(j15:Int)(j16:Int):Option (Int):=
  some (IntKind.wrap .i64 ((IntKind.wrap .i64 (256*a0))+j16))
def d9(a0:Int)(j13:Int)(j14:Int):Option (Int):=
  if(decide ((jS .i64 (IntKind.wrap .i64 (j13*j13)) 30)>=2147483648))=true then((rr .i64 (jS .i64 (IntKind.wrap .i64 (j13*j13)) 30) 2).bind fun x19=>d8 a0 x19 (IntKind.wrap .i64 ((IntKind.wrap .i64 (j14*2))+1)))else(d8 a0 (jS .i64 (IntKind.wrap .i64 (j13*j13)) 30) (IntKind.wrap .i64 (j14*2)))
def ec(a0:Int)(j11:Int)(j12:Int):Option (Int):=
  if(decide ((jS .i64 (IntKind.wrap .i64 (j11*j11)) 30)>=2147483648))=true then((rr .i64 (jS .i64 (IntKind.wrap .i64 (j11*j11)) 30) 2).bind fun x22=>d9 a0 x22 (IntKind.wrap .i64 ((IntKind.wrap .i64 (j12*2))+1)))else(d9 a0 (jS .i64 (IntKind.wrap .i64 (j11*j11)) 30) (IntKind.wrap .i64 (j12*2)))
def ed(a0:Int)(j9:Int)(j10:Int):Option (Int):=
  if(decide ((jS .i64 (IntKind.wrap .i64 (j9*j9)) 30)>=2147483648))=true then((rr .i64 (jS .i64 (IntKind.wrap .i64 (j9*j9)) 30) 2).bind fun x25=>ec a0 x25 (IntKind.wrap .i64 ((IntKind.wrap .i64 (j10*2))+1)))else(ec a0 (jS .i64 (IntKind.wrap .i64 (j9*j9)) 30) (IntKind.wrap .i64 (j10*2)))
def ef(a0:Int)(j7:Int)(j8:Int):Option (Int):=
  if(decide ((jS .i64 (IntKind.wrap .i64 (j7*j7)) 30)>=2147483648))=true then((rr .i64 (jS .i64 (IntKind.wrap .i64 (j7*j7)) 30) 2).bind fun x28=>ed a0 x28 (IntKind.wrap .i64 ((IntKind.wrap .i64 (j8*2))+1)))else(ed a0 (jS .i64 (IntKind.wrap .i64 (j7*j7)) 30) (IntKind.wrap .i64 (j8*2)))
def eh(a0:Int)(j5:Int)(j6:Int):Option (Int):=
  if(decide ((jS .i64 (IntKind.wrap .i64 (j5*j5)) 30)>=2147483648))=true then((rr .i64 (jS .i64 (IntKind.wrap .i64 (j5*j5)) 30) 2).bind fun x31=>ef a0 x31 (IntKind.wrap .i64 ((IntKind.wrap .i64 (j6*2))+1)))else(ef a0 (jS .i64 (IntKind.wrap .i64 (j5*j5)) 30) (IntKind.wrap .i64 (j6*2)))
def ei(a0:Int)(j3:Int)(j4:Int):Option (Int):=
  if(decide ((jS .i64 (IntKind.wrap .i64 (j3*j3)) 30)>=2147483648))=true then((rr .i64 (jS .i64 (IntKind.wrap .i64 (j3*j3)) 30) 2).bind fun x34=>eh a0 x34 (IntKind.wrap .i64 ((IntKind.wrap .i64 (j4*2))+1)))else(eh a0 (jS .i64 (IntKind.wrap .i64 (j3*j3)) 30) (IntKind.wrap .i64 (j4*2)))
def ej(a0:Int)(j1:Int)(j2:Int):Option (Int):=
  if(decide ((jS .i64 (IntKind.wrap .i64 (j1*j1)) 30)>=2147483648))=true then((rr .i64 (jS .i64 (IntKind.wrap .i64 (j1*j1)) 30) 2).bind fun x37=>ei a0 x37 (IntKind.wrap .i64 ((IntKind.wrap .i64 (j2*2))+1)))else(ei a0 (jS .i64 (IntKind.wrap .i64 (j1*j1)) 30) (IntKind.wrap .i64 (j2*2)))
def ge(a0:Int)(a1:Int):Option (Int):=
  if(decide ((jS .i64 (IntKind.wrap .i64 (a1*a1)) 30)>=2147483648))=true then((rr .i64 (jS .i64 (IntKind.wrap .i64 (a1*a1)) 30) 2).bind fun x40=>ej a0 x40 1)else(ej a0 (jS .i64 (IntKind.wrap .i64 (a1*a1)) 30) 0)
def gV(a0:Int):Option (Int×Int):=
  if(decide (a0<1))=true then(some (0,2))else((fW (IntKind.wrap .u64 a0)).bind fun x2=>if(decide ((IntKind.wrap .i64 (x2-1))<=30))=true then((xh .i64 a0 (IntKind.wrap .i64 (30-(IntKind.wrap .i64 (x2-1))))).bind fun x4=>(ge (IntKind.wrap .i64 (x2-1)) x4).bind fun x5=>some (x5,0))else((shrO .i64 a0 (IntKind.wrap .i64 ((IntKind.wrap .i64 (x2-1))-30))).bind fun x6=>(ge (IntKind.wrap .i64 (x2-1)) x6).bind fun x7=>some (x7,0)))
def gd(a0:(List Int)):Option (Int×Int):=
  (jJ a0).bind fun x1=>if(!x1)=true then(some (0,1))else(if(decide ((IntKind.wrap .i64 ((a0.length:Int)-1))<0))=true then(some (0,2))else(if((IntKind.wrap .i64 ((a0.length:Int)-1))==0)=true then((eQ a0 0).bind fun x5=>(gV x5).bind fun x6=>some (x6.1,x6.2))else((eQ a0 (IntKind.wrap .i64 ((a0.length:Int)-1))).bind fun x7=>(eQ a0 (IntKind.wrap .i64 ((IntKind.wrap .i64 ((a0.length:Int)-1))-1))).bind fun x8=>(gV (orI .i64 (shlI .i64 x7 30) x8)).bind fun x9=>some ((IntKind.wrap .i64 (x9.1+(IntKind.wrap .i64 (7680*(IntKind.wrap .i64 ((IntKind.wrap .i64 ((a0.length:Int)-1))-1)))))),x9.2))))
def iP(a0:bu)(a1:aP)(a2:Int):Option (Int×Int):=
  (lk a1 a0.bI a0.bw).bind fun x1=>if(x1.2 != 0)=true then(some (0,x1.2))else((gd x1.1.bI).bind fun x3=>if(x3.2 != 0)=true then(some (0,24))else((gd x1.1.bw).bind fun x5=>if(x5.2 != 0)=true then(some (0,x5.2))else((gV a2).bind fun x7=>some ((IntKind.wrap .i64 ((IntKind.wrap .i64 ((IntKind.wrap .i64 (2*x7.1))+x5.1))-x3.1)),x7.2))))
def iq(a0:Int):Option (Int):=
  some (jS .i64 a0 1)
def kP(a0:Int):Option (Int×Bool):=
  if(decide (a0>=(-16777216)))=true then(some ((IntKind.wrap .i64 (a0*30103)),(decide (a0<=16777216))))else(some ((IntKind.wrap .i64 (a0*30103)),false))
def gM(a0:Int):Option (Int):=
  (kP a0).bind fun x1=>if(!x1.2)=true then(some 0)else((rr .i64 x1.1 256000).bind fun x3=>(vu x1.1 256000).bind fun x4=>if(decide (x4<0))=true then(some (IntKind.wrap .i64 (x3-1)))else(some x3))
def kq(a0:Int):Option (Int):=
  (gM (IntKind.wrap .i64 (0-a0))).bind fun x1=>some (IntKind.wrap .i64 (0-x1))
def fC(a0:bu)(a1:aP)(a2:Int)(a3:Int)(a4:Int):Option (aA×Int):=
  (cL a0).bind fun x1=>if(!x1)=true then(some ((aA.mk 0 0),27))else(if(decide (a2<1))=true then(some ((aA.mk 0 0),2))else(if(decide (a2>1073741823))=true then(some ((aA.mk 0 0),2))else((iP a0 a1 a2).bind fun x5=>if(x5.2 != 0)=true then(some ((aA.mk 0 0),x5.2))else((cb a0.b8 a3 a4).bind fun x7=>if(x7.2.2 != 0)=true then(some ((aA.mk 0 0),x7.2.2))else((iq (IntKind.wrap .i64 (x5.1-2))).bind fun x9=>(gM x9).bind fun x10=>(iq (IntKind.wrap .i64 ((IntKind.wrap .i64 (0-x5.1))-6))).bind fun x11=>(kq (IntKind.wrap .i64 (0-x11))).bind fun x12=>some ((aA.mk (IntKind.wrap .i64 (x10+x7.1)) (IntKind.wrap .i64 (x12+x7.2.1))),0))))))
def dE(a0:aS)(a2:ai)(a1:ap):(Int×(List aA))->Option (fK (Int×(List aA)) ((List aA))):=fun(s1,s2)=>
  if(decide (s1<(a0.dc.length:Int)))=true then((eQ a0.dc s1).bind fun x6=>(eQ a0.jn s1).bind fun x7=>(eQ a0.du s1).bind fun x8=>(eU a2 x6.aN).bind fun x9=>(gx a2 x6.aN).bind fun x10=>(fC a1.fb x7.bN x8.aQ x9 x10).bind fun x11=>if(x11.2==0)=true then((nJ s2 [x11.1] 16).bind fun x13=>some (.next ((IntKind.wrap .i64 (s1+1)),x13)))else(some (.next ((IntKind.wrap .i64 (s1+1)),s2))))else(some (.stop s2))
def cM(a0:aS)(a1:ap)(a2:ai):Option ((List aA)):=
  (dS (dE a0 a2 a1) (0,([]:(List aA)))).bind fun o15=>some o15
def gE(a0:aA):Option (Bool):=
  some (decide (a0.aL>a0.aF))
def dv(a0:(List aA)):Int->Option (fK (Int) ((Unit)⊕(Int))):=fun s1=>
  if(decide (s1<(a0.length:Int)))=true then((eQ a0 s1).bind fun x4=>(gE x4).bind fun x5=>if x5=true then(some (.stop (.inr s1)))else(some (.next (IntKind.wrap .i64 (s1+1)))))else(some (.stop (.inl ())))
def dU(a0:(List aA)):Option (Int):=
  (dS (dv a0) 0).bind fun o8=>match o8 with| .inl _=>(some (-1))| .inr r10=>(some r10)
def cA(a0:(List aA)):Option (Bool):=
  (dU a0).bind fun x1=>some (decide (x1>=0))
def gF(a0:aA):Option (Int):=
  some a0.aL
def jh(a0:(List aA)):(Int×(List Int))->Option (fK (Int×(List Int)) ((List Int))):=fun(s1,s2)=>
  if(decide (s1<(a0.length:Int)))=true then((eQ a0 s1).bind fun x6=>(gF x6).bind fun x7=>(nJ s2 [x7] 8).bind fun x8=>some (.next ((IntKind.wrap .i64 (s1+1)),x8)))else(some (.stop s2))
def fh(a0:(List aA)):Option (Int):=
  (dS (jh a0) (0,([]:(List Int)))).bind fun o10=>(sb o10).bind fun x11=>(rr .i64 (IntKind.wrap .i64 ((x11.length:Int)-1)) 2).bind fun x12=>(inO x11 x12).bind fun _=>(eQ x11 x12).bind fun x15=>some x15
def gG(a0:aA):Option (Int):=
  some a0.aF
def ji(a0:(List aA)):(Int×(List Int))->Option (fK (Int×(List Int)) ((List Int))):=fun(s1,s2)=>
  if(decide (s1<(a0.length:Int)))=true then((eQ a0 s1).bind fun x6=>(gG x6).bind fun x7=>(nJ s2 [x7] 8).bind fun x8=>some (.next ((IntKind.wrap .i64 (s1+1)),x8)))else(some (.stop s2))
def fi(a0:(List aA)):Option (Int):=
  (dS (ji a0) (0,([]:(List Int)))).bind fun o10=>(sb o10).bind fun x11=>(rr .i64 (IntKind.wrap .i64 ((x11.length:Int)-1)) 2).bind fun x12=>(inO x11 x12).bind fun _=>(eQ x11 x12).bind fun x15=>some x15
def fB(a0:(List aA)):Option (aA×Int):=
  if((a0.length:Int)==0)=true then(some ((aA.mk 0 0),24))else((cA a0).bind fun x2=>if x2=true then(some ((aA.mk 0 0),1))else((fh a0).bind fun x4=>(fi a0).bind fun x5=>some ((aA.mk x4 x5),0)))
def gm(a0:ap)(a1:ar)(a2:(List ae)):Option (bc×Int):=
  (gP a0 a1 a2).bind fun x1=>if(x1.2 != 0)=true then(some ((bc.mk [] (aj.mk (aa.mk 0 0 0) 0 0 0 (ai.mk (aa.mk 0 0 0) (aa.mk 0 0 0))) (aA.mk 0 0) 0),x1.2))else((iQ x1.1 a0).bind fun x3=>if(x3.2 != 0)=true then(some ((bc.mk [] (aj.mk (aa.mk 0 0 0) 0 0 0 (ai.mk (aa.mk 0 0 0) (aa.mk 0 0 0))) (aA.mk 0 0) 0),x3.2))else((db x3.1 a0.bS).bind fun x5=>if(x5.2 != 0)=true then(some ((bc.mk [] (aj.mk (aa.mk 0 0 0) 0 0 0 (ai.mk (aa.mk 0 0 0) (aa.mk 0 0 0))) (aA.mk 0 0) 0),x5.2))else((cM x1.1 a0 x5.1.aY).bind fun x7=>if(decide ((x7.length:Int)>0))=true then((fB x7).bind fun x9=>if(x9.2 != 0)=true then(some ((bc.mk [] (aj.mk (aa.mk 0 0 0) 0 0 0 (ai.mk (aa.mk 0 0 0) (aa.mk 0 0 0))) (aA.mk 0 0) 0),x9.2))else(some ((bc.mk x1.1.du x5.1 x9.1 (x7.length:Int)),0)))else(some ((bc.mk x1.1.du x5.1 (aA.mk 0 0) 0),0)))))
def jg(a0:ae)(a1:ae):Option (Int):=
  (bJ a0.aX a1.aX).bind fun x1=>(ca a0 a1).bind fun x2=>(cv [x1,x2]).bind fun x3=>some x3
def cf(a0:(List ae)):(Int×(List UInt8)×(List UInt8)×(List UInt8)×(List UInt8)×Int×Int×Int×Int×Int)->Option (fK (Int×(List UInt8)×(List UInt8)×(List UInt8)×(List UInt8)×Int×Int×Int×Int×Int) ((List UInt8)×(List UInt8)×(List UInt8)×(List UInt8)×Int×Int×Int×Int×Int)):=fun(s3,s4,s5,s6,s7,s8,s9,s10,s11,s12)=>
  if(decide (s3<(a0.length:Int)))=true then((eQ a0 s3).bind fun x24=>(jg x24 (ae.mk (aw.mk s4 s5 s6 s7) s8 s9 s10 s11 s12)).bind fun x25=>if(decide (x25<0))=true then((eQ a0 s3).bind fun x27=>some (.next ((IntKind.wrap .i64 (s3+1)),x27.aD.a8,x27.aD.aN,x27.aD.aq,x27.aD.bd,x27.aX,x27.aK,x27.bf,x27.aQ,x27.aU)))else(some (.next ((IntKind.wrap .i64 (s3+1)),s4,s5,s6,s7,s8,s9,s10,s11,s12))))else(some (.stop (s4,s5,s6,s7,s8,s9,s10,s11,s12)))
def eS(a0:(List ae)):Option (ae):=
  if(decide ((a0.length:Int)<1))=true then(none)else((eQ a0 0).bind fun x2=>(dS (cf a0) (1,x2.aD.a8,x2.aD.aN,x2.aD.aq,x2.aD.bd,x2.aX,x2.aK,x2.bf,x2.aQ,x2.aU)).bind fun o29=>some (ae.mk (aw.mk o29.1 o29.2.1 o29.2.2.1 o29.2.2.2.1) o29.2.2.2.2.1 o29.2.2.2.2.2.1 o29.2.2.2.2.2.2.1 o29.2.2.2.2.2.2.2.1 o29.2.2.2.2.2.2.2.2))
def nM(a0:(List ae)):Option (ae):=
  if((a0.length:Int)==0)=true then(some (ae.mk (aw.mk [] [] [] []) 0 0 0 0 0))else((eS a0).bind fun x2=>some x2)
def jj(a0:eT)(a1:au)(a2:au):Option (Int):=
  (jg a1.aZ a2.aZ).bind fun x1=>some x1
def fQ(a1:Int)(s1:Int):(Int×(List au))->Option (fK (Int×(List au)) (Int×(List au))):=fun(s5,s6)=>
  if(decide (s5>a1))=true then((inO s6 s5).bind fun _=>(eQ s6 s5).bind fun x13=>(inO s6 (IntKind.wrap .i64 (s5-1))).bind fun _=>(eQ s6 (IntKind.wrap .i64 (s5-1))).bind fun x16=>(jj (eT.mk ) x13 x16).bind fun x17=>if(decide (x17<0))=true then((inO s6 (IntKind.wrap .i64 (s5-1))).bind fun _=>(eQ s6 (IntKind.wrap .i64 (s5-1))).bind fun x21=>(inO s6 s5).bind fun _=>(eQ s6 s5).bind fun x24=>(inO s6 s5).bind fun _=>(sj s6 s5 x21).bind fun x27=>(inO x27 (IntKind.wrap .i64 (s5-1))).bind fun _=>(sj x27 (IntKind.wrap .i64 (s5-1)) x24).bind fun x30=>some (.next ((IntKind.wrap .i64 (s5-1)),x30)))else(some (.stop (s1,s6))))else(some (.stop (s1,s6)))
def fS(a2:Int)(a1:Int):(Int×(List au))->Option (fK (Int×(List au)) ((List au))):=fun(s1,s2)=>
  if(decide (s1<a2))=true then((dS (fQ a1 s1) (s1,s2)).bind fun o32=>some (.next ((IntKind.wrap .i64 (o32.1+1)),o32.2)))else((some s2).bind fun z33=>some (.stop z33))
def cy(a1:Int)(a2:Int)(d0:(List au)):Option ((List au)):=
  (dS (fS a2 a1) ((IntKind.wrap .i64 (a1+1)),d0)).bind fun o35=>some o35
def bV(a2:Int)(a1:Int)(d0:(List au))(a3:Int):Unit->Option (fK (Unit) ((List au))):=fun _=>
  if(decide ((IntKind.wrap .i64 (a2-a1))<=12))=true then((cy a1 a2 d0).bind fun x3=>some (.stop x3))else(if(a3==0)=true then(none)else(none))
def eK:Nat->Int->Int->Int->(List au)->Option ((List au))
  |0,_,_,_,_=>none
  |nfu+1,a1,a2,a3,d0=>
  (dS (bV a2 a1 d0 a3) ()).bind fun o6=>some o6
def ct(a1:Int)(a2:Int)(a3:Int)(d0:(List au)):Option ((List au)):=recO fun n=>eK n a1 a2 a3 d0
def c8(d0:(List au)):Option ((List au)):=
  (fW (IntKind.wrap .u64 (d0.length:Int))).bind fun x1=>(ct 0 (d0.length:Int) x1 d0).bind fun x2=>some x2
def kc(x10:a7)(x1:(List ae)×(List ak)×Int)(s5:Int)(s6:(List au)):(Int×(List ae))->Option (fK (Int×(List ae)) (Int×(List au)×(List ae))):=fun(s11,s12)=>
  if(decide (s11<(x10.co.length:Int)))=true then((eQ x10.co s11).bind fun x18=>(eQ x1.1 x18).bind fun x19=>(nJ s12 [x19] 104).bind fun x20=>some (.next ((IntKind.wrap .i64 (s11+1)),x20)))else(some (.stop (s5,s6,s12)))
def kd(x3:(List a7)×(List Int)×Int)(x1:(List ae)×(List ak)×Int)(a0:ap)(a1:ar):(Int×(List au))->Option (fK (Int×(List au)) (((List au))⊕((List au)×(List ae)×Int))):=fun(s5,s6)=>
  if(decide (s5<(x3.1.length:Int)))=true then((eQ x3.1 s5).bind fun x10=>(dS (kc x10 x1 s5 s6) (0,([]:(List ae)))).bind fun o22=>(gm a0 a1 o22.2.2).bind fun x23=>if(x23.2 != 0)=true then(some (.stop (.inr (([]:(List au)),([]:(List ae)),x23.2))))else((nM x23.1.cg).bind fun x25=>(nJ o22.2.1 [(au.mk x25 x23.1)] 248).bind fun x26=>some (.next ((IntKind.wrap .i64 (o22.1+1)),x26))))else(some (.stop (.inl s6)))
def ke(x3:(List a7)×(List Int)×Int)(x1:(List ae)×(List ak)×Int):(Int×(List ae))->Option (fK (Int×(List ae)) ((List ae))):=fun(s32,s33)=>
  if(decide (s32<(x3.2.1.length:Int)))=true then((eQ x3.2.1 s32).bind fun x37=>(eQ x1.1 x37).bind fun x38=>(nJ s33 [x38] 104).bind fun x39=>some (.next ((IntKind.wrap .i64 (s32+1)),x39)))else(some (.stop s33))
def eC(a0:ap)(a1:ar)(a2:(List ae)):Option ((List au)×(List ae)×Int):=
  (kf a0 a1 a2).bind fun x1=>if(x1.2.2 != 0)=true then(some (([]:(List au)),([]:(List ae)),x1.2.2))else((fT a0.ah x1.2.1).bind fun x3=>if(x3.2.2 != 0)=true then(some (([]:(List au)),([]:(List ae)),x3.2.2))else((dS (kd x3 x1 a0 a1) (0,([]:(List au)))).bind fun o28=>match o28 with| .inl y29=>((c8 y29).bind fun x31=>(dS (ke x3 x1) (0,([]:(List ae)))).bind fun o41=>some (x31,o41,0))| .inr r30=>(some r30)))
def jv(x3:(List Int))(x1:(List ae)×(List ak)×Int)(a0:ap):(Int×Int×(List (List ae)))->Option (fK (Int×Int×(List (List ae))) ((List (List ae)))):=fun(s4,s5,s6)=>
  if(decide (s5<(x3.length:Int)))=true then((eQ x3 s5).bind fun x10=>if(s5==0)=true then((nJ s6 [[]] 24).bind fun x12=>(eQ x1.2.1 x10).bind fun x13=>(wJ x12).bind fun x14=>(inO x12 (IntKind.wrap .i64 ((x12.length:Int)-1))).bind fun _=>(atO (IntKind.wrap .i64 ((x12.length:Int)-1)) (x12.length-1)).bind fun _=>(eQ x1.1 x10).bind fun x17=>(nJ x14 [x17] 104).bind fun x18=>(inO x12 (IntKind.wrap .i64 ((x12.length:Int)-1))).bind fun _=>(stO x12.length (IntKind.wrap .i64 ((x12.length:Int)-1)) (x12.length-1)).bind fun _=>some (.next (x13.aK,(IntKind.wrap .i64 (s5+1)),(x12.set (x12.length-1) x18))))else((eQ x1.2.1 x10).bind fun x21=>if(decide ((IntKind.wrap .i64 (x21.aK-s4))>a0.ah.cB))=true then((nJ s6 [[]] 24).bind fun x23=>(eQ x1.2.1 x10).bind fun x24=>(wJ x23).bind fun x25=>(inO x23 (IntKind.wrap .i64 ((x23.length:Int)-1))).bind fun _=>(atO (IntKind.wrap .i64 ((x23.length:Int)-1)) (x23.length-1)).bind fun _=>(eQ x1.1 x10).bind fun x28=>(nJ x25 [x28] 104).bind fun x29=>(inO x23 (IntKind.wrap .i64 ((x23.length:Int)-1))).bind fun _=>(stO x23.length (IntKind.wrap .i64 ((x23.length:Int)-1)) (x23.length-1)).bind fun _=>some (.next (x24.aK,(IntKind.wrap .i64 (s5+1)),(x23.set (x23.length-1) x29))))else((eQ x1.2.1 x10).bind fun x32=>(wJ s6).bind fun x33=>(inO s6 (IntKind.wrap .i64 ((s6.length:Int)-1))).bind fun _=>(atO (IntKind.wrap .i64 ((s6.length:Int)-1)) (s6.length-1)).bind fun _=>(eQ x1.1 x10).bind fun x36=>(nJ x33 [x36] 104).bind fun x37=>(inO s6 (IntKind.wrap .i64 ((s6.length:Int)-1))).bind fun _=>(stO s6.length (IntKind.wrap .i64 ((s6.length:Int)-1)) (s6.length-1)).bind fun _=>some (.next (x32.aK,(IntKind.wrap .i64 (s5+1)),(s6.set (s6.length-1) x37))))))else(some (.stop s6))
def jw(o41:(List (List ae))):(Int×(List (List ae)))->Option (fK (Int×(List (List ae))) ((List (List ae)))):=fun(s42,s43)=>
  if(decide (s42<(o41.length:Int)))=true then((eQ s43 s42).bind fun x47=>(inO s43 s42).bind fun _=>(atO s42 (Int.toNat s42)).bind fun _=>(uR ca x47).bind fun x50=>some (.next ((IntKind.wrap .i64 (s42+1)),(s43.set (Int.toNat s42) x50))))else(some (.stop s43))
def kb(a0:ap)(a1:ar)(a2:(List ae)):Option ((List (List ae))×Int):=
  (kf a0 a1 a2).bind fun x1=>if(x1.2.2 != 0)=true then(some (([]:(List (List ae))),x1.2.2))else((gK x1.2.1).bind fun x3=>(dS (jv x3 x1 a0) (0,0,([]:(List (List ae))))).bind fun o41=>(dS (jw o41) (0,o41)).bind fun o52=>some (o52,0))
def fN(a0:(List UInt8))(a1:(List UInt8)):Option (Int):=
  if(Op.bytesLess a0 a1)=true then(some (-1))else(if(!(Op.bytesLess a0 a1||a0==a1))=true then(some 1)else(some 0))
def lg(a0:aw)(a1:aw):Option (Int):=
  (fN a0.a8 a1.a8).bind fun x1=>(fN a0.aN a1.aN).bind fun x2=>(fN a0.aq a1.aq).bind fun x3=>(fN a0.bd a1.bd).bind fun x4=>if(x1 != 0)=true then(some x1)else(if(x2 != 0)=true then(some x2)else(if(x3 != 0)=true then(some x3)else(if(x4 != 0)=true then(some x4)else(some 0))))
def jk(a0:ae)(a1:ae):Option (Int):=
  (lg a0.aD a1.aD).bind fun x1=>if(x1 != 0)=true then(some x1)else(if(decide (a0.aX<a1.aX))=true then(some (-1))else(if(decide (a0.aX>a1.aX))=true then(some 1)else(if(decide (a0.aK<a1.aK))=true then(some (-1))else(if(decide (a0.aK>a1.aK))=true then(some 1)else(if(decide (a0.bf<a1.bf))=true then(some (-1))else(if(decide (a0.bf>a1.bf))=true then(some 1)else(if(decide (a0.aQ<a1.aQ))=true then(some (-1))else(if(decide (a0.aQ>a1.aQ))=true then(some 1)else(if(decide (a0.aU<a1.aU))=true then(some (-1))else(if(decide (a0.aU>a1.aU))=true then(some 1)else(some 0)))))))))))
def lj(a0:ae)(a1:ae):Option (Int):=
  if(decide (a0.aX<a1.aX))=true then(some (-1))else(if(decide (a0.aX>a1.aX))=true then(some 1)else((jk a0 a1).bind fun x3=>some x3))
def lK(a0:(List au))(a1:au):Int->Option (fK (Int) (Int)):=fun s1=>
  if(decide (s1<(a0.length:Int)))=true then((eQ a0 s1).bind fun x5=>(lj x5.aZ a1.aZ).bind fun x6=>if(decide (x6<0))=true then(some (.next (IntKind.wrap .i64 (s1+1))))else(some (.stop s1)))else(some (.stop s1))
def l8(a0:(List au))(a1:au):Option ((List au)):=
  (dS (lK a0 a1) 0).bind fun o9=>(wD a0 0 o9).bind fun x10=>(nJ ([]:List au) x10 248).bind fun x11=>(nJ x11 [a1] 248).bind fun x12=>(wD a0 o9 (a0.length:Int)).bind fun x13=>(nJ x12 x13 248).bind fun x14=>some x14
def m9(a1:(List au)):((List au)×Int)->Option (fK ((List au)×Int) ((List au))):=fun(s1,s2)=>
  if(decide (s2<(a1.length:Int)))=true then((eQ a1 s2).bind fun x6=>(l8 s1 x6).bind fun x7=>some (.next (x7,(IntKind.wrap .i64 (s2+1)))))else(some (.stop s1))
def nZ(a0:(List au))(a1:(List au)):Option ((List au)):=
  (dS (m9 a1) (a0,0)).bind fun o9=>some o9
def jC(a0:(List ae))(a1:(List ae)):Int->Option (fK (Int) ((Unit)⊕(Bool))):=fun s2=>
  if(decide (s2<(a0.length:Int)))=true then((eQ a0 s2).bind fun x5=>(eQ a1 s2).bind fun x6=>if(!(((x5.aD.a8==x6.aD.a8)&&((x5.aD.aN==x6.aD.aN)&&((x5.aD.aq==x6.aD.aq)&&((x5.aD.bd==x6.aD.bd)&&true))))&&((x5.aX==x6.aX)&&((x5.aK==x6.aK)&&((x5.bf==x6.bf)&&((x5.aQ==x6.aQ)&&((x5.aU==x6.aU)&&true)))))))=true then(some (.stop (.inr false)))else(some (.next (IntKind.wrap .i64 (s2+1)))))else(some (.stop (.inl ())))
def fq(a0:(List ae))(a1:(List ae)):Option (Bool):=
  if((a0.length:Int) != (a1.length:Int))=true then(some false)else((dS (jC a0 a1) 0).bind fun o9=>match o9 with| .inl _=>(some true)| .inr r11=>(some r11))
def nY(a0:bc)(a1:bc):Option (Bool):=
  (fq a0.cg a1.cg).bind fun x1=>if x1=true then(if(((a0.aq.aV.fX==a1.aq.aV.fX)&&((a0.aq.aV.fY==a1.aq.aV.fY)&&((a0.aq.aV.fZ==a1.aq.aV.fZ)&&true)))&&((a0.aq.aX==a1.aq.aX)&&((a0.aq.bh==a1.aq.bh)&&((a0.aq.d5==a1.aq.d5)&&((((a0.aq.aY.aL.fX==a1.aq.aY.aL.fX)&&((a0.aq.aY.aL.fY==a1.aq.aY.aL.fY)&&((a0.aq.aY.aL.fZ==a1.aq.aY.aL.fZ)&&true)))&&(((a0.aq.aY.aF.fX==a1.aq.aY.aF.fX)&&((a0.aq.aY.aF.fY==a1.aq.aY.aF.fY)&&((a0.aq.aY.aF.fZ==a1.aq.aY.aF.fZ)&&true)))&&true))&&true)))))=true then(if((a0.bt.aL==a1.bt.aL)&&((a0.bt.aF==a1.bt.aF)&&true))=true then(some (a0.gu==a1.gu))else(some false))else(some false))else(some false)
def iz(a0:(List au))(a1:(List au)):Int->Option (fK (Int) ((Unit)⊕(Bool))):=fun s2=>
  if(decide (s2<(a0.length:Int)))=true then((eQ a0 s2).bind fun x5=>(eQ a1 s2).bind fun x6=>if(!(((x5.aZ.aD.a8==x6.aZ.aD.a8)&&((x5.aZ.aD.aN==x6.aZ.aD.aN)&&((x5.aZ.aD.aq==x6.aZ.aD.aq)&&((x5.aZ.aD.bd==x6.aZ.aD.bd)&&true))))&&((x5.aZ.aX==x6.aZ.aX)&&((x5.aZ.aK==x6.aZ.aK)&&((x5.aZ.bf==x6.aZ.bf)&&((x5.aZ.aQ==x6.aZ.aQ)&&((x5.aZ.aU==x6.aZ.aU)&&true)))))))=true then(some (.stop (.inr false)))else((eQ a0 s2).bind fun x8=>(eQ a1 s2).bind fun x9=>(nY x8.aB x9.aB).bind fun x10=>if(!x10)=true then(some (.stop (.inr false)))else(some (.next (IntKind.wrap .i64 (s2+1))))))else(some (.stop (.inl ())))
def mD(a0:(List au))(a1:(List au)):Option (Bool):=
  if((a0.length:Int) != (a1.length:Int))=true then(some false)else((dS (iz a0 a1) 0).bind fun o13=>match o13 with| .inl _=>(some true)| .inr r15=>(some r15))
def ks(s2:(List ae))(a0:(List ae))(s1:Int):Int->Option (fK (Int) (Int×Int×(List ae))):=fun s6=>
  if(decide (s6>0))=true then((inO s2 (IntKind.wrap .i64 (s6-1))).bind fun _=>(eQ s2 (IntKind.wrap .i64 (s6-1))).bind fun x14=>(eQ a0 s1).bind fun x15=>(jk x14 x15).bind fun x16=>if(decide (x16>0))=true then(some (.next (IntKind.wrap .i64 (s6-1))))else(some (.stop (s1,s6,s2))))else(some (.stop (s1,s6,s2)))
def gg(a0:(List ae))(o19:Int×Int×(List ae)):Option (fK (Int×(List ae)) ((List ae))):=
  (eQ a0 o19.1).bind fun x20=>(nJ o19.2.2 [x20] 104).bind fun x21=>(vw x21.length (IntKind.wrap .i64 (o19.2.1+1)) (x21.length:Int)).bind fun _=>(vw x21.length o19.2.1 (x21.length:Int)).bind fun _=>(xD x21.length (0+((IntKind.wrap .i64 (o19.2.1+1)):Int).toNat) (0+((x21.length:Int):Int).toNat)).bind fun _=>(vr x21 (0+(o19.2.1:Int).toNat) (0+((x21.length:Int):Int).toNat)).bind fun x25=>(eQ a0 o19.1).bind fun x27=>(inO (wC x21 (0+((IntKind.wrap .i64 (o19.2.1+1)):Int).toNat) ((0+((x21.length:Int):Int).toNat)-(0+((IntKind.wrap .i64 (o19.2.1+1)):Int).toNat)) x25) o19.2.1).bind fun _=>(sj (wC x21 (0+((IntKind.wrap .i64 (o19.2.1+1)):Int).toNat) ((0+((x21.length:Int):Int).toNat)-(0+((IntKind.wrap .i64 (o19.2.1+1)):Int).toNat)) x25) o19.2.1 x27).bind fun x30=>some (.next ((IntKind.wrap .i64 (o19.1+1)),x30))
def mC(a0:(List ae)):(Int×(List ae))->Option (fK (Int×(List ae)) ((List ae))):=fun(s1,s2)=>
  if(decide (s1<(a0.length:Int)))=true then((dS (ks s2 a0 s1) (s2.length:Int)).bind fun o19=>if(decide (o19.2.1>0))=true then((inO o19.2.2 (IntKind.wrap .i64 (o19.2.1-1))).bind fun _=>(eQ o19.2.2 (IntKind.wrap .i64 (o19.2.1-1))).bind fun x35=>(eQ a0 o19.1).bind fun x36=>if(((x35.aD.a8==x36.aD.a8)&&((x35.aD.aN==x36.aD.aN)&&((x35.aD.aq==x36.aD.aq)&&((x35.aD.bd==x36.aD.bd)&&true))))&&((x35.aX==x36.aX)&&((x35.aK==x36.aK)&&((x35.bf==x36.bf)&&((x35.aQ==x36.aQ)&&((x35.aU==x36.aU)&&true))))))=true then(some (.next ((IntKind.wrap .i64 (o19.1+1)),o19.2.2)))else(gg a0 o19))else(gg a0 o19))else(some (.stop s2))
def nX(a0:(List ae)):Option ((List ae)):=
  (dS (mC a0) (0,([]:(List ae)))).bind fun o39=>some o39
def kJ(a0:au)(d0:ae):Option (Bool):=
  some (((a0.aZ.aD.a8==d0.aD.a8)&&((a0.aZ.aD.aN==d0.aD.aN)&&((a0.aZ.aD.aq==d0.aD.aq)&&((a0.aZ.aD.bd==d0.aD.bd)&&true))))&&((a0.aZ.aX==d0.aX)&&((a0.aZ.aK==d0.aK)&&((a0.aZ.bf==d0.bf)&&((a0.aZ.aQ==d0.aQ)&&((a0.aZ.aU==d0.aU)&&true))))))
def cS(a0:(List au))(d0:ae):Int->Option (fK (Int) ((Unit)⊕(Int))):=fun s1=>
  if(decide (s1<(a0.length:Int)))=true then((eQ a0 s1).bind fun x4=>(kJ x4 d0).bind fun x5=>if x5=true then(some (.stop (.inr s1)))else(some (.next (IntKind.wrap .i64 (s1+1)))))else(some (.stop (.inl ())))
def eP(a0:(List au))(d0:ae):Option (Int):=
  (dS (cS a0 d0) 0).bind fun o8=>match o8 with| .inl _=>(some (-1))| .inr r10=>(some r10)
def im(a0:(List au))(a1:ae):Option (Int):=
  (eP a0 a1).bind fun x1=>some x1
def mM:Option (Bool):=
  (kk []).bind fun x1=>(dy 2 x1).bind fun x2=>(fk 3 x2.2).bind fun x3=>(dN 1).bind fun x4=>(eC x2.1 x3.1 [(ae.mk x4 2500 2500 2500 11 0),(ae.mk x4 2500 2500 2500 10 0)]).bind fun x5=>(eC x2.1 x3.1 []).bind fun x6=>if(x5.2.2==0)=true then(if((x5.1.length:Int)==1)=true then(if((x5.2.1.length:Int)==0)=true then((eQ x5.1 0).bind fun x10=>if(((x10.aZ.aD.a8==x4.a8)&&((x10.aZ.aD.aN==x4.aN)&&((x10.aZ.aD.aq==x4.aq)&&((x10.aZ.aD.bd==x4.bd)&&true))))&&((x10.aZ.aX==2500)&&((x10.aZ.aK==2500)&&((x10.aZ.bf==2500)&&((x10.aZ.aQ==10)&&((x10.aZ.aU==0)&&true))))))=true then((eQ x5.1 0).bind fun x12=>if((x12.aB.cg.length:Int)==2)=true then(if(x6.2.2==0)=true then(if((x6.1.length:Int)==0)=true then((im x5.1 (ae.mk x4 2500 2500 2500 10 0)).bind fun x16=>if(x16==0)=true then((im x5.1 (ae.mk x4 2500 2500 2500 11 0)).bind fun x18=>some (x18==(-1)))else(some false))else(some false))else(some false))else(some false))else(some false))else(some false))else(some false))else(some false)
def jH(x6:(List (List ae))×Int)(x2:ap×ac)(x3:ar×ac):((List au)×Int×(List ae))->Option (fK ((List au)×Int×(List ae)) (((List au)×(List ae))⊕(Bool))):=fun(s9,s10,s11)=>
  if(decide (s10<(x6.1.length:Int)))=true then((eQ x6.1 s10).bind fun x16=>(eC x2.1 x3.1 x16).bind fun x17=>if(x17.2.2 != 0)=true then(some (.stop (.inr false)))else(if((x16.length:Int)==0)=true then(some (.stop (.inr false)))else((nZ s9 x17.1).bind fun x20=>(nJ s11 x17.2.1 104).bind fun x21=>some (.next (x20,(IntKind.wrap .i64 (s10+1)),x21)))))else(some (.stop (.inl (s9,s11))))
def iZ(a0:(List Int)):Option (Bool):=
  (kk a0).bind fun x1=>(dy 3 x1).bind fun x2=>(fk 6 x2.2).bind fun x3=>(ng x2.1 x3.1 10 x3.2).bind fun x4=>(eC x2.1 x3.1 x4.1).bind fun x5=>(kb x2.1 x3.1 x4.1).bind fun x6=>if(x5.2.2 != 0)=true then(some false)else(if(x6.2 != 0)=true then(some false)else((dS (jH x6 x2 x3) (([]:(List au)),0,([]:(List ae)))).bind fun o23=>match o23 with| .inl y24=>((mD x5.1 y24.1).bind fun x26=>if x26=true then((nX y24.2).bind fun x28=>(fq x5.2.1 x28).bind fun x29=>if x29=true then((mM ).bind fun x31=>some x31)else(some false))else(some false))| .inr r25=>(some r25)))
end
end Go.Dw.Ek
