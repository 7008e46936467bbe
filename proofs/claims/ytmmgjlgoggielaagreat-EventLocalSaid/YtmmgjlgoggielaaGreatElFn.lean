
import Derived.Test.YtmmgjlgoggielaaGreatDwNest
import Derived.Test.YtmmgjlgoggielaaGreatDwSortIP
import Derived.Test.YtmmgjlgoggielaaGreatDwSortP

namespace Go.Dw.El
open Go.Dw
noncomputable section
structure ac where
  fL:(List Int)
  fAt:Int
  deriving DecidableEq
def ac.pd(x:ac):PD:= .agg [.lst (x.fL.map (PD.int .i64)),.int .i64 x.fAt]
structure aa where
  fX:Int
  fY:Int
  fZ:Int
  deriving DecidableEq
def aa.pd(x:aa):PD:= .agg [.int .i64 x.fX,.int .i64 x.fY,.int .i64 x.fZ]
structure ah where
  aK:aa
  aF:aa
  deriving DecidableEq
def ah.pd(x:ah):PD:= .agg [.int .i64 x.aK.fX,.int .i64 x.aK.fY,.int .i64 x.aK.fZ,.int .i64 x.aF.fX,.int .i64 x.aF.fY,.int .i64 x.aF.fZ]
structure aI where
  bn:Int
  aK:(List Int)
  aF:(List Int)
  deriving DecidableEq
def aI.pd(x:aI):PD:= .agg [.int .i64 x.bn,.lst (x.aK.map (PD.int .i64)),.lst (x.aF.map (PD.int .i64))]
structure aJ where
  aN:ah
  bi:aI
  cW:Int
  bR:Int
  dF:Int
  lw:Int
  cv:Int
  deriving DecidableEq
def aJ.pd(x:aJ):PD:= .agg [.int .i64 x.aN.aK.fX,.int .i64 x.aN.aK.fY,.int .i64 x.aN.aK.fZ,.int .i64 x.aN.aF.fX,.int .i64 x.aN.aF.fY,.int .i64 x.aN.aF.fZ,.int .i64 x.bi.bn,.lst (x.bi.aK.map (PD.int .i64)),.lst (x.bi.aF.map (PD.int .i64)),.int .i64 x.cW,.int .i64 x.bR,.int .i64 x.dF,.int .i64 x.lw,.int .i64 x.cv]
structure bu where
  bY:aI
  bG:Int
  bw:Int
  deriving DecidableEq
def bu.pd(x:bu):PD:= .agg [.int .i64 x.bY.bn,.lst (x.bY.aK.map (PD.int .i64)),.lst (x.bY.aF.map (PD.int .i64)),.int .i64 x.bG,.int .i64 x.bw]
structure aq where
  ai:aJ
  eZ:bu
  bR:Int
  deriving DecidableEq
def aq.pd(x:aq):PD:= .agg [.int .i64 x.ai.aN.aK.fX,.int .i64 x.ai.aN.aK.fY,.int .i64 x.ai.aN.aK.fZ,.int .i64 x.ai.aN.aF.fX,.int .i64 x.ai.aN.aF.fY,.int .i64 x.ai.aN.aF.fZ,.int .i64 x.ai.bi.bn,.lst (x.ai.bi.aK.map (PD.int .i64)),.lst (x.ai.bi.aF.map (PD.int .i64)),.int .i64 x.ai.cW,.int .i64 x.ai.bR,.int .i64 x.ai.dF,.int .i64 x.ai.lw,.int .i64 x.ai.cv,.int .i64 x.eZ.bY.bn,.lst (x.eZ.bY.aK.map (PD.int .i64)),.lst (x.eZ.bY.aF.map (PD.int .i64)),.int .i64 x.eZ.bG,.int .i64 x.eZ.bw,.int .i64 x.bR]
structure aw where
  bc:(List UInt8)
  aO:(List UInt8)
  ap:(List UInt8)
  bd:(List UInt8)
  deriving DecidableEq
def aw.pd(x:aw):PD:= .agg [.str x.bc,.str x.aO,.str x.ap,.str x.bd]
structure bo where
  bG:Int
  bw:Int
  deriving DecidableEq
def bo.pd(x:bo):PD:= .agg [.int .i64 x.bG,.int .i64 x.bw]
structure aW where
  a0:Int
  a1:Int
  a2:Int
  deriving DecidableEq
def aW.pd(x:aW):PD:= .agg [.int .i64 x.a0,.int .i64 x.a1,.int .i64 x.a2]
structure aH where
  fM:Int
  bG:aW
  bw:aW
  dG:(List Int)
  dt:Int
  dI:Int
  deriving DecidableEq
def aH.pd(x:aH):PD:= .agg [.int .i64 x.fM,.int .i64 x.bG.a0,.int .i64 x.bG.a1,.int .i64 x.bG.a2,.int .i64 x.bw.a0,.int .i64 x.bw.a1,.int .i64 x.bw.a2,.lst (x.dG.map (PD.int .i64)),.int .i64 x.dt,.int .i64 x.dI]
structure aQ where
  bC:(List aH)
  deriving DecidableEq
def aQ.pd(x:aQ):PD:= .agg [.lst (x.bC.map aH.pd)]
structure av where
  bp:Int
  fTo:Int
  gm:bo
  bj:aa
  bL:aQ
  deriving DecidableEq
def av.pd(x:av):PD:= .agg [.int .i64 x.bp,.int .i64 x.fTo,.int .i64 x.gm.bG,.int .i64 x.gm.bw,.int .i64 x.bj.fX,.int .i64 x.bj.fY,.int .i64 x.bj.fZ,.lst (x.bL.bC.map aH.pd)]
structure aA where
  aD:aw
  bM:(List av)
  deriving DecidableEq
def aA.pd(x:aA):PD:= .agg [.str x.aD.bc,.str x.aD.aO,.str x.aD.ap,.str x.aD.bd,.lst (x.bM.map av.pd)]
structure ar where
  aU:(List aA)
  deriving DecidableEq
def ar.pd(x:ar):PD:= .agg [.lst (x.aU.map aA.pd)]
structure ae where
  aD:aw
  aX:Int
  aM:Int
  bf:Int
  aP:Int
  aT:Int
  deriving DecidableEq
def ae.pd(x:ae):PD:= .agg [.str x.aD.bc,.str x.aD.aO,.str x.aD.ap,.str x.aD.bd,.int .i64 x.aX,.int .i64 x.aM,.int .i64 x.bf,.int .i64 x.aP,.int .i64 x.aT]
structure aj where
  aV:aa
  aX:Int
  bh:Int
  dW:Int
  aY:ah
  deriving DecidableEq
def aj.pd(x:aj):PD:= .agg [.int .i64 x.aV.fX,.int .i64 x.aV.fY,.int .i64 x.aV.fZ,.int .i64 x.aX,.int .i64 x.bh,.int .i64 x.dW,.int .i64 x.aY.aK.fX,.int .i64 x.aY.aK.fY,.int .i64 x.aY.aK.fZ,.int .i64 x.aY.aF.fX,.int .i64 x.aY.aF.fY,.int .i64 x.aY.aF.fZ]
structure az where
  aK:Int
  aF:Int
  deriving DecidableEq
def az.pd(x:az):PD:= .agg [.int .i64 x.aK,.int .i64 x.aF]
structure ba where
  ce:(List ae)
  ap:aj
  bt:az
  gr:Int
  deriving DecidableEq
def ba.pd(x:ba):PD:= .agg [.lst (x.ce.map ae.pd),.int .i64 x.ap.aV.fX,.int .i64 x.ap.aV.fY,.int .i64 x.ap.aV.fZ,.int .i64 x.ap.aX,.int .i64 x.ap.bh,.int .i64 x.ap.dW,.int .i64 x.ap.aY.aK.fX,.int .i64 x.ap.aY.aK.fY,.int .i64 x.ap.aY.aK.fZ,.int .i64 x.ap.aY.aF.fX,.int .i64 x.ap.aY.aF.fY,.int .i64 x.ap.aY.aF.fZ,.int .i64 x.bt.aK,.int .i64 x.bt.aF,.int .i64 x.gr]
structure au where
  aZ:ae
  aB:ba
  deriving DecidableEq
def au.pd(x:au):PD:= .agg [.str x.aZ.aD.bc,.str x.aZ.aD.aO,.str x.aZ.aD.ap,.str x.aZ.aD.bd,.int .i64 x.aZ.aX,.int .i64 x.aZ.aM,.int .i64 x.aZ.bf,.int .i64 x.aZ.aP,.int .i64 x.aZ.aT,.lst (x.aB.ce.map ae.pd),.int .i64 x.aB.ap.aV.fX,.int .i64 x.aB.ap.aV.fY,.int .i64 x.aB.ap.aV.fZ,.int .i64 x.aB.ap.aX,.int .i64 x.aB.ap.bh,.int .i64 x.aB.ap.dW,.int .i64 x.aB.ap.aY.aK.fX,.int .i64 x.aB.ap.aY.aK.fY,.int .i64 x.aB.ap.aY.aK.fZ,.int .i64 x.aB.ap.aY.aF.fX,.int .i64 x.aB.ap.aY.aF.fY,.int .i64 x.aB.ap.aY.aF.fZ,.int .i64 x.aB.bt.aK,.int .i64 x.aB.bt.aF,.int .i64 x.aB.gr]
structure al where
  aO:aa
  aM:Int
  bf:Int
  bF:Int
  deriving DecidableEq
def al.pd(x:al):PD:= .agg [.int .i64 x.aO.fX,.int .i64 x.aO.fY,.int .i64 x.aO.fZ,.int .i64 x.aM,.int .i64 x.bf,.int .i64 x.bF]
structure aG where
  bp:Int
  fTo:Int
  deriving DecidableEq
def aG.pd(x:aG):PD:= .agg [.int .i64 x.bp,.int .i64 x.fTo]
structure a7 where
  cm:(List Int)
  aV:aa
  aX:Int
  deriving DecidableEq
def a7.pd(x:a7):PD:= .agg [.lst (x.cm.map (PD.int .i64)),.int .i64 x.aV.fX,.int .i64 x.aV.fY,.int .i64 x.aV.fZ,.int .i64 x.aX]
structure bg where
  nl:(List Int)
  fback:(List Int)
  deriving DecidableEq
def bg.pd(x:bg):PD:= .agg [.lst (x.nl.map (PD.int .i64)),.lst (x.fback.map (PD.int .i64))]
structure ag where
  aN:ah
  bi:aI
  a8:(List al)
  cW:Int
  deriving DecidableEq
def ag.pd(x:ag):PD:= .agg [.int .i64 x.aN.aK.fX,.int .i64 x.aN.aK.fY,.int .i64 x.aN.aK.fZ,.int .i64 x.aN.aF.fX,.int .i64 x.aN.aF.fY,.int .i64 x.aN.aF.fZ,.int .i64 x.bi.bn,.lst (x.bi.aK.map (PD.int .i64)),.lst (x.bi.aF.map (PD.int .i64)),.lst (x.a8.map al.pd),.int .i64 x.cW]
structure ak where
  jw:ah
  cf:Int
  gt:Int
  deriving DecidableEq
def ak.pd(x:ak):PD:= .agg [.int .i64 x.jw.aK.fX,.int .i64 x.jw.aK.fY,.int .i64 x.jw.aK.fZ,.int .i64 x.jw.aF.fX,.int .i64 x.jw.aF.fY,.int .i64 x.jw.aF.fZ,.int .i64 x.cf,.int .i64 x.gt]
structure bP where
  fp:ag
  kb:(List ak)
  gt:Int
  ftaken:Int
  ffound:Bool
  bS:aj
  deriving DecidableEq
def bP.pd(x:bP):PD:= .agg [.int .i64 x.fp.aN.aK.fX,.int .i64 x.fp.aN.aK.fY,.int .i64 x.fp.aN.aK.fZ,.int .i64 x.fp.aN.aF.fX,.int .i64 x.fp.aN.aF.fY,.int .i64 x.fp.aN.aF.fZ,.int .i64 x.fp.bi.bn,.lst (x.fp.bi.aK.map (PD.int .i64)),.lst (x.fp.bi.aF.map (PD.int .i64)),.lst (x.fp.a8.map al.pd),.int .i64 x.fp.cW,.lst (x.kb.map ak.pd),.int .i64 x.gt,.int .i64 x.ftaken,.bool x.ffound,.int .i64 x.bS.aV.fX,.int .i64 x.bS.aV.fY,.int .i64 x.bS.aV.fZ,.int .i64 x.bS.aX,.int .i64 x.bS.bh,.int .i64 x.bS.dW,.int .i64 x.bS.aY.aK.fX,.int .i64 x.bS.aY.aK.fY,.int .i64 x.bS.aY.aK.fZ,.int .i64 x.bS.aY.aF.fX,.int .i64 x.bS.aY.aF.fY,.int .i64 x.bS.aY.aF.fZ]
structure aS where
  dl:(List ae)
  c7:(List al)
  jn:(List av)
  deriving DecidableEq
def aS.pd(x:aS):PD:= .agg [.lst (x.dl.map ae.pd),.lst (x.c7.map al.pd),.lst (x.jn.map av.pd)]
structure aL where
  bG:(List Int)
  bw:(List Int)
  deriving DecidableEq
def aL.pd(x:aL):PD:= .agg [.lst (x.bG.map (PD.int .i64)),.lst (x.bw.map (PD.int .i64))]
structure eP where
  deriving DecidableEq
def eP.pd(x:eP):PD:= .agg []
structure A4_Int where
  a0:Int
  a1:Int
  a2:Int
  a3:Int
  deriving DecidableEq
def A4_Int.pd(x:A4_Int):PD:= .agg [.int .i64 x.a0,.int .i64 x.a1,.int .i64 x.a2,.int .i64 x.a3]
structure bD where
  a0:Int
  a1:Int
  deriving DecidableEq
def bD.pd(x:bD):PD:= .agg [.int .i64 x.a0,.int .i64 x.a1]
structure dz where
  a0:bD
  a1:bD
  a2:bD
  a3:bD
  a4:bD
  deriving DecidableEq
def dz.pd(x:dz):PD:= .agg [.int .i64 x.a0.a0,.int .i64 x.a0.a1,.int .i64 x.a1.a0,.int .i64 x.a1.a1,.int .i64 x.a2.a0,.int .i64 x.a2.a1,.int .i64 x.a3.a0,.int .i64 x.a3.a1,.int .i64 x.a4.a0,.int .i64 x.a4.a1]
def kd(a0:(List Int)):Option (ac):=
  (xi a0 0 (if 2000<(a0.length:Int)then 2000 else(a0.length:Int))).bind fun x1=>some (ac.mk x1 0)
def Src_Raw(d0:ac):Option (Int×ac):=
  if(decide (d0.fAt>=(d0.fL.length:Int)))=true then(some (0,d0))else((qu d0.fL (IntKind.wrap .i64 ((IntKind.wrap .i64 (d0.fAt+1))-1))).bind fun x2=>some (x2,(ac.mk d0.fL (IntKind.wrap .i64 (d0.fAt+1)))))
def nr(a0:Int)(a1:Int):Option (Int):=
  if(decide (a1<1))=true then(some 0)else((wi a0 a1).bind fun x2=>if(decide (x2<0))=true then(some (IntKind.wrap .i64 (x2+a1)))else(some x2))
def cH(a1:Int)(d0:ac):Option (Int×ac):=
  (Src_Raw d0).bind fun x1=>(nr x1.1 a1).bind fun x2=>some (x2,x1.2)
def jC(a1:Int)(d0:ac):Option (aa×ac):=
  (cH (IntKind.wrap .i64 ((IntKind.wrap .i64 (2*a1))+1)) d0).bind fun x1=>(cH (IntKind.wrap .i64 ((IntKind.wrap .i64 (2*a1))+1)) x1.2).bind fun x2=>(cH (IntKind.wrap .i64 (a1+1)) x2.2).bind fun x3=>some ((aa.mk (IntKind.wrap .i64 (x1.1-a1)) (IntKind.wrap .i64 (x2.1-a1)) x3.1),x3.2)
def nD(a1:Int)(a2:Int)(d0:ac):Option (ah×ac):=
  (jC a1 d0).bind fun x1=>(cH (IntKind.wrap .i64 (a2+1)) x1.2).bind fun x2=>(cH (IntKind.wrap .i64 (a2+1)) x2.2).bind fun x3=>(cH (IntKind.wrap .i64 (a2+1)) x3.2).bind fun x4=>some ((ah.mk x1.1 (aa.mk (IntKind.wrap .i64 (x1.1.fX+x2.1)) (IntKind.wrap .i64 (x1.1.fY+x3.1)) (IntKind.wrap .i64 (x1.1.fZ+x4.1)))),x4.2)
def de(a1:(List Int))(d0:ac):Option (Int×ac):=
  (cH (a1.length:Int) d0).bind fun x1=>(qu a1 x1.1).bind fun x2=>some (x2,x1.2)
def jc(x1:Int×ac):(Int×Int×Int×(List Int)×Int×(List Int)×(List Int))->Option (qw (Int×Int×Int×(List Int)×Int×(List Int)×(List Int)) ((List Int)×Int×(List Int)×(List Int))):=fun(s3,s4,s5,s6,s7,s8,s9)=>
  (sj .i64 400 x1.1).bind fun x15=>(cH 3 (ac.mk s6 s7)).bind fun x16=>if(decide (s5<=(IntKind.wrap .i64 (x15+x16.1))))=true then((rF s8 [s3] 8).bind fun x18=>(rF s9 [s4] 8).bind fun x19=>(de [0,10,20,35] x16.2).bind fun x20=>(sj .i64 x1.1 4).bind fun x21=>(de [0,0,5,30] x20.2).bind fun x22=>some (.next ((IntKind.wrap .i64 (s3+(IntKind.wrap .i64 (x20.1+x21)))),(IntKind.wrap .i64 ((if(IntKind.wrap .i64 (s3+(IntKind.wrap .i64 (x20.1+x21))))>s4 then(IntKind.wrap .i64 (s3+(IntKind.wrap .i64 (x20.1+x21))))else s4)+x22.1)),(IntKind.wrap .i64 (s5+1)),x22.2.fL,x22.2.fAt,x18,x19)))else(some (.stop (x16.2.fL,x16.2.fAt,s8,s9)))
def iI(d0:ac):Option (aI×ac):=
  (de [20,25,40,100] d0).bind fun x1=>(cH 3 x1.2).bind fun x2=>(py (jc x1) (0,x2.1,0,x2.2.fL,x2.2.fAt,([]:(List Int)),([]:(List Int)))).bind fun o24=>some ((aI.mk x1.1 o24.2.2.1 o24.2.2.2),(ac.mk o24.1 o24.2.1))
def dE(a1:Int)(d0:ac):Option (aJ×ac):=
  (nD 20 a1 d0).bind fun x1=>(iI x1.2).bind fun x2=>(de [10,50,200] x2.2).bind fun x3=>(de [0,0,10,40] x3.2).bind fun x4=>(de [0,50,200,400] x4.2).bind fun x5=>(de [0,5,20] x5.2).bind fun x6=>(cH 2 x6.2).bind fun x7=>some ((aJ.mk x1.1 x2.1 x3.1 x4.1 x5.1 x6.1 (IntKind.wrap .i64 (2+x7.1))),x7.2)
def kT(x1:aI×ac):(Int×(List Int)×(List Int))->Option (qw (Int×(List Int)×(List Int)) ((List Int)×(List Int))):=fun(s4,s5,s6)=>
  if(decide (s4<(x1.1.aK.length:Int)))=true then((inO s5 s4).bind fun _=>(qu s5 s4).bind fun x13=>(sj .i64 x13 3).bind fun x14=>(inO s6 s4).bind fun _=>(qu s6 s4).bind fun x17=>(sj .i64 x17 3).bind fun x18=>(inO s5 s4).bind fun _=>(tC s5 s4 x14).bind fun x21=>(inO s6 s4).bind fun _=>(tC s6 s4 x18).bind fun x24=>some (.next ((IntKind.wrap .i64 (s4+1)),x21,x24)))else(some (.stop (s5,s6)))
def jD(d0:ac):Option (bu×ac):=
  (iI d0).bind fun x1=>(cH 20 x1.2).bind fun x2=>(cH 9 x2.2).bind fun x3=>(py (kT x1) (0,x1.1.aK,x1.1.aF)).bind fun o26=>some ((bu.mk (aI.mk x1.1.bn o26.1 o26.2) x2.1 (IntKind.wrap .i64 (1+x3.1))),x3.2)
def dp(a1:Int)(d0:ac):Option (aq×ac):=
  (dE a1 d0).bind fun x1=>(jD x1.2).bind fun x2=>(de [0,0,10,40] x2.2).bind fun x3=>some ((aq.mk x1.1 x2.1 x3.1),x3.2)
def iH:(Int×(List Int)×Int×(List aH))->Option (qw (Int×(List Int)×Int×(List aH)) ((List Int)×Int×(List aH))):=fun(s2,s3,s4,s5)=>
  if(decide (s2>0))=true then((cH 3 (ac.mk s3 s4)).bind fun x11=>if(x11.1==0)=true then((de [0,1,9,99,1048575] x11.2).bind fun x13=>(de [0,0,2,9,999] x13.2).bind fun x14=>(rF s5 [(aH.mk x11.1 (aW.mk (IntKind.wrap .i64 (1+x13.1)) 0 0) (aW.mk (IntKind.wrap .i64 (1+x14.1)) 0 0) [] 0 0)] 96).bind fun x15=>some (.next ((IntKind.wrap .i64 (s2-1)),x14.2.fL,x14.2.fAt,x15)))else(if(x11.1==1)=true then((cH 5 x11.2).bind fun x17=>(cH 7 x17.2).bind fun x18=>(cH 3 x18.2).bind fun x19=>(cH 5 x19.2).bind fun x20=>(cH 7 x20.2).bind fun x21=>(cH 3 x21.2).bind fun x22=>(rF s5 [(aH.mk x11.1 (aW.mk x17.1 (IntKind.wrap .i64 (x18.1-3)) (IntKind.wrap .i64 (x19.1-1))) (aW.mk (IntKind.wrap .i64 (1+x20.1)) x21.1 x22.1) [] 0 0)] 96).bind fun x23=>some (.next ((IntKind.wrap .i64 (s2-1)),x22.2.fL,x22.2.fAt,x23)))else((cH 3 x11.2).bind fun x24=>(cH 4 x24.2).bind fun x25=>(rF s5 [(aH.mk x11.1 (aW.mk 0 0 0) (aW.mk 0 0 0) [(IntKind.wrap .i64 (1+x24.1)),2,1] 1 x25.1)] 96).bind fun x26=>some (.next ((IntKind.wrap .i64 (s2-1)),x25.2.fL,x25.2.fAt,x26)))))else(some (.stop (s3,s4,s5)))
def eD(d0:ac):Option (aQ×ac):=
  (cH 4 d0).bind fun x1=>(py (iH) (x1.1,x1.2.fL,x1.2.fAt,([]:(List aH)))).bind fun o28=>some ((aQ.mk o28.2.2),(ac.mk o28.1 o28.2.1))
def dH(a0:Int):Option (aw):=
  (nr a0 6).bind fun x1=>(qu [[83,49],[83,50],[83,51],[83,52],[83,53],[83,54]] x1).bind fun x2=>some (aw.mk [65,66] x2 [48,48] [66,72,90])
def jb(a1:Int):(Int×(List Int)×Int×(List aA))->Option (qw (Int×(List Int)×Int×(List aA)) ((List Int)×Int×(List aA))):=fun(s1,s2,s3,s4)=>
  if(decide (s1<a1))=true then(if(decide (s1<6))=true then((jC 60 (ac.mk s2 s3)).bind fun x11=>(eD x11.2).bind fun x12=>(dH s1).bind fun x13=>(cH 6 x12.2).bind fun x14=>if(x14.1==0)=true then((cH 500 x14.2).bind fun x16=>(jC 60 x16.2).bind fun x17=>(eD x17.2).bind fun x18=>(inO [(av.mk 0 100000 (bo.mk 100 1) x11.1 x12.1)] 0).bind fun _=>(xq [(av.mk 0 100000 (bo.mk 100 1) x11.1 x12.1)] 0 (fun(z22:av)=>(av.mk z22.bp (IntKind.wrap .i64 (1500+x16.1)) z22.gm z22.bj z22.bL))).bind fun x21=>(rF x21 [(av.mk (IntKind.wrap .i64 (1500+x16.1)) 100000 (bo.mk 100 1) x17.1 x18.1)] 80).bind fun x23=>(rF s4 [(aA.mk x13 x23)] 88).bind fun x24=>some (.next ((IntKind.wrap .i64 (s1+1)),x18.2.fL,x18.2.fAt,x24)))else(if(x14.1==1)=true then((cH 1500 x14.2).bind fun x26=>(inO [(av.mk 0 100000 (bo.mk 100 1) x11.1 x12.1)] 0).bind fun _=>(xq [(av.mk 0 100000 (bo.mk 100 1) x11.1 x12.1)] 0 (fun(z30:av)=>(av.mk x26.1 z30.fTo z30.gm z30.bj z30.bL))).bind fun x29=>(rF s4 [(aA.mk x13 x29)] 88).bind fun x31=>some (.next ((IntKind.wrap .i64 (s1+1)),x26.2.fL,x26.2.fAt,x31)))else((rF s4 [(aA.mk x13 [(av.mk 0 100000 (bo.mk 100 1) x11.1 x12.1)])] 88).bind fun x32=>some (.next ((IntKind.wrap .i64 (s1+1)),x14.2.fL,x14.2.fAt,x32)))))else(some (.stop (s2,s3,s4))))else(some (.stop (s2,s3,s4)))
def fT(a1:Int)(d0:ac):Option (ar×ac):=
  (py (jb a1) (0,d0.fL,d0.fAt,([]:(List aA)))).bind fun o34=>some ((ar.mk o34.2.2),(ac.mk o34.1 o34.2.1))
def lZ(a1:Int)(a2:Int)(d0:ac):Option (Int×ac):=
  (cH (IntKind.wrap .i64 ((IntKind.wrap .i64 (a2-a1))+1)) d0).bind fun x1=>some ((IntKind.wrap .i64 (a1+x1.1)),x1.2)
def nc(a1:ah)(d0:ac):Option (aa×ac):=
  (lZ a1.aK.fX a1.aF.fX d0).bind fun x1=>(lZ a1.aK.fY a1.aF.fY x1.2).bind fun x2=>(lZ a1.aK.fZ a1.aF.fZ x2.2).bind fun x3=>some ((aa.mk x1.1 x2.1 x3.1),x3.2)
def oB(x4:aA)(a1:aw)(a2:Int)(s1:Int):Int->Option (qw (Int) ((Int)⊕(aa×Bool))):=fun s5=>
  if(decide (s5<(x4.bM.length:Int)))=true then((qu x4.bM s5).bind fun x9=>if((x4.aD.bc==a1.bc)&&((x4.aD.aO==a1.aO)&&((x4.aD.ap==a1.ap)&&((x4.aD.bd==a1.bd)&&true))))=true then(if(decide (x9.bp<=a2))=true then(if(decide (a2<x9.fTo))=true then(some (.stop (.inr (x9.bj,true))))else(some (.next (IntKind.wrap .i64 (s5+1)))))else(some (.next (IntKind.wrap .i64 (s5+1)))))else(some (.next (IntKind.wrap .i64 (s5+1)))))else(some (.stop (.inl s1)))
def oC(a0:ar)(a1:aw)(a2:Int):Int->Option (qw (Int) ((Unit)⊕(aa×Bool))):=fun s1=>
  if(decide (s1<(a0.aU.length:Int)))=true then((qu a0.aU s1).bind fun x4=>(py (oB x4 a1 a2 s1) 0).bind fun o14=>match o14 with| .inl y15=>(some (.next (IntKind.wrap .i64 (y15+1))))| .inr r16=>(some (.stop (.inr r16))))else(some (.stop (.inl ())))
def nS(a0:ar)(a1:aw)(a2:Int):Option (aa×Bool):=
  (py (oC a0 a1 a2) 0).bind fun o18=>match o18 with| .inl _=>(some ((aa.mk 0 0 0),false))| .inr r20=>(some r20)
def oZ(a0:Int):Option (Int):=
  some (IntKind.wrap .i64 (a0*a0))
def fH(x18:aw)(x19:Int×ac)(x20:Int×ac)(j22:Int)(j23:Int)(j24:(List Int))(j25:Int)(j26:(List ae))(j27:Int)(j28:Int)(j29:Int)(j30:Int):Option (qw (Int×Int×(List Int)×Int×(List ae)×Int×Int×Int) ((List ae)×(List Int)×Int)):=
  (cH 5 (ac.mk j24 j25)).bind fun x31=>(cH 5 x31.2).bind fun x32=>(rF j26 [(ae.mk x18 (IntKind.wrap .i64 (j30+x31.1)) j30 (IntKind.wrap .i64 ((IntKind.wrap .i64 (j30+x31.1))+x32.1)) x19.1 (IntKind.wrap .i64 (x20.1-1)))] 104).bind fun x33=>some (.next (j22,(IntKind.wrap .i64 (j23-1)),x32.2.fL,x32.2.fAt,x33,j27,j28,j29))
def mS(x40:aa×Bool)(s9:Int)(s10:Int)(s11:Int)(s4:Int)(s5:Int)(s8:(List ae)):Int->Option (qw (Int) (Int×Int×Int×(List ae)×Int×Int×Int)):=fun s42=>
  (oZ (IntKind.wrap .i64 (x40.1.fX-s9))).bind fun x51=>(oZ (IntKind.wrap .i64 (x40.1.fY-s10))).bind fun x52=>(oZ (IntKind.wrap .i64 (x40.1.fZ-s11))).bind fun x53=>if(decide ((IntKind.wrap .i64 (s42*s42))<(IntKind.wrap .i64 ((IntKind.wrap .i64 (x51+x52))+x53))))=true then(some (.next (IntKind.wrap .i64 (s42+1))))else(some (.stop (s4,s5,s42,s8,s9,s10,s11)))
def pA(a1:aq)(a2:ar):(Int×Int×(List Int)×Int×(List ae)×Int×Int×Int)->Option (qw (Int×Int×(List Int)×Int×(List ae)×Int×Int×Int) ((List ae)×(List Int)×Int)):=fun(s4,s5,s6,s7,s8,s9,s10,s11)=>
  if(decide (s5>0))=true then((cH 6 (ac.mk s6 s7)).bind fun x17=>(dH x17.1).bind fun x18=>(de [0,1,50,1000,1048576] x17.2).bind fun x19=>(cH 3 x19.2).bind fun x20=>(cH 2000 x20.2).bind fun x21=>(cH 6 x21.2).bind fun x35=>if(x35.1==0)=true then((nc a1.ai.aN x35.2).bind fun x37=>(cH 900 x37.2).bind fun x38=>fH x18 x19 x20 (IntKind.wrap .i64 (s4+x38.1)) s5 x38.2.fL x38.2.fAt s8 x37.1.fX x37.1.fY x37.1.fZ (IntKind.wrap .i64 (1000+x21.1)))else(if(x35.1==1)=true then(fH x18 x19 x20 s4 s5 x35.2.fL x35.2.fAt s8 s9 s10 s11 (IntKind.wrap .i64 (1000+x21.1)))else((nS a2 x18 s4).bind fun x40=>if x40.2=true then((py (mS x40 s9 s10 s11 s4 s5 s8) 0).bind fun o56=>(sj .i64 o56.2.2.1 a1.ai.bi.bn).bind fun x57=>(qu a1.ai.bi.aK (if(IntKind.wrap .i64 ((a1.ai.bi.aK.length:Int)-1))<x57 then(IntKind.wrap .i64 ((a1.ai.bi.aK.length:Int)-1))else x57)).bind fun x58=>(cH 6 x35.2).bind fun x59=>fH x18 x19 x20 o56.1 o56.2.1 x59.2.fL x59.2.fAt o56.2.2.2.1 o56.2.2.2.2.1 o56.2.2.2.2.2.1 o56.2.2.2.2.2.2 (IntKind.wrap .i64 ((IntKind.wrap .i64 (o56.1+x58))+x59.1)))else(fH x18 x19 x20 s4 s5 x35.2.fL x35.2.fAt s8 s9 s10 s11 (IntKind.wrap .i64 (1000+x21.1))))))else(some (.stop (s8,s6,s7)))
def lY(a1:aq)(a2:ar)(a3:Int)(d0:ac):Option ((List ae)×ac):=
  (nc a1.ai.aN d0).bind fun x1=>(cH 500 x1.2).bind fun x2=>(cH (IntKind.wrap .i64 (a3+1)) x2.2).bind fun x3=>(py (pA a1 a2) ((IntKind.wrap .i64 (1000+x2.1)),x3.1,x3.2.fL,x3.2.fAt,([]:(List ae)),x1.1.fX,x1.1.fY,x1.1.fZ)).bind fun o61=>some (o61.1,(ac.mk o61.2.1 o61.2.2))
def bv(a0:aa):Option (aW):=
  some (aW.mk a0.fX a0.fY a0.fZ)
def cJ(a0:aa):Option (Bool):=
  (bv a0).bind fun x1=>if(decide (x1.a0<(-1048576)))=true then(some false)else(if(decide (x1.a0>1048576))=true then(some false)else(if(decide (x1.a1<(-1048576)))=true then(some false)else(if(decide (x1.a1>1048576))=true then(some false)else(if(decide (x1.a2<(-16384)))=true then(some false)else(if(decide (x1.a2>1048576))=true then(some false)else(some true))))))
def bz(a0:ah):Option (Bool):=
  (cJ a0.aK).bind fun x1=>if(!x1)=true then(some false)else((cJ a0.aF).bind fun x3=>if(!x3)=true then(some false)else((bv a0.aF).bind fun x5=>(bv a0.aK).bind fun x6=>if(decide (x6.a0>x5.a0))=true then(some false)else(if(decide (x6.a1>x5.a1))=true then(some false)else(if(decide (x6.a2>x5.a2))=true then(some false)else(some true)))))
def ja(a0:aI):(Int×Int×Int)->Option (qw (Int×Int×Int) ((Unit)⊕(Int))):=fun(s6,s7,s8)=>
  if(decide (s8<(a0.aK.length:Int)))=true then((qu a0.aK s8).bind fun x11=>if(decide (x11<s6))=true then(some (.stop (.inr 21)))else((qu a0.aF s8).bind fun x13=>if(decide (x13<s7))=true then(some (.stop (.inr 21)))else((qu a0.aK s8).bind fun x15=>(qu a0.aF s8).bind fun x16=>if(decide (x15>x16))=true then(some (.stop (.inr 21)))else((qu a0.aF s8).bind fun x18=>if(decide (x18>1099511627776))=true then(some (.stop (.inr 21)))else((qu a0.aK s8).bind fun x20=>(qu a0.aF s8).bind fun x21=>some (.next (x20,x21,(IntKind.wrap .i64 (s8+1)))))))))else(some (.stop (.inl ())))
def cy(a0:aI):Option (Int):=
  if(decide (a0.bn<1))=true then(some 21)else(if(decide (a0.bn>1048576))=true then(some 21)else(if((a0.aK.length:Int) != (a0.aF.length:Int))=true then(some 21)else(if(decide ((a0.aK.length:Int)<2))=true then(some 21)else(if(decide ((a0.aK.length:Int)>256))=true then(some 21)else((py (ja a0) (0,0,0)).bind fun o23=>match o23 with| .inl _=>(some 0)| .inr r25=>(some r25))))))
def dS(a0:Int)(a1:Int)(a2:Int):Option (Bool):=
  if(decide (a0>=a1))=true then(some (decide (a0<=a2)))else(some false)
def dK(a0:al):Option (Bool):=
  (cJ a0.aO).bind fun x1=>if x1=true then(if(decide (a0.aM>=0))=true then(if(decide (a0.aM<=a0.bf))=true then(if(decide (a0.bf<=18014398509481984))=true then(if(decide (a0.bF>=1))=true then(some (decide (a0.bF<=100)))else(some false))else(some false))else(some false))else(some false))else(some false)
def eT(a0:Int)(a1:Int)(a2:Int):Option (Int):=
  some (if 0>(if(IntKind.wrap .i64 (a0-a2))>(IntKind.wrap .i64 (a1-a0))then(IntKind.wrap .i64 (a0-a2))else(IntKind.wrap .i64 (a1-a0)))then 0 else(if(IntKind.wrap .i64 (a0-a2))>(IntKind.wrap .i64 (a1-a0))then(IntKind.wrap .i64 (a0-a2))else(IntKind.wrap .i64 (a1-a0))))
def gx(a0:ah)(a1:aa):Option (Int):=
  (bz a0).bind fun x1=>if(!x1)=true then(some 0)else((cJ a1).bind fun x3=>if(!x3)=true then(some 0)else((bv a0.aK).bind fun x5=>(bv a0.aF).bind fun x6=>(bv a1).bind fun x7=>(eT x7.a0 x5.a0 x6.a0).bind fun x8=>(eT x7.a1 x5.a1 x6.a1).bind fun x9=>(eT x7.a2 x5.a2 x6.a2).bind fun x10=>some (IntKind.wrap .i64 ((IntKind.wrap .i64 ((IntKind.wrap .i64 (0+(IntKind.wrap .i64 (x8*x8))))+(IntKind.wrap .i64 (x9*x9))))+(IntKind.wrap .i64 (x10*x10))))))
def eQ(a0:ah)(a1:aa):Option (Int):=
  (gx a0 a1).bind fun x1=>some x1
def ek(a0:Int)(a1:Int)(a2:Int):Option (Int):=
  some (if(IntKind.wrap .i64 (a0-a1))>(IntKind.wrap .i64 (a2-a0))then(IntKind.wrap .i64 (a0-a1))else(IntKind.wrap .i64 (a2-a0)))
def f8(a0:ah)(a1:aa):Option (Int):=
  (bz a0).bind fun x1=>if(!x1)=true then(some 0)else((cJ a1).bind fun x3=>if(!x3)=true then(some 0)else((bv a0.aK).bind fun x5=>(bv a0.aF).bind fun x6=>(bv a1).bind fun x7=>(ek x7.a0 x5.a0 x6.a0).bind fun x8=>(ek x7.a1 x5.a1 x6.a1).bind fun x9=>(ek x7.a2 x5.a2 x6.a2).bind fun x10=>some (IntKind.wrap .i64 ((IntKind.wrap .i64 ((IntKind.wrap .i64 (0+(IntKind.wrap .i64 (x8*x8))))+(IntKind.wrap .i64 (x9*x9))))+(IntKind.wrap .i64 (x10*x10))))))
def gu(a0:ah)(a1:aa):Option (Int):=
  (f8 a0 a1).bind fun x1=>some x1
def jd(a0:aI)(a1:ah)(a2:aa):Option (aI×Int×Int):=
  (eQ a1 a2).bind fun x1=>(gu a1 a2).bind fun x2=>some (a0,x1,x2)
def gP(j3:Int)(j4:Int):Option (Int):=
  if(decide (j3>=256))=true then((vZ [0,1,2,2,3,3,3,3,4,4,4,4,4,4,4,4,5,5,5,5,5,5,5,5,5,5,5,5,5,5,5,5,6,6,6,6,6,6,6,6,6,6,6,6,6,6,6,6,6,6,6,6,6,6,6,6,6,6,6,6,6,6,6,6,7,7,7,7,7,7,7,7,7,7,7,7,7,7,7,7,7,7,7,7,7,7,7,7,7,7,7,7,7,7,7,7,7,7,7,7,7,7,7,7,7,7,7,7,7,7,7,7,7,7,7,7,7,7,7,7,7,7,7,7,7,7,7,7,8,8,8,8,8,8,8,8,8,8,8,8,8,8,8,8,8,8,8,8,8,8,8,8,8,8,8,8,8,8,8,8,8,8,8,8,8,8,8,8,8,8,8,8,8,8,8,8,8,8,8,8,8,8,8,8,8,8,8,8,8,8,8,8,8,8,8,8,8,8,8,8,8,8,8,8,8,8,8,8,8,8,8,8,8,8,8,8,8,8,8,8,8,8,8,8,8,8,8,8,8,8,8,8,8,8,8,8,8,8,8,8,8,8,8,8,8,8,8,8,8,8,8,8,8,8,8,8] (IntKind.wrap .u8 (qP .u64 j3 8))).bind fun x6=>some (IntKind.wrap .i64 ((IntKind.wrap .i64 (j4+8))+(IntKind.wrap .i64 x6))))else((vZ [0,1,2,2,3,3,3,3,4,4,4,4,4,4,4,4,5,5,5,5,5,5,5,5,5,5,5,5,5,5,5,5,6,6,6,6,6,6,6,6,6,6,6,6,6,6,6,6,6,6,6,6,6,6,6,6,6,6,6,6,6,6,6,6,7,7,7,7,7,7,7,7,7,7,7,7,7,7,7,7,7,7,7,7,7,7,7,7,7,7,7,7,7,7,7,7,7,7,7,7,7,7,7,7,7,7,7,7,7,7,7,7,7,7,7,7,7,7,7,7,7,7,7,7,7,7,7,7,8,8,8,8,8,8,8,8,8,8,8,8,8,8,8,8,8,8,8,8,8,8,8,8,8,8,8,8,8,8,8,8,8,8,8,8,8,8,8,8,8,8,8,8,8,8,8,8,8,8,8,8,8,8,8,8,8,8,8,8,8,8,8,8,8,8,8,8,8,8,8,8,8,8,8,8,8,8,8,8,8,8,8,8,8,8,8,8,8,8,8,8,8,8,8,8,8,8,8,8,8,8,8,8,8,8,8,8,8,8,8,8,8,8,8,8,8,8,8,8,8,8,8,8,8,8,8,8] (IntKind.wrap .u8 j3)).bind fun x7=>some (IntKind.wrap .i64 (j4+(IntKind.wrap .i64 x7))))
def fV(j1:Int)(j2:Int):Option (Int):=
  if(decide (j1>=65536))=true then(gP (qP .u64 j1 16) (IntKind.wrap .i64 (j2+16)))else(gP j1 j2)
def md(a0:Int):Option (Int):=
  if(decide (a0>=4294967296))=true then(fV (qP .u64 a0 32) 32)else(fV a0 0)
def fU(a0:Int):Option (Int):=
  (md a0).bind fun x1=>some x1
def gw(a0:Int):(Int×Int)->Option (qw (Int×Int) (Int)):=fun(s5,s6)=>
  if(decide (s6>0))=true then((sj .i64 a0 (orI .i64 s5 s6)).bind fun x10=>if(decide ((orI .i64 s5 s6)<=x10))=true then(some (.next ((orI .i64 s5 s6),(qP .i64 s6 1))))else(some (.next (s5,(qP .i64 s6 1)))))else(some (.stop s5))
def e7(a0:Int):Option (Int):=
  if(decide (a0<=0))=true then(some 0)else((fU (IntKind.wrap .u64 a0)).bind fun x2=>(sj .i64 (IntKind.wrap .i64 (x2-1)) 2).bind fun x3=>(xx .i64 1 x3).bind fun x4=>(py (gw a0) (0,x4)).bind fun o13=>some o13)
def gR(a0:Int):Option (Int):=
  (e7 a0).bind fun x1=>if(decide ((IntKind.wrap .i64 (x1*x1))<a0))=true then(some (IntKind.wrap .i64 (x1+1)))else(some x1)
def ku(a0:aI):Option (Int):=
  some (IntKind.wrap .i64 (a0.bn*(IntKind.wrap .i64 ((a0.aK.length:Int)-1))))
def fS(a0:Int)(d0:aI)(d1:Int):Option (Bool):=
  some (decide ((IntKind.wrap .i64 (a0*d0.bn))>=d1))
def fQ(d0:aI)(d1:Int):(Int×Int)->Option (qw (Int×Int) (Int)):=fun(s1,s2)=>
  if(decide (s1<s2))=true then((fS (IntKind.wrap .i64 (qP .u64 (IntKind.wrap .u64 (IntKind.wrap .i64 (s1+s2))) 1)) d0 d1).bind fun x6=>if(!x6)=true then(some (.next ((IntKind.wrap .i64 ((IntKind.wrap .i64 (qP .u64 (IntKind.wrap .u64 (IntKind.wrap .i64 (s1+s2))) 1))+1)),s2)))else(some (.next (s1,(IntKind.wrap .i64 (qP .u64 (IntKind.wrap .u64 (IntKind.wrap .i64 (s1+s2))) 1))))))else(some (.stop s1))
def dj(a0:Int)(d0:aI)(d1:Int):Option (Int):=
  (py (fQ d0 d1) (0,a0)).bind fun o9=>some o9
def b7(a0:aI)(a1:Int)(a2:Int):Option (Int×Int×Int):=
  (cy a0).bind fun x1=>if(x1 != 0)=true then(some (0,0,21))else(if(decide (a1<0))=true then(some (0,0,2))else(if(decide (a1>a2))=true then(some (0,0,2))else((gR a2).bind fun x5=>(ku a0).bind fun x6=>if(decide (x5>x6))=true then(some (0,0,22))else((dj (a0.aF.length:Int) a0 x5).bind fun x8=>(e7 a1).bind fun x9=>(sj .i64 x9 a0.bn).bind fun x10=>(qu a0.aK x10).bind fun x11=>(qu a0.aF x8).bind fun x12=>some (x11,x12,0)))))
def fW(a0:aI)(a1:ah)(a2:aa):Option (Int×Int×Int):=
  (cy a0).bind fun x1=>if(x1 != 0)=true then(some (0,0,x1))else((bz a1).bind fun x3=>if(!x3)=true then(some (0,0,20))else((cJ a2).bind fun x5=>if(!x5)=true then(some (0,0,20))else((jd a0 a1 a2).bind fun x7=>(b7 x7.1 x7.2.1 x7.2.2).bind fun x8=>some (x8.1,x8.2.1,x8.2.2))))
def dq(a0:aI)(a1:ah)(a2:al):Option (aG×Int):=
  (cy a0).bind fun x1=>if(x1 != 0)=true then(some ((aG.mk 0 0),x1))else((bz a1).bind fun x3=>if(!x3)=true then(some ((aG.mk 0 0),20))else((dK a2).bind fun x5=>if(!x5)=true then(some ((aG.mk 0 0),23))else((fW a0 a1 a2.aO).bind fun x7=>if(x7.2.2 != 0)=true then(some ((aG.mk 0 0),x7.2.2))else(some ((aG.mk (IntKind.wrap .i64 (a2.aM-x7.2.1)) (IntKind.wrap .i64 (a2.bf-x7.1))),0)))))
def cN(a1:(List al))(a0:aJ):Int->Option (qw (Int) ((Unit)⊕(Int))):=fun s16=>
  if(decide (s16<(a1.length:Int)))=true then((qu a1 s16).bind fun x19=>(dq a0.bi a0.aN x19).bind fun x20=>if(x20.2 != 0)=true then(some (.stop (.inr x20.2)))else(some (.next (IntKind.wrap .i64 (s16+1)))))else(some (.stop (.inl ())))
def db(a0:aJ)(a1:(List al)):Option (Int):=
  (bz a0.aN).bind fun x1=>if(!x1)=true then(some 27)else((cy a0.bi).bind fun x3=>if(x3 != 0)=true then(some 27)else((dS a0.cW 1 1099511627776).bind fun x5=>if(!x5)=true then(some 27)else((dS a0.bR 0 1099511627776).bind fun x7=>if(!x7)=true then(some 27)else((dS a0.lw 0 1099511627776).bind fun x9=>if(!x9)=true then(some 27)else((dS a0.dF 0 1099511627776).bind fun x11=>if(!x11)=true then(some 27)else((dS a0.cv 2 16).bind fun x13=>if(!x13)=true then(some 27)else(if(decide ((a1.length:Int)>256))=true then(some 8)else((py (cN a1 a0) 0).bind fun o23=>match o23 with| .inl _=>(some 0)| .inr r25=>(some r25)))))))))
def cK(a0:bu):Option (Bool):=
  (cy a0.bY).bind fun x1=>if(x1==0)=true then(if(decide (a0.bG>=0))=true then(if(decide (a0.bG<=65536))=true then(if(decide (a0.bw>=1))=true then(some (decide (a0.bw<=65536)))else(some false))else(some false))else(some false))else(some false)
def ep(a0:aq):Option (Int):=
  (db a0.ai []).bind fun x1=>if(x1 != 0)=true then(some 27)else((cK a0.eZ).bind fun x3=>if(!x3)=true then(some 27)else(if(decide (a0.bR<0))=true then(some 27)else(if(decide (a0.bR>1099511627776))=true then(some 27)else(some 0))))
def lW(a0:Int):Option (Bool):=
  if(decide (a0>=65))=true then(if(decide (a0<=90))=true then(some true)else(if(decide (a0>=48))=true then(some (decide (a0<=57)))else(some false)))else(if(decide (a0>=48))=true then(some (decide (a0<=57)))else(some false))
def iG(a0:(List UInt8)):Int->Option (qw (Int) ((Unit)⊕(Bool))):=fun s1=>
  if(decide (s1<(a0.length:Int)))=true then((vZ a0 s1).bind fun x4=>(lW x4).bind fun x5=>if(!x5)=true then(some (.stop (.inr false)))else(some (.next (IntKind.wrap .i64 (s1+1)))))else(some (.stop (.inl ())))
def fF(a0:(List UInt8))(a1:Int)(a2:Int):Option (Bool):=
  (py (iG a0) 0).bind fun o8=>match o8 with| .inl _=>(if(decide ((a0.length:Int)>=a1))=true then(some (decide ((a0.length:Int)<=a2)))else(some false))| .inr r10=>(some r10)
def gH(a0:aw):Option (Bool):=
  (fF a0.bc 1 2).bind fun x1=>if x1=true then((fF a0.aO 1 5).bind fun x3=>if x3=true then((fF a0.ap 0 2).bind fun x5=>if x5=true then(if((a0.ap.length:Int) != 1)=true then((fF a0.bd 3 3).bind fun x8=>some x8)else(some false))else(some false))else(some false))else(some false)
def pc(a0:Int)(a1:Int)(a2:Int):Option (Bool):=
  if(decide (a0>=a1))=true then(some (decide (a0<=a2)))else(some false)
def rate_gcd_l7:(Int×Int)->Option (qw (Int×Int) (Int)):=fun(s1,s2)=>
  if(s2 != 0)=true then((wi s1 s2).bind fun x6=>some (.next (s2,x6)))else(some (.stop s1))
def oQ(a0:Int)(a1:Int):Option (Int):=
  (py (rate_gcd_l7) (a0,a1)).bind fun o8=>some o8
def kL(a0:bo):Option (Bool):=
  (pc a0.bG 1 4096).bind fun x1=>if x1=true then((pc a0.bw 1 4096).bind fun x3=>if x3=true then((oQ a0.bG a0.bw).bind fun x5=>some (x5==1))else(some false))else(some false)
def bq(a0:Int)(a1:Int)(a2:Int):Option (Bool):=
  if(decide (a0>=a1))=true then(some (decide (a0<=a2)))else(some false)
def iY(a0:Int):Option (Bool):=
  (bq a0 (-1048576) 1048576).bind fun x1=>some (!x1)
def da(a0:(List Int)):Int->Option (qw (Int) ((Unit)⊕(Int))):=fun s1=>
  if(decide (s1<(a0.length:Int)))=true then((qu a0 s1).bind fun x4=>(iY x4).bind fun x5=>if x5=true then(some (.stop (.inr s1)))else(some (.next (IntKind.wrap .i64 (s1+1)))))else(some (.stop (.inl ())))
def cS(a0:(List Int)):Option (Int):=
  (py (da a0) 0).bind fun o8=>match o8 with| .inl _=>(some (-1))| .inr r10=>(some r10)
def cw(a0:(List Int)):Option (Bool):=
  (cS a0).bind fun x1=>some (decide (x1>=0))
def co(a0:(List Int)):Option (Bool):=
  (cw a0).bind fun x1=>some (!x1)
def lE(a0:(List Int)):(Int×Int)->Option (qw (Int×Int) (Int)):=fun(s1,s2)=>
  if(decide (s2<(a0.length:Int)))=true then((qu a0 s2).bind fun x6=>some (.next ((IntKind.wrap .i64 (s1+x6)),(IntKind.wrap .i64 (s2+1)))))else(some (.stop s1))
def dv(a0:(List Int)):Option (Int):=
  (py (lE a0) (0,0)).bind fun o8=>some o8
def cB(a0:aH):Option (Bool):=
  if((a0.dG.length:Int)==0)=true then(if(a0.dt==0)=true then(if(a0.fM==0)=true then(if(a0.dI==0)=true then(if((a0.bG.a0==a0.bG.a0)&&((a0.bG.a1==0)&&((a0.bG.a2==0)&&true)))=true then(if((a0.bw.a0==a0.bw.a0)&&((a0.bw.a1==0)&&((a0.bw.a2==0)&&true)))=true then((bq a0.bG.a0 1 1048576).bind fun x7=>if x7=true then((bq a0.bw.a0 1 1048576).bind fun x9=>some x9)else(some false))else(some false))else(some false))else(some false))else(if(a0.fM==1)=true then(if(a0.dI==0)=true then((co [a0.bG.a0,a0.bG.a1,a0.bG.a2]).bind fun x12=>if x12=true then((co [a0.bw.a0,a0.bw.a1,a0.bw.a2]).bind fun x14=>if x14=true then(some (a0.bw.a0 != 0))else(some false))else(some false))else(some false))else(if(a0.fM==2)=true then(if((a0.bG.a0==0)&&((a0.bG.a1==0)&&((a0.bG.a2==0)&&true)))=true then(if((a0.bw.a0==0)&&((a0.bw.a1==0)&&((a0.bw.a2==0)&&true)))=true then((bq (a0.dG.length:Int) 1 128).bind fun x19=>if x19=true then((co a0.dG).bind fun x21=>if x21=true then((dv a0.dG).bind fun x23=>if(x23 != 0)=true then((bq a0.dt 1 64).bind fun x25=>if x25=true then((bq a0.dI 0 40).bind fun x27=>some x27)else(some false))else(some false))else(some false))else(some false))else(some false))else(some false))else(some false))))else(if(a0.fM==0)=true then(some false)else(if(a0.fM==1)=true then(some false)else(if(a0.fM==2)=true then(if((a0.bG.a0==0)&&((a0.bG.a1==0)&&((a0.bG.a2==0)&&true)))=true then(if((a0.bw.a0==0)&&((a0.bw.a1==0)&&((a0.bw.a2==0)&&true)))=true then((bq (a0.dG.length:Int) 1 128).bind fun x33=>if x33=true then((co a0.dG).bind fun x35=>if x35=true then((dv a0.dG).bind fun x37=>if(x37 != 0)=true then((bq a0.dt 1 64).bind fun x39=>if x39=true then((bq a0.dI 0 40).bind fun x41=>some x41)else(some false))else(some false))else(some false))else(some false))else(some false))else(some false))else(some false)))))else(if(a0.fM==0)=true then(some false)else(if(a0.fM==1)=true then(some false)else(if(a0.fM==2)=true then(if((a0.bG.a0==0)&&((a0.bG.a1==0)&&((a0.bG.a2==0)&&true)))=true then(if((a0.bw.a0==0)&&((a0.bw.a1==0)&&((a0.bw.a2==0)&&true)))=true then((bq (a0.dG.length:Int) 1 128).bind fun x47=>if x47=true then((co a0.dG).bind fun x49=>if x49=true then((dv a0.dG).bind fun x51=>if(x51 != 0)=true then((bq a0.dt 1 64).bind fun x53=>if x53=true then((bq a0.dI 0 40).bind fun x55=>some x55)else(some false))else(some false))else(some false))else(some false))else(some false))else(some false))else(some false))))
def ex(a0:aH):Option (Bool):=
  (cB a0).bind fun x1=>some (!x1)
def cp(a0:(List aH)):Int->Option (qw (Int) ((Unit)⊕(Int))):=fun s1=>
  if(decide (s1<(a0.length:Int)))=true then((qu a0 s1).bind fun x4=>(ex x4).bind fun x5=>if x5=true then(some (.stop (.inr s1)))else(some (.next (IntKind.wrap .i64 (s1+1)))))else(some (.stop (.inl ())))
def cG(a0:(List aH)):Option (Int):=
  (py (cp a0) 0).bind fun o8=>match o8 with| .inl _=>(some (-1))| .inr r10=>(some r10)
def bZ(a0:(List aH)):Option (Bool):=
  (cG a0).bind fun x1=>some (decide (x1>=0))
def gG(a0:(List aH)):(Int×Int)->Option (qw (Int×Int) ((Int)⊕(Int))):=fun(s1,s2)=>
  if(decide (s2<(a0.length:Int)))=true then((qu a0 s2).bind fun x6=>if(x6.fM != 2)=true then(some (.next (s1,(IntKind.wrap .i64 (s2+1)))))else(if(decide ((IntKind.wrap .i64 (s1*x6.dt))>64))=true then(some (.stop (.inr 0)))else(some (.next ((IntKind.wrap .i64 (s1*x6.dt)),(IntKind.wrap .i64 (s2+1)))))))else(some (.stop (.inl s1)))
def fk(a0:(List aH)):Option (Int):=
  (py (gG a0) (1,0)).bind fun o10=>match o10 with| .inl y11=>(some y11)| .inr r12=>(some r12)
def fb(a0:aQ):Option (Bool):=
  if(decide ((a0.bC.length:Int)>8))=true then(some false)else((bZ a0.bC).bind fun x2=>if x2=true then(some false)else((fk a0.bC).bind fun x4=>some (decide (x4>0))))
def c8(a0:Int)(a1:Int)(a2:Int):Option (Bool):=
  if(decide (a0>=a1))=true then(some (decide (a0<=a2)))else(some false)
def dh(a0:av):Option (Bool):=
  if(decide (a0.bp>=0))=true then(if(decide (a0.bp<a0.fTo))=true then(if(decide (a0.fTo<=9007199254740992))=true then((kL a0.gm).bind fun x4=>if x4=true then((fb a0.bL).bind fun x6=>if x6=true then((c8 a0.bj.fX (-1048576) 1048576).bind fun x8=>if x8=true then((c8 a0.bj.fY (-1048576) 1048576).bind fun x10=>if x10=true then((c8 a0.bj.fZ (-16384) 1048576).bind fun x12=>some x12)else(some false))else(some false))else(some false))else(some false))else(some false))else(some false))else(some false)
def dY(a0:(List av)):Int->Option (qw (Int) ((Unit)⊕(Bool))):=fun s1=>
  if(decide (s1<(a0.length:Int)))=true then((qu a0 s1).bind fun x4=>(dh x4).bind fun x5=>if(!x5)=true then(some (.stop (.inr false)))else(if(decide (s1>0))=true then((qu a0 (IntKind.wrap .i64 (s1-1))).bind fun x8=>if(decide (x4.bp<x8.fTo))=true then(some (.stop (.inr false)))else(some (.next (IntKind.wrap .i64 (s1+1)))))else(some (.next (IntKind.wrap .i64 (s1+1))))))else(some (.stop (.inl ())))
def eX(a0:(List av)):Option (Bool):=
  (py (dY a0) 0).bind fun o11=>match o11 with| .inl _=>((c8 (a0.length:Int) 1 32).bind fun x14=>some x14)| .inr r13=>(some r13)
def f7(a0:(List UInt8)):Option (Bool):=
  some (!(a0==a0))
def bW(a0:(List UInt8))(a1:(List UInt8)):Option (Int):=
  (f7 a0).bind fun x1=>(f7 a1).bind fun x2=>if x1=true then(if x2=true then(some 0)else(some (-1)))else(if x2=true then(some 1)else(if(Op.bytesLess a0 a1)=true then(some (-1))else(if(!(Op.bytesLess a0 a1||a0==a1))=true then(some 1)else(some 0))))
def dn(a0:(List Int)):Int->Option (qw (Int) ((Unit)⊕(Int))):=fun s1=>
  if(decide (s1<(a0.length:Int)))=true then((qu a0 s1).bind fun x4=>if(x4 != 0)=true then(some (.stop (.inr x4)))else(some (.next (IntKind.wrap .i64 (s1+1)))))else(some (.stop (.inl ())))
def cu(a0:(List Int)):Option (Int):=
  (py (dn a0) 0).bind fun o7=>match o7 with| .inl _=>(some 0)| .inr r9=>(some r9)
def eh(a0:aw)(a1:aw):Option (Int):=
  (bW a0.bc a1.bc).bind fun x1=>(bW a0.aO a1.aO).bind fun x2=>(bW a0.ap a1.ap).bind fun x3=>(bW a0.bd a1.bd).bind fun x4=>(cu [x1,x2,x3,x4]).bind fun x5=>some x5
def ew(a0:ar):Int->Option (qw (Int) ((Unit)⊕(Bool))):=fun s1=>
  if(decide (s1<(a0.aU.length:Int)))=true then((qu a0.aU s1).bind fun x4=>(gH x4.aD).bind fun x5=>if(!x5)=true then(some (.stop (.inr false)))else((eX x4.bM).bind fun x7=>if(!x7)=true then(some (.stop (.inr false)))else(if(decide (s1>0))=true then((qu a0.aU (IntKind.wrap .i64 (s1-1))).bind fun x10=>(eh x10.aD x4.aD).bind fun x11=>if(decide (x11>=0))=true then(some (.stop (.inr false)))else(some (.next (IntKind.wrap .i64 (s1+1)))))else(some (.next (IntKind.wrap .i64 (s1+1)))))))else(some (.stop (.inl ())))
def cM(a0:ar):Option (Bool):=
  (py (ew a0) 0).bind fun o14=>match o14 with| .inl _=>(some (decide ((a0.aU.length:Int)<=128)))| .inr r16=>(some r16)
def je(a0:Int):Option (Bool):=
  some (a0 != a0)
def bH(a0:Int)(a1:Int):Option (Int):=
  (je a0).bind fun x1=>(je a1).bind fun x2=>if x1=true then(if x2=true then(some 0)else(some (-1)))else(if x2=true then(some 1)else(if(decide (a0<a1))=true then(some (-1))else(if(decide (a0>a1))=true then(some 1)else(some 0))))
def cn(a0:ae)(a1:ae):Option (Int):=
  (eh a0.aD a1.aD).bind fun x1=>(bH a0.aX a1.aX).bind fun x2=>(bH a0.aM a1.aM).bind fun x3=>(bH a0.bf a1.bf).bind fun x4=>(bH a0.aP a1.aP).bind fun x5=>(bH a0.aT a1.aT).bind fun x6=>(cu [x1,x2,x3,x4,x5,x6]).bind fun x7=>some x7
def gg(s2:Int)(d0:(List ae)):(Int×Int×(List ae))->Option (qw (Int×Int×(List ae)) (Int×(List ae))):=fun(s13,s14,s15)=>
  (lenV s15.length (0+(s2:Int).toNat) (0+((d0.length:Int):Int).toNat)).bind fun x19=>if(decide (s14<x19))=true then((inV s15.length (0+(s2:Int).toNat) (0+((d0.length:Int):Int).toNat) s14).bind fun _=>(qu s15 (((0+(s2:Int).toNat)+(s14:Int).toNat:Nat):Int)).bind fun x22=>(inV s15.length (0+(s2:Int).toNat) (0+((d0.length:Int):Int).toNat) (IntKind.wrap .i64 (s14-1))).bind fun _=>(qu s15 (((0+(s2:Int).toNat)+((IntKind.wrap .i64 (s14-1)):Int).toNat:Nat):Int)).bind fun x24=>if(!(((x22.aD.bc==x24.aD.bc)&&((x22.aD.aO==x24.aD.aO)&&((x22.aD.ap==x24.aD.ap)&&((x22.aD.bd==x24.aD.bd)&&true))))&&((x22.aX==x24.aX)&&((x22.aM==x24.aM)&&((x22.bf==x24.bf)&&((x22.aP==x24.aP)&&((x22.aT==x24.aT)&&true)))))))=true then((inV s15.length (0+(s2:Int).toNat) (0+((d0.length:Int):Int).toNat) s14).bind fun _=>(qu s15 (((0+(s2:Int).toNat)+(s14:Int).toNat:Nat):Int)).bind fun x27=>(inO s15 s13).bind fun _=>(tC s15 s13 x27).bind fun x30=>some (.next ((IntKind.wrap .i64 (s13+1)),(IntKind.wrap .i64 (s14+1)),x30)))else(some (.next (s13,(IntKind.wrap .i64 (s14+1)),s15))))else(some (.stop (s13,s15)))
def gh(d0:(List ae)):Int->Option (qw (Int) ((Unit)⊕((List ae)))):=fun s2=>
  if(decide (s2<(d0.length:Int)))=true then((inO d0 s2).bind fun _=>(qu d0 s2).bind fun x7=>(inO d0 (IntKind.wrap .i64 (s2-1))).bind fun _=>(qu d0 (IntKind.wrap .i64 (s2-1))).bind fun x10=>if(((x7.aD.bc==x10.aD.bc)&&((x7.aD.aO==x10.aD.aO)&&((x7.aD.ap==x10.aD.ap)&&((x7.aD.bd==x10.aD.bd)&&true))))&&((x7.aX==x10.aX)&&((x7.aM==x10.aM)&&((x7.bf==x10.bf)&&((x7.aP==x10.aP)&&((x7.aT==x10.aT)&&true))))))=true then((w8 d0.length s2 (d0.length:Int)).bind fun _=>(py (gg s2 d0) (s2,1,d0)).bind fun o32=>(w8 o32.2.length o32.1 (o32.2.length:Int)).bind fun _=>(zB o32.2.length (0+(o32.1:Int).toNat) (0+((o32.2.length:Int):Int).toNat)).bind fun _=>(w8 (ur o32.2 (0+(o32.1:Int).toNat) ((0+((o32.2.length:Int):Int).toNat)-(0+(o32.1:Int).toNat)) (ae.mk (aw.mk [] [] [] []) 0 0 0 0 0)).length 0 o32.1).bind fun _=>(yo (ur o32.2 (0+(o32.1:Int).toNat) ((0+((o32.2.length:Int):Int).toNat)-(0+(o32.1:Int).toNat)) (ae.mk (aw.mk [] [] [] []) 0 0 0 0 0)) (0+(0:Int).toNat) (0+(o32.1:Int).toNat)).bind fun x37=>some (.stop (.inr x37)))else(some (.next (IntKind.wrap .i64 (s2+1)))))else(some (.stop (.inl ())))
def ey(d0:(List ae)):Option ((List ae)):=
  if(decide ((d0.length:Int)<2))=true then(some d0)else((py (gh d0) 1).bind fun o39=>match o39 with| .inl _=>(some d0)| .inr r41=>(some r41))
def di(a0:(List ae)):Option ((List ae)):=
  (sg 104 a0).bind fun x1=>(wK cn x1).bind fun x2=>(ey x2).bind fun x3=>some x3
def iR(a0:Int)(a1:Int)(a2:Int):Option (Bool):=
  if(decide (a0>=a1))=true then(some (decide (a0<=a2)))else(some false)
def eY(a0:ae):Option (Bool):=
  (gH a0.aD).bind fun x1=>if x1=true then(if(decide (a0.aM>=0))=true then(if(decide (a0.aM<=a0.aX))=true then(if(decide (a0.aX<=a0.bf))=true then(if(decide (a0.bf<=18014398509481984))=true then((iR a0.aP 0 1073741823).bind fun x7=>if x7=true then((iR a0.aT (-1) 1).bind fun x9=>some x9)else(some false))else(some false))else(some false))else(some false))else(some false))else(some false)
def eo(x1:(List aH)):(Int×(List aH))->Option (qw (Int×(List aH)) ((List aH))):=fun(s2,s3)=>
  if(decide (s2<(x1.length:Int)))=true then((inO s3 s2).bind fun _=>(qu s3 s2).bind fun x9=>(sg 8 x9.dG).bind fun x10=>(inO s3 s2).bind fun _=>(xq s3 s2 (fun(z14:aH)=>(aH.mk z14.fM z14.bG z14.bw x10 z14.dt z14.dI))).bind fun x13=>some (.next ((IntKind.wrap .i64 (s2+1)),x13)))else(some (.stop s3))
def dD(a0:av):Option (av):=
  (sg 96 a0.bL.bC).bind fun x1=>(py (eo x1) (0,x1)).bind fun o16=>some (av.mk a0.bp a0.fTo a0.gm a0.bj (aQ.mk o16))
def dX(x1:(List av)):(Int×(List av))->Option (qw (Int×(List av)) ((List av))):=fun(s2,s3)=>
  if(decide (s2<(x1.length:Int)))=true then((inO s3 s2).bind fun _=>(qu s3 s2).bind fun x9=>(dD x9).bind fun x10=>(inO s3 s2).bind fun _=>(tC s3 s2 x10).bind fun x13=>some (.next ((IntKind.wrap .i64 (s2+1)),x13)))else(some (.stop s3))
def eW(a0:aA):Option (aA):=
  (sg 80 a0.bM).bind fun x1=>(py (dX x1) (0,x1)).bind fun o15=>some (aA.mk a0.aD o15)
def fr(a0:ar)(a1:aw):Int->Option (qw (Int) ((Unit)⊕(aA×Bool))):=fun s1=>
  if(decide (s1<(a0.aU.length:Int)))=true then((qu a0.aU s1).bind fun x4=>if((x4.aD.bc==a1.bc)&&((x4.aD.aO==a1.aO)&&((x4.aD.ap==a1.ap)&&((x4.aD.bd==a1.bd)&&true))))=true then((eW x4).bind fun x6=>some (.stop (.inr (x6,true))))else(some (.next (IntKind.wrap .i64 (s1+1)))))else(some (.stop (.inl ())))
def f9(a0:ar)(a1:aw):Option (aA×Bool):=
  (py (fr a0 a1) 0).bind fun o8=>match o8 with| .inl _=>(some ((aA.mk (aw.mk [] [] [] []) []),false))| .inr r10=>(some r10)
def jq(a0:aA)(a1:Int):Int->Option (qw (Int) ((Unit)⊕(av×Bool))):=fun s1=>
  if(decide (s1<(a0.bM.length:Int)))=true then((qu a0.bM s1).bind fun x4=>if(decide (x4.bp<=a1))=true then(if(decide (a1<x4.fTo))=true then(some (.stop (.inr (x4,true))))else(some (.next (IntKind.wrap .i64 (s1+1)))))else(some (.next (IntKind.wrap .i64 (s1+1)))))else(some (.stop (.inl ())))
def iN(a0:aA)(a1:Int):Option (av×Bool):=
  (py (jq a0 a1) 0).bind fun o8=>match o8 with| .inl _=>(some ((av.mk 0 0 (bo.mk 0 0) (aa.mk 0 0 0) (aQ.mk [])),false))| .inr r10=>(some r10)
def iM(a0:ar)(a1:aw)(a2:Int):Option (av×Int):=
  (cM a0).bind fun x1=>if(!x1)=true then(some ((av.mk 0 0 (bo.mk 0 0) (aa.mk 0 0 0) (aQ.mk [])),1))else((f9 a0 a1).bind fun x3=>(iN x3.1 a2).bind fun x4=>if(!x4.2)=true then(some ((av.mk 0 0 (bo.mk 0 0) (aa.mk 0 0 0) (aQ.mk [])),6))else(some (x4.1,0)))
def cA(a0:aq)(a1:ar)(a2:ae):Option (al×av×Bool):=
  (eY a2).bind fun x1=>if(!x1)=true then(some ((al.mk (aa.mk 0 0 0) 0 0 0),(av.mk 0 0 (bo.mk 0 0) (aa.mk 0 0 0) (aQ.mk [])),false))else((iM a1 a2.aD a2.aX).bind fun x3=>if(x3.2 != 0)=true then(some ((al.mk (aa.mk 0 0 0) 0 0 0),(av.mk 0 0 (bo.mk 0 0) (aa.mk 0 0 0) (aQ.mk [])),false))else((dq a0.ai.bi a0.ai.aN (al.mk x3.1.bj a2.aM a2.bf 1)).bind fun x5=>if(x5.2 != 0)=true then(some ((al.mk (aa.mk 0 0 0) 0 0 0),(av.mk 0 0 (bo.mk 0 0) (aa.mk 0 0 0) (aQ.mk [])),false))else(some ((al.mk x3.1.bj a2.aM a2.bf 1),x3.1,true))))
def jt(a0:aq)(a1:ar)(a2:ae):Option (al×Bool):=
  (ep a0).bind fun x1=>if(x1 != 0)=true then(some ((al.mk (aa.mk 0 0 0) 0 0 0),false))else((cM a1).bind fun x3=>if(!x3)=true then(some ((al.mk (aa.mk 0 0 0) 0 0 0),false))else((cA a0 a1 a2).bind fun x5=>some (x5.1,x5.2.2)))
def kB(x5:(List ae))(a0:aq)(a1:ar):(Int×(List ae)×(List al))->Option (qw (Int×(List ae)×(List al)) ((List ae)×(List al))):=fun(s6,s7,s8)=>
  if(decide (s6<(x5.length:Int)))=true then((qu x5 s6).bind fun x13=>(jt a0 a1 x13).bind fun x14=>if x14.2=true then((rF s7 [x13] 104).bind fun x16=>(rF s8 [x14.1] 48).bind fun x17=>some (.next ((IntKind.wrap .i64 (s6+1)),x16,x17)))else(some (.next ((IntKind.wrap .i64 (s6+1)),s7,s8))))else(some (.stop (s7,s8)))
def lS(a0:aq)(a1:ar)(a2:(List ae)):Option ((List ae)×(List al)×Int):=
  (ep a0).bind fun x1=>if(x1 != 0)=true then(some (([]:(List ae)),([]:(List al)),27))else((cM a1).bind fun x3=>if(!x3)=true then(some (([]:(List ae)),([]:(List al)),1))else((di a2).bind fun x5=>(py (kB x5 a0 a1) (0,([]:(List ae)),([]:(List al)))).bind fun o19=>if(decide ((o19.1.length:Int)>256))=true then(some (([]:(List ae)),([]:(List al)),8))else(some (o19.1,o19.2,0))))
def dL(a0:aa)(a1:aa):Option (Int):=
  (bH a0.fX a1.fX).bind fun x1=>(bH a0.fY a1.fY).bind fun x2=>(bH a0.fZ a1.fZ).bind fun x3=>(cu [x1,x2,x3]).bind fun x4=>some x4
def ie(a0:al)(a1:al):Option (Int):=
  (bH a0.aM a1.aM).bind fun x1=>(bH a0.bf a1.bf).bind fun x2=>(dL a0.aO a1.aO).bind fun x3=>(bH a0.bF a1.bF).bind fun x4=>(cu [x1,x2,x3,x4]).bind fun x5=>some x5
def fm(a0:Int)(a1:Int)(d0:(List al)):Option (Int):=
  (qu d0 a0).bind fun x1=>(qu d0 a1).bind fun x2=>(ie x1 x2).bind fun x3=>some x3
def ib(a0:Int)(d1:(List al))(s1:Int):(Int×(List Int))->Option (qw (Int×(List Int)) (Int×(List Int))):=fun(s5,s6)=>
  if(decide (s5>a0))=true then((inO s6 s5).bind fun _=>(qu s6 s5).bind fun x13=>(inO s6 (IntKind.wrap .i64 (s5-1))).bind fun _=>(qu s6 (IntKind.wrap .i64 (s5-1))).bind fun x16=>(fm x13 x16 d1).bind fun x17=>if(decide (x17<0))=true then((inO s6 (IntKind.wrap .i64 (s5-1))).bind fun _=>(qu s6 (IntKind.wrap .i64 (s5-1))).bind fun x21=>(inO s6 s5).bind fun _=>(qu s6 s5).bind fun x24=>(inO s6 s5).bind fun _=>(tC s6 s5 x21).bind fun x27=>(inO x27 (IntKind.wrap .i64 (s5-1))).bind fun _=>(tC x27 (IntKind.wrap .i64 (s5-1)) x24).bind fun x30=>some (.next ((IntKind.wrap .i64 (s5-1)),x30)))else(some (.stop (s1,s6))))else(some (.stop (s1,s6)))
def ic(a1:Int)(a0:Int)(d1:(List al)):(Int×(List Int))->Option (qw (Int×(List Int)) ((List Int))):=fun(s1,s2)=>
  if(decide (s1<a1))=true then((py (ib a0 d1 s1) (s1,s2)).bind fun o32=>some (.next ((IntKind.wrap .i64 (o32.1+1)),o32.2)))else((some s2).bind fun z33=>some (.stop z33))
def cg(a0:Int)(a1:Int)(d0:(List Int))(d1:(List al)):Option ((List Int)):=
  (py (ic a1 a0 d1) ((IntKind.wrap .i64 (a0+1)),d0)).bind fun o35=>some o35
def fD(a0:Int)(d1:(List al)):(Int×Int×(List Int))->Option (qw (Int×Int×(List Int)) (Int×(List Int))):=fun(s1,s2,s3)=>
  if(decide (s2<=a0))=true then((cg s1 s2 s3 d1).bind fun x8=>some (.next (s2,(IntKind.wrap .i64 (s2+20)),x8)))else(some (.stop (s1,s3)))
def jO(s12:Int)(a0:Int):Unit->Option (qw (Unit) (Int)):=fun _=>
  if(decide ((IntKind.wrap .i64 (2*s12))<=a0))=true then(none)else(some (.stop s12))
def fg(a0:Int)(x11:(List Int)):Int->Option (qw (Int) ((List Int))):=fun s12=>
  if(decide (s12<a0))=true then((py (jO s12 a0) ()).bind fun o19=>if(decide ((IntKind.wrap .i64 (0+o19))<a0))=true then(none)else(some (.next (IntKind.wrap .i64 (o19*2)))))else((some x11).bind fun z21=>some (.stop z21))
def ef(a0:Int)(d0:(List Int))(d1:(List al)):Option ((List Int)):=
  (py (fD a0 d1) (0,20,d0)).bind fun o10=>(cg o10.1 a0 o10.2 d1).bind fun x11=>(py (fg a0 x11) 20).bind fun o23=>some o23
def cQ(d0:(List Int))(d1:(List al)):Option ((List Int)):=
  (ef (d0.length:Int) d0 d1).bind fun x1=>some x1
def lI(x1:(List Int)):(Int×(List Int))->Option (qw (Int×(List Int)) ((List Int))):=fun(s2,s3)=>
  if(decide (s2<(x1.length:Int)))=true then((inO s3 s2).bind fun _=>(tC s3 s2 s2).bind fun x9=>some (.next ((IntKind.wrap .i64 (s2+1)),x9)))else(some (.stop s3))
def jm(a0:(List al)):Option ((List Int)):=
  (mkO (a0.length:Int) 0 8).bind fun x1=>(py (lI x1) (0,x1)).bind fun o11=>(cQ o11 a0).bind fun x12=>some x12
def jS(a0:Int):(Int×(List Int)×(List Int))->Option (qw (Int×(List Int)×(List Int)) ((List Int)×(List Int))):=fun(s3,s4,s5)=>
  if(decide (s3<(IntKind.wrap .i64 (a0+1))))=true then((wi (IntKind.wrap .i64 (s3+1)) (IntKind.wrap .i64 (a0+1))).bind fun x10=>(wi (IntKind.wrap .i64 (s3+1)) (IntKind.wrap .i64 (a0+1))).bind fun x11=>(inO s4 s3).bind fun _=>(tC s4 s3 x11).bind fun x14=>(inO s5 x10).bind fun _=>(tC s5 x10 s3).bind fun x17=>some (.next ((IntKind.wrap .i64 (s3+1)),x14,x17)))else(some (.stop (s4,s5)))
def gq(a0:Int):Option (bg):=
  (mkO (IntKind.wrap .i64 (a0+1)) 0 8).bind fun x1=>(mkO (IntKind.wrap .i64 (a0+1)) 0 8).bind fun x2=>(py (jS a0) (0,x1,x2)).bind fun o19=>some (bg.mk o19.1 o19.2)
def iJ(a0:bg):Option (Int):=
  some (IntKind.wrap .i64 ((a0.nl.length:Int)-1))
def cq(d0:(List Int))(d1:(List Int))(a3:(List Int))(a2:(List al))(x4:Int)(a1:aJ):(Int×(List Int))->Option (qw (Int×(List Int)) ((List Int))):=fun(s5,s6)=>
  (iJ (bg.mk d0 d1)).bind fun x9=>if(s5 != x9)=true then(if(decide ((s6.length:Int)<16))=true then((qu a3 s5).bind fun x12=>(qu a2 x12).bind fun x13=>(qu a3 x4).bind fun x14=>(qu a2 x14).bind fun x15=>if(decide ((IntKind.wrap .i64 (x13.aM-x15.aM))<=a1.dF))=true then((rF s6 [s5] 8).bind fun x17=>(inO d0 s5).bind fun _=>(qu d0 s5).bind fun x20=>some (.next (x20,x17)))else(some (.stop s6)))else(some (.stop s6)))else(some (.stop s6))
def kV(a1:aJ)(a2:(List al))(a3:(List Int))(d0:(List Int))(d1:(List Int)):Option ((List Int)×(List Int)×(List Int)):=
  (iJ (bg.mk d0 d1)).bind fun x1=>(inO d0 x1).bind fun _=>(qu d0 x1).bind fun x4=>(py (cq d0 d1 a3 a2 x4 a1) (x4,([]:(List Int)))).bind fun o22=>some (o22,d0,d1)
def ej(a0:aJ)(a1:(List al)):Option (ag):=
  some (ag.mk a0.aN a0.bi a1 a0.cW)
def lO(a0:ag):Int->Option (qw (Int) ((Unit)⊕(Int))):=fun s9=>
  if(decide (s9<(a0.a8.length:Int)))=true then((qu a0.a8 s9).bind fun x12=>(dq a0.bi a0.aN x12).bind fun x13=>if(x13.2 != 0)=true then(some (.stop (.inr x13.2)))else(some (.next (IntKind.wrap .i64 (s9+1)))))else(some (.stop (.inl ())))
def gK(a0:ag):Option (Int):=
  (bz a0.aN).bind fun x1=>if(!x1)=true then(some 20)else((cy a0.bi).bind fun x3=>if(x3 != 0)=true then(some x3)else(if((a0.a8.length:Int)==0)=true then(some 24)else(if(decide ((a0.a8.length:Int)>64))=true then(some 8)else(if(decide (a0.cW<1))=true then(some 2)else(if(decide (a0.cW>1099511627776))=true then(some 2)else((py (lO a0) 0).bind fun o16=>match o16 with| .inl _=>(some 0)| .inr r18=>(some r18)))))))
def fq(a0:ah)(a1:aa):Option (Bool):=
  (bz a0).bind fun x1=>if x1=true then((cJ a1).bind fun x3=>if x3=true then((eQ a0 a1).bind fun x5=>some (x5==0))else(some false))else(some false)
def jp(a0:ah)(a1:ah):Option (Bool):=
  (bz a0).bind fun x1=>if x1=true then((fq a1 a0.aK).bind fun x3=>if x3=true then((fq a1 a0.aF).bind fun x5=>some x5)else(some false))else(some false)
def kJ(a0:ag)(a1:ah):(Int×(List aG))->Option (qw (Int×(List aG)) (((List aG))⊕((List aG)×Int))):=fun(s2,s3)=>
  if(decide (s2<(a0.a8.length:Int)))=true then((qu a0.a8 s2).bind fun x7=>(dq a0.bi a1 x7).bind fun x8=>if(x8.2 != 0)=true then(some (.stop (.inr (([]:(List aG)),x8.2))))else((rF s3 [x8.1] 16).bind fun x10=>some (.next ((IntKind.wrap .i64 (s2+1)),x10))))else(some (.stop (.inl s3)))
def lU(a0:ag)(a1:ah):Option ((List aG)×Int):=
  (mkCO 0 (a0.a8.length:Int) (aG.mk 0 0) 16).bind fun x1=>(py (kJ a0 a1) (0,x1)).bind fun o12=>match o12 with| .inl y13=>(some (y13,0))| .inr r14=>(some r14)
def fx(a0:ag)(a1:ah):Option ((List aG)×Int):=
  (gK a0).bind fun x1=>if(x1 != 0)=true then(some (([]:(List aG)),x1))else((jp a1 a0.aN).bind fun x3=>if(!x3)=true then(some (([]:(List aG)),20))else((lU a0 a1).bind fun x5=>some (x5.1,x5.2)))
def fj(a0:aG)(a1:Int):Option (Int):=
  some (if 0>(if(IntKind.wrap .i64 (a1-a0.fTo))>(IntKind.wrap .i64 (a0.bp-a1))then(IntKind.wrap .i64 (a1-a0.fTo))else(IntKind.wrap .i64 (a0.bp-a1)))then 0 else(if(IntKind.wrap .i64 (a1-a0.fTo))>(IntKind.wrap .i64 (a0.bp-a1))then(IntKind.wrap .i64 (a1-a0.fTo))else(IntKind.wrap .i64 (a0.bp-a1))))
def lA(a0:ag)(a1:(List aG))(a2:Int):(Int×Int)->Option (qw (Int×Int) (Int)):=fun(s1,s2)=>
  if(decide (s2<(a0.a8.length:Int)))=true then((qu a0.a8 s2).bind fun x6=>if(decide (s2<(a1.length:Int)))=true then((qu a1 s2).bind fun x8=>(fj x8 a2).bind fun x9=>some (.next ((IntKind.wrap .i64 (s1+(IntKind.wrap .i64 (x6.bF*(if x9<a0.cW then x9 else a0.cW))))),(IntKind.wrap .i64 (s2+1)))))else(some (.next (s1,(IntKind.wrap .i64 (s2+1))))))else(some (.stop s1))
def iu(a0:ag)(a1:(List aG))(a2:Int):Option (Int):=
  (py (lA a0 a1 a2) (0,0)).bind fun o11=>some o11
def ml(a1:(List aG)):(Int×(List Int))->Option (qw (Int×(List Int)) ((List Int))):=fun(s2,s3)=>
  if(decide (s2<(a1.length:Int)))=true then((qu a1 s2).bind fun x7=>(rF s3 [x7.bp,x7.fTo] 8).bind fun x8=>some (.next ((IntKind.wrap .i64 (s2+1)),x8)))else(some (.stop s3))
def lz(x20:Int)(o10:(List Int))(a0:ag)(a1:(List aG)):(Int×Int×Int)->Option (qw (Int×Int×Int) (Int×Int)):=fun(s21,s22,s23)=>
  if(decide (s23<x20))=true then((inV o10.length (0+(1:Int).toNat) (0+((o10.length:Int):Int).toNat) s23).bind fun _=>(qu o10 (((0+(1:Int).toNat)+(s23:Int).toNat:Nat):Int)).bind fun x29=>(iu a0 a1 x29).bind fun x30=>if(decide (x30<s22))=true then(some (.next (x29,x30,(IntKind.wrap .i64 (s23+1)))))else(if(x30==s22)=true then(if(decide (x29<s21))=true then(some (.next (x29,x30,(IntKind.wrap .i64 (s23+1)))))else(some (.next (s21,s22,(IntKind.wrap .i64 (s23+1))))))else(some (.next (s21,s22,(IntKind.wrap .i64 (s23+1)))))))else(some (.stop (s21,s22)))
def ir(a0:ag)(a1:(List aG)):Option (Int×Int):=
  (mkCO 0 (IntKind.wrap .i64 (2*(a1.length:Int))) 0 8).bind fun x1=>(py (ml a1) (0,x1)).bind fun o10=>if((o10.length:Int)==0)=true then(some (0,0))else((inO o10 0).bind fun _=>(qu o10 0).bind fun x14=>(inO o10 0).bind fun _=>(qu o10 0).bind fun x17=>(iu a0 a1 x17).bind fun x18=>(w8 o10.length 1 (o10.length:Int)).bind fun _=>(lenV o10.length (0+(1:Int).toNat) (0+((o10.length:Int):Int).toNat)).bind fun x20=>(py (lz x20 o10 a0 a1) (x14,x18,0)).bind fun o35=>some (o35.1,o35.2))
def eF(a0:ag)(a1:ah):Option (Int×Int):=
  (fx a0 a1).bind fun x1=>if(x1.2 != 0)=true then(some (0,x1.2))else((ir a0 x1.1).bind fun x3=>some (x3.2,0))
def nW(a0:ak)(e1:ag)(e2:Int)(e3:Int)(e4:Bool)(e5:aj):Option ((List ak)):=
  (rF ([]:List ak) [a0] 64).bind fun x1=>some x1
def gV(a0:(List ak)):Option (Int):=
  some (a0.length:Int)
def ix(a0:(List ak))(a1:Int)(a2:Int):Option (Bool):=
  (qu a0 a1).bind fun x1=>(qu a0 a2).bind fun x2=>(bH x1.cf x2.cf).bind fun x3=>(qu a0 a1).bind fun x4=>(qu a0 a2).bind fun x5=>(bH x4.gt x5.gt).bind fun x6=>(cu [x3,x6]).bind fun x7=>some (decide (x7<0))
def iy(a1:Int)(a2:Int)(d0:(List ak)):Option ((List ak)):=
  (inO d0 a2).bind fun _=>(qu d0 a2).bind fun x3=>(inO d0 a1).bind fun _=>(qu d0 a1).bind fun x6=>(inO d0 a1).bind fun _=>(tC d0 a1 x3).bind fun x9=>(inO x9 a2).bind fun _=>(tC x9 a2 x6).bind fun x12=>some x12
def mF:(Int×(List ak))->Option (qw (Int×(List ak)) ((List ak))):=fun(s1,s2)=>
  (sj .i64 (IntKind.wrap .i64 (s1-1)) 2).bind fun x4=>if(x4==s1)=true then((some s2).bind fun z6=>some (.stop z6))else((ix s2 s1 x4).bind fun x7=>if(!x7)=true then((some s2).bind fun z9=>some (.stop z9))else((iy x4 s1 s2).bind fun x10=>some (.next (x4,x10))))
def nP(a0:Int)(e1:ag)(e2:Int)(e3:Int)(e4:Bool)(e5:aj)(d1:(List ak)):Option ((List ak)):=
  (py (mF) (a0,d1)).bind fun o12=>some o12
def l6(a0:ak)(e1:ag)(e2:Int)(e3:Int)(e4:Bool)(e5:aj):Option ((List ak)):=
  (nW a0 e1 e2 e3 e4 e5).bind fun x1=>(gV x1).bind fun x2=>(nP (IntKind.wrap .i64 (x2-1)) e1 e2 e3 e4 e5 x1).bind fun x3=>some x3
def jl(x1:Int×Int)(j2:Int)(j3:(List ak)):Option (Int×(List ak)×Int):=
  some (x1.2,j3,j2)
def kN(a0:ah)(e1:ag)(e2:Int)(e3:Int)(e4:Bool)(e5:aj):Option (Int×(List ak)×Int):=
  (eF e1 a0).bind fun x1=>if(x1.2==0)=true then((l6 (ak.mk a0 x1.1 e2) e1 e2 e3 e4 e5).bind fun x6=>jl x1 (IntKind.wrap .i64 (e2+1)) x6)else(jl x1 e2 ([]:List ak))
def iU(a0:Int)(e1:ag)(e2:Int)(e3:Int)(e4:Bool)(e5:aj)(d1:(List ak)):Option (Bool):=
  if((d1.length:Int)==0)=true then(some true)else(if e4=true then((inO d1 0).bind fun _=>(qu d1 0).bind fun x5=>some (decide ((IntKind.wrap .i64 (e5.bh-x5.cf))<=a0)))else(some false))
def eR(s2:(List ak))(s1:Int)(j8:Int):Option (qw (Int×(List ak)) (Int×(List ak))):=
  (ix s2 j8 s1).bind fun x9=>if(!x9)=true then(some (.stop (s1,s2)))else((iy s1 j8 s2).bind fun x11=>some (.next (j8,x11)))
def mX(a1:Int):(Int×(List ak))->Option (qw (Int×(List ak)) (Int×(List ak))):=fun(s1,s2)=>
  if(decide ((IntKind.wrap .i64 ((IntKind.wrap .i64 (2*s1))+1))>=a1))=true then(some (.stop (s1,s2)))else(if(decide ((IntKind.wrap .i64 ((IntKind.wrap .i64 (2*s1))+1))<0))=true then(some (.stop (s1,s2)))else(if(decide ((IntKind.wrap .i64 ((IntKind.wrap .i64 ((IntKind.wrap .i64 (2*s1))+1))+1))<a1))=true then((ix s2 (IntKind.wrap .i64 ((IntKind.wrap .i64 ((IntKind.wrap .i64 (2*s1))+1))+1)) (IntKind.wrap .i64 ((IntKind.wrap .i64 (2*s1))+1))).bind fun x14=>if x14=true then(eR s2 s1 (IntKind.wrap .i64 ((IntKind.wrap .i64 ((IntKind.wrap .i64 (2*s1))+1))+1)))else(eR s2 s1 (IntKind.wrap .i64 ((IntKind.wrap .i64 (2*s1))+1))))else(eR s2 s1 (IntKind.wrap .i64 ((IntKind.wrap .i64 (2*s1))+1)))))
def l7(a0:Int)(a1:Int)(e2:ag)(e3:Int)(e4:Int)(e5:Bool)(e6:aj)(d1:(List ak)):Option (Bool×(List ak)):=
  (py (mX a1) (a0,d1)).bind fun o17=>some ((decide (o17.1>a0)),o17.2)
def pb(e0:ag)(e1:Int)(e2:Int)(e3:Bool)(e4:aj)(d1:(List ak)):Option (ak×(List ak)):=
  (inO d1 (IntKind.wrap .i64 ((d1.length:Int)-1))).bind fun _=>(qu d1 (IntKind.wrap .i64 ((d1.length:Int)-1))).bind fun x3=>(w8 d1.length 0 (IntKind.wrap .i64 ((d1.length:Int)-1))).bind fun _=>some (x3,(d1.take ((IntKind.wrap .i64 ((d1.length:Int)-1)):Int).toNat))
def nn(e0:ag)(e1:Int)(e2:Int)(e3:Bool)(e4:aj)(d1:(List ak)):Option (ak×(List ak)):=
  (gV d1).bind fun x1=>(iy 0 (IntKind.wrap .i64 (x1-1)) d1).bind fun x2=>(l7 0 (IntKind.wrap .i64 (x1-1)) e0 e1 e2 e3 e4 x2).bind fun x3=>(pb e0 e1 e2 e3 e4 x3.2).bind fun x4=>some (x4.1,x4.2)
def bQ(a0:Int)(a1:Int):Option (Int):=
  (sj .i64 (IntKind.wrap .i64 (a1-a0)) 2).bind fun x1=>some (IntKind.wrap .i64 (a0+x1))
def bB(a0:aW):Option (aa):=
  some (aa.mk a0.a0 a0.a1 a0.a2)
def fi(a0:ah):Option (aa):=
  (bz a0).bind fun x1=>if(!x1)=true then(some (aa.mk 0 0 0))else((bv a0.aK).bind fun x3=>(bv a0.aF).bind fun x4=>(bQ x3.a0 x4.a0).bind fun x5=>(bQ x3.a1 x4.a1).bind fun x6=>(bQ x3.a2 x4.a2).bind fun x7=>(bB (aW.mk x5 x6 x7)).bind fun x8=>some x8)
def gU(a0:ag)(a1:aa):Option (Int×Int×Int):=
  (fx a0 (ah.mk a1 a1)).bind fun x1=>if(x1.2 != 0)=true then(some (0,0,x1.2))else((ir a0 x1.1).bind fun x3=>some (x3.1,x3.2,0))
def jI(a0:ah)(e1:ag)(e2:Int)(e3:Int)(e4:Bool)(e5:aj)(d1:(List ak)):Option (Int×Bool×aj):=
  (fi a0).bind fun x1=>(gU e1 x1).bind fun x2=>if(x2.2.2 != 0)=true then(some (x2.2.2,e4,e5))else(if(!e4)=true then(some (0,true,(aj.mk x1 x2.1 x2.2.1 0 (ah.mk (aa.mk 0 0 0) (aa.mk 0 0 0)))))else(if(decide (x2.2.1<e5.bh))=true then(some (0,true,(aj.mk x1 x2.1 x2.2.1 0 (ah.mk (aa.mk 0 0 0) (aa.mk 0 0 0)))))else(if(x2.2.1==e5.bh)=true then((dL x1 e5.aV).bind fun x7=>if(decide (x7<0))=true then(some (0,true,(aj.mk x1 x2.1 x2.2.1 0 (ah.mk (aa.mk 0 0 0) (aa.mk 0 0 0)))))else(some (0,e4,e5)))else(some (0,e4,e5)))))
def jo(a0:ah):Option (Int):=
  (bz a0).bind fun x1=>if(!x1)=true then(some 0)else((bv a0.aF).bind fun x3=>(bv a0.aK).bind fun x4=>some (IntKind.wrap .i64 ((IntKind.wrap .i64 ((IntKind.wrap .i64 (1*(IntKind.wrap .i64 ((IntKind.wrap .i64 (x3.a0-x4.a0))+1))))*(IntKind.wrap .i64 ((IntKind.wrap .i64 (x3.a1-x4.a1))+1))))*(IntKind.wrap .i64 ((IntKind.wrap .i64 (x3.a2-x4.a2))+1)))))
def e8(a0:ah):Option (ah×ah×Bool):=
  (jo a0).bind fun x1=>if(decide (x1<2))=true then(some ((ah.mk (aa.mk 0 0 0) (aa.mk 0 0 0)),(ah.mk (aa.mk 0 0 0) (aa.mk 0 0 0)),false))else((bv a0.aK).bind fun x3=>(bv a0.aF).bind fun x4=>if(decide ((IntKind.wrap .i64 (x4.a1-x3.a1))>(IntKind.wrap .i64 (x4.a0-x3.a0))))=true then(if(decide ((IntKind.wrap .i64 (x4.a2-x3.a2))>(IntKind.wrap .i64 (x4.a1-x3.a1))))=true then((bQ x3.a2 x4.a2).bind fun x7=>(bB (aW.mk x4.a0 x4.a1 x7)).bind fun x8=>(bB (aW.mk x3.a0 x3.a1 (IntKind.wrap .i64 (x7+1)))).bind fun x9=>some ((ah.mk a0.aK x8),(ah.mk x9 a0.aF),true))else((bQ x3.a1 x4.a1).bind fun x10=>(bB (aW.mk x4.a0 x10 x4.a2)).bind fun x11=>(bB (aW.mk x3.a0 (IntKind.wrap .i64 (x10+1)) x3.a2)).bind fun x12=>some ((ah.mk a0.aK x11),(ah.mk x12 a0.aF),true)))else(if(decide ((IntKind.wrap .i64 (x4.a2-x3.a2))>(IntKind.wrap .i64 (x4.a0-x3.a0))))=true then((bQ x3.a2 x4.a2).bind fun x14=>(bB (aW.mk x4.a0 x4.a1 x14)).bind fun x15=>(bB (aW.mk x3.a0 x3.a1 (IntKind.wrap .i64 (x14+1)))).bind fun x16=>some ((ah.mk a0.aK x15),(ah.mk x16 a0.aF),true))else((bQ x3.a0 x4.a0).bind fun x17=>(bB (aW.mk x17 x4.a1 x4.a2)).bind fun x18=>(bB (aW.mk (IntKind.wrap .i64 (x17+1)) x3.a1 x3.a2)).bind fun x19=>some ((ah.mk a0.aK x18),(ah.mk x19 a0.aF),true))))
def mJ(a0:ak)(e1:ag)(e2:Int)(e3:Int)(e4:Bool)(e5:aj)(d1:(List ak)):Option ((List ak)):=
  (rF d1 [a0] 64).bind fun x1=>some x1
def kD(a0:ak)(e1:ag)(e2:Int)(e3:Int)(e4:Bool)(e5:aj)(d1:(List ak)):Option ((List ak)):=
  (mJ a0 e1 e2 e3 e4 e5 d1).bind fun x1=>(gV x1).bind fun x2=>(nP (IntKind.wrap .i64 (x2-1)) e1 e2 e3 e4 e5 x1).bind fun x3=>some x3
def iC(x1:Int×Int)(j2:Int)(j3:(List ak)):Option (Int×Int×(List ak)):=
  some (x1.2,j2,j3)
def iB(a0:ah)(e1:ag)(e2:Int)(e3:Int)(e4:Bool)(e5:aj)(d1:(List ak)):Option (Int×Int×(List ak)):=
  (eF e1 a0).bind fun x1=>if(x1.2==0)=true then((kD (ak.mk a0 x1.1 e2) e1 e2 e3 e4 e5 d1).bind fun x6=>iC x1 (IntKind.wrap .i64 (e2+1)) x6)else(iC x1 e2 d1)
def jJ(e0:ag)(e1:Int)(e2:Int)(e3:Bool)(e4:aj)(d1:(List ak)):Option (Int×Int×Int×Bool×aj×(List ak)):=
  if(e2==3000)=true then(some (25,e1,e2,e3,e4,d1))else((inO d1 0).bind fun _=>(qu d1 0).bind fun x4=>(nn e0 e1 e2 e3 e4 d1).bind fun x5=>(jI x4.jw e0 e1 (IntKind.wrap .i64 (e2+1)) e3 e4 x5.2).bind fun x6=>if(x6.1 != 0)=true then(some (x6.1,e1,(IntKind.wrap .i64 (e2+1)),x6.2.1,x6.2.2,x5.2))else((e8 x4.jw).bind fun x8=>if(!x8.2.2)=true then(some (0,e1,(IntKind.wrap .i64 (e2+1)),x6.2.1,x6.2.2,x5.2))else((iB x8.1 e0 e1 (IntKind.wrap .i64 (e2+1)) x6.2.1 x6.2.2 x5.2).bind fun x10=>if(x10.1 != 0)=true then(some (x10.1,x10.2.1,(IntKind.wrap .i64 (e2+1)),x6.2.1,x6.2.2,x10.2.2))else((iB x8.2.1 e0 x10.2.1 (IntKind.wrap .i64 (e2+1)) x6.2.1 x6.2.2 x10.2.2).bind fun x12=>some (x12.1,x12.2.1,(IntKind.wrap .i64 (e2+1)),x6.2.1,x6.2.2,x12.2.2)))))
def kf(a1:Int)(a0:ag):(Int×Int×Bool×aj×(List ak))->Option (qw (Int×Int×Bool×aj×(List ak)) (((List ak)×Int×Int×Bool×aj)⊕((Option bP)×Int))):=fun(s6,s7,s8,s9,s10)=>
  (iU a1 a0 s6 s7 s8 s9 s10).bind fun x17=>if(!x17)=true then((jJ a0 s6 s7 s8 s9 s10).bind fun x19=>if(x19.1 != 0)=true then(some (.stop (.inr (none,x19.1))))else(some (.next (x19.2.1,x19.2.2.1,x19.2.2.2.1,x19.2.2.2.2.1,x19.2.2.2.2.2))))else(some (.stop (.inl (s10,s6,s7,s8,s9))))
def ip(a0:ag)(a1:Int):Option ((Option bP)×Int):=
  (gK a0).bind fun x1=>if(x1 != 0)=true then(some (none,x1))else(if(decide (a1<0))=true then(some (none,2))else((kN a0.aN a0 0 0 false (aj.mk (aa.mk 0 0 0) 0 0 0 (ah.mk (aa.mk 0 0 0) (aa.mk 0 0 0)))).bind fun x4=>if(x4.1 != 0)=true then(some (none,x4.1))else((py (kf a1 a0) (x4.2.2,0,false,(aj.mk (aa.mk 0 0 0) 0 0 0 (ah.mk (aa.mk 0 0 0) (aa.mk 0 0 0))),x4.2.1)).bind fun o22=>match o22 with| .inl y23=>(some ((some (bP.mk a0 y23.1 y23.2.1 y23.2.2.1 y23.2.2.2.1 (aj.mk (aa.mk y23.2.2.2.2.aV.fX y23.2.2.2.2.aV.fY y23.2.2.2.2.aV.fZ) y23.2.2.2.2.aX y23.2.2.2.2.bh y23.2.2.2.2.dW (ah.mk (aa.mk y23.2.2.2.2.aY.aK.fX y23.2.2.2.2.aY.aK.fY y23.2.2.2.2.aY.aK.fZ) (aa.mk y23.2.2.2.2.aY.aF.fX y23.2.2.2.2.aY.aF.fY y23.2.2.2.2.aY.aF.fZ))))),0))| .inr r24=>(some r24))))
def kW(a0:ah)(a1:ah):Option (ah):=
  (bz a0).bind fun x1=>if(!x1)=true then(some (ah.mk (aa.mk 0 0 0) (aa.mk 0 0 0)))else((bz a1).bind fun x3=>if(!x3)=true then(some (ah.mk (aa.mk 0 0 0) (aa.mk 0 0 0)))else((bv a0.aK).bind fun x5=>(bv a0.aF).bind fun x6=>(bv a1.aK).bind fun x7=>(bv a1.aF).bind fun x8=>(bB (aW.mk (if x7.a0<x5.a0 then x7.a0 else x5.a0) (if x7.a1<x5.a1 then x7.a1 else x5.a1) (if x7.a2<x5.a2 then x7.a2 else x5.a2))).bind fun x9=>(bB (aW.mk (if x8.a0>x6.a0 then x8.a0 else x6.a0) (if x8.a1>x6.a1 then x8.a1 else x6.a1) (if x8.a2>x6.a2 then x8.a2 else x6.a2))).bind fun x10=>some (ah.mk x9 x10)))
def ke(y2:bP):(Int×Int×ah)->Option (qw (Int×Int×ah) (Int×ah)):=fun(s5,s6,s7)=>
  if(decide (s5<(y2.kb.length:Int)))=true then((qu y2.kb s5).bind fun x12=>if(decide (x12.cf<y2.bS.bh))=true then((kW s7 x12.jw).bind fun x14=>some (.next ((IntKind.wrap .i64 (s5+1)),(if x12.cf<s6 then x12.cf else s6),x14)))else(some (.next ((IntKind.wrap .i64 (s5+1)),(if x12.cf<s6 then x12.cf else s6),s7))))else(some (.stop (s6,s7)))
def c6(a0:ag)(a1:Int):Option (aj×Int):=
  (ip a0 a1).bind fun x1=>optC x1.1 (if(x1.2 != 0)=true then(some ((aj.mk (aa.mk 0 0 0) 0 0 0 (ah.mk (aa.mk 0 0 0) (aa.mk 0 0 0))),x1.2))else(none)) (fun y2=>if(x1.2 != 0)=true then(some ((aj.mk (aa.mk 0 0 0) 0 0 0 (ah.mk (aa.mk 0 0 0) (aa.mk 0 0 0))),x1.2))else((py (ke y2) (0,y2.bS.bh,(ah.mk y2.bS.aV y2.bS.aV))).bind fun o16=>some ((aj.mk y2.bS.aV y2.bS.aX y2.bS.bh o16.1 (ah.mk (aa.mk o16.2.aK.fX o16.2.aK.fY o16.2.aK.fZ) (aa.mk o16.2.aF.fX o16.2.aF.fY o16.2.aF.fZ))),0)))
def iv(x1:(List aG)×Int)(a2:Int):(Int×(List Int))->Option (qw (Int×(List Int)) ((List Int))):=fun(s6,s7)=>
  if(decide (s6<(x1.1.length:Int)))=true then((qu x1.1 s6).bind fun x11=>(fj x11 a2).bind fun x12=>(rF s7 [x12] 8).bind fun x13=>some (.next ((IntKind.wrap .i64 (s6+1)),x13)))else(some (.stop s7))
def ge(a0:ag)(a1:aa)(a2:Int):Option ((List Int)×Int):=
  (fx a0 (ah.mk a1 a1)).bind fun x1=>if(x1.2 != 0)=true then(some (([]:(List Int)),x1.2))else(if(decide (a2<(-18014398509481984)))=true then(some (([]:(List Int)),2))else(if(decide (a2>18014398509481984))=true then(some (([]:(List Int)),2))else((mkCO 0 (x1.1.length:Int) 0 8).bind fun x5=>(py (iv x1 a2) (0,x5)).bind fun o15=>some (o15,0))))
def jT(a1:Int)(d0:(List Int))(d1:(List Int)):Option ((List Int)×(List Int)):=
  (inO d1 a1).bind fun _=>(qu d1 a1).bind fun x3=>(inO d0 a1).bind fun _=>(qu d0 a1).bind fun x6=>(inO d0 a1).bind fun _=>(qu d0 a1).bind fun x9=>(inO d1 a1).bind fun _=>(qu d1 a1).bind fun x12=>(inO d0 x3).bind fun _=>(tC d0 x3 x9).bind fun x15=>(inO d1 x6).bind fun _=>(tC d1 x6 x12).bind fun x18=>some (x15,x18)
def ch(x18:(List Int)×(List Int)×(List Int))(x3:(List Int))(j19:(List a7))(j20:(List Int)):Option (qw ((List a7)×(List Int)×(List Int)×(List Int)) (((List a7)×(List Int))⊕((List a7)×(List Int)×Int))):=
  (qu x18.1 0).bind fun x21=>(qu x3 x21).bind fun x22=>(rF j20 [x22] 8).bind fun x23=>(qu x18.1 0).bind fun x24=>(jT x24 x18.2.1 x18.2.2).bind fun x25=>some (.next (j19,x23,x25.1,x25.2))
def df(x18:(List Int)×(List Int)×(List Int))(x3:(List Int))(a1:(List al))(s5:(List a7))(s6:(List Int)):(Int×(List al))->Option (qw (Int×(List al)) ((List al)×(List a7)×(List Int))):=fun(s28,s29)=>
  if(decide (s28<(x18.1.length:Int)))=true then((qu x18.1 s28).bind fun x35=>(qu x3 x35).bind fun x36=>(qu a1 x36).bind fun x37=>(rF s29 [x37] 48).bind fun x38=>some (.next ((IntKind.wrap .i64 (s28+1)),x38)))else(some (.stop (s29,s5,s6)))
def dg(x18:(List Int)×(List Int)×(List Int))(x45:(List Int)×Int)(a0:aJ):(Int×(List Int))->Option (qw (Int×(List Int)) ((List Int))):=fun(s47,s48)=>
  if(decide (s47<(x18.1.length:Int)))=true then((qu x18.1 s47).bind fun x52=>(qu x45.1 s47).bind fun x53=>if(decide (x53<=a0.lw))=true then((rF s48 [x52] 8).bind fun x55=>some (.next ((IntKind.wrap .i64 (s47+1)),x55)))else(some (.next ((IntKind.wrap .i64 (s47+1)),s48))))else(some (.stop s48))
def cj(o57:(List Int))(x3:(List Int)):(Int×(List Int)×(List Int)×(List Int))->Option (qw (Int×(List Int)×(List Int)×(List Int)) ((List Int)×(List Int)×(List Int))):=fun(s59,s60,s61,s62)=>
  if(decide (s59<(o57.length:Int)))=true then((inO o57 s59).bind fun _=>(qu o57 s59).bind fun x70=>(jT x70 s60 s61).bind fun x71=>(qu x3 x70).bind fun x72=>(rF s62 [x72] 8).bind fun x73=>some (.next ((IntKind.wrap .i64 (s59+1)),x71.1,x71.2,x73)))else(some (.stop (s60,s61,s62)))
def bV(a0:aJ)(a1:(List al))(x3:(List Int)):((List a7)×(List Int)×(List Int)×(List Int))->Option (qw ((List a7)×(List Int)×(List Int)×(List Int)) (((List a7)×(List Int))⊕((List a7)×(List Int)×Int))):=fun(s5,s6,s7,s8)=>
  (iJ (bg.mk s7 s8)).bind fun x12=>(inO s7 x12).bind fun _=>(qu s7 x12).bind fun x15=>(iJ (bg.mk s7 s8)).bind fun x16=>if(x15 != x16)=true then((kV a0 a1 x3 s7 s8).bind fun x18=>if(decide ((x18.1.length:Int)>=a0.cv))=true then((py (df x18 x3 a1 s5 s6) (0,([]:(List al)))).bind fun o40=>(ej a0 o40.1).bind fun x41=>(c6 x41 a0.bR).bind fun x42=>if(x42.2 != 0)=true then(some (.stop (.inr (([]:(List a7)),([]:(List Int)),x42.2))))else((ej a0 o40.1).bind fun x44=>(ge x44 x42.1.aV x42.1.aX).bind fun x45=>if(x45.2 != 0)=true then(some (.stop (.inr (([]:(List a7)),([]:(List Int)),x45.2))))else((py (dg x18 x45 a0) (0,([]:(List Int)))).bind fun o57=>if(decide ((o57.length:Int)>=a0.cv))=true then((py (cj o57 x3) (0,x18.2.1,x18.2.2,([]:(List Int)))).bind fun o75=>(tn o75.2.2).bind fun x76=>(rF o40.2.1 [(a7.mk x76 x42.1.aV x42.1.aX)] 56).bind fun x77=>some (.next (x77,o40.2.2,o75.1,o75.2.1)))else(ch x18 x3 o40.2.1 o40.2.2))))else(ch x18 x3 s5 s6))else(some (.stop (.inl (s5,s6))))
def fP(a0:aJ)(a1:(List al)):Option ((List a7)×(List Int)×Int):=
  (db a0 a1).bind fun x1=>if(x1 != 0)=true then(some (([]:(List a7)),([]:(List Int)),x1))else((jm a1).bind fun x3=>(gq (a1.length:Int)).bind fun x4=>(py (bV a0 a1 x3) (([]:(List a7)),([]:(List Int)),x4.nl,x4.fback)).bind fun o79=>match o79 with| .inl y80=>((tn y80.2).bind fun x82=>some (y80.1,x82,0))| .inr r81=>(some r81))
def iZ(x5:(List ae))(a0:aq)(a1:ar):(Int×(List ae)×(List al)×(List av))->Option (qw (Int×(List ae)×(List al)×(List av)) ((List ae)×(List al)×(List av))):=fun(s6,s7,s8,s9)=>
  if(decide (s6<(x5.length:Int)))=true then((qu x5 s6).bind fun x15=>(cA a0 a1 x15).bind fun x16=>if x16.2.2=true then((rF s7 [x15] 104).bind fun x18=>(rF s8 [x16.1] 48).bind fun x19=>(rF s9 [x16.2.1] 80).bind fun x20=>some (.next ((IntKind.wrap .i64 (s6+1)),x18,x19,x20)))else(some (.next ((IntKind.wrap .i64 (s6+1)),s7,s8,s9))))else(some (.stop (s7,s8,s9)))
def gN(a0:aq)(a1:ar)(a2:(List ae)):Option (aS×Int):=
  (ep a0).bind fun x1=>if(x1 != 0)=true then(some ((aS.mk [] [] []),27))else((cM a1).bind fun x3=>if(!x3)=true then(some ((aS.mk [] [] []),1))else((di a2).bind fun x5=>(py (iZ x5 a0 a1) (0,([]:(List ae)),([]:(List al)),([]:(List av)))).bind fun o22=>some ((aS.mk o22.1 o22.2.1 o22.2.2),0)))
def iP(a0:aS)(a1:aq):Option (ag×Int):=
  if((a0.c7.length:Int)==0)=true then(some ((ag.mk (ah.mk (aa.mk 0 0 0) (aa.mk 0 0 0)) (aI.mk 0 [] []) [] 0),24))else(if(decide ((a0.c7.length:Int)>64))=true then(some ((ag.mk (ah.mk (aa.mk 0 0 0) (aa.mk 0 0 0)) (aI.mk 0 [] []) [] 0),8))else((sg 8 a1.ai.bi.aK).bind fun x3=>(sg 8 a1.ai.bi.aF).bind fun x4=>some ((ag.mk a1.ai.aN (aI.mk a1.ai.bi.bn x3 x4) a0.c7 a1.ai.cW),0)))
def nat_From_l9:(Int×(List Int))->Option (qw (Int×(List Int)) ((List Int))):=fun(s2,s3)=>
  if(decide (s2>0))=true then((wi s2 1073741824).bind fun x7=>(rF s3 [x7] 8).bind fun x8=>some (.next ((qP .i64 s2 30),x8)))else(some (.stop s3))
def ql(a0:Int):Option ((List Int)×Int):=
  if(decide (a0<0))=true then(some (([]:(List Int)),2))else((py (nat_From_l9) (a0,([]:(List Int)))).bind fun o10=>some (o10,0))
def mo(a0:Int):Option (Bool):=
  if(decide (a0<0))=true then(some true)else(some (decide (a0>=1073741824)))
def gp(a0:(List Int)):Int->Option (qw (Int) ((Unit)⊕(Int))):=fun s1=>
  if(decide (s1<(a0.length:Int)))=true then((qu a0 s1).bind fun x4=>(mo x4).bind fun x5=>if x5=true then(some (.stop (.inr s1)))else(some (.next (IntKind.wrap .i64 (s1+1)))))else(some (.stop (.inl ())))
def fc(a0:(List Int)):Option (Int):=
  (py (gp a0) 0).bind fun o8=>match o8 with| .inl _=>(some (-1))| .inr r10=>(some r10)
def ct(a0:(List Int)):Option (Bool):=
  (fc a0).bind fun x1=>some (decide (x1>=0))
def jH(a0:(List Int)):Option (Bool):=
  if(decide ((a0.length:Int)>64))=true then(some false)else(if(decide ((a0.length:Int)>0))=true then((qu a0 (IntKind.wrap .i64 ((a0.length:Int)-1))).bind fun x3=>if(x3==0)=true then(some false)else((ct a0).bind fun x5=>some (!x5)))else((ct a0).bind fun x6=>some (!x6)))
def oL(a0:(List Int))(a1:(List Int)):Option (Bool):=
  (jH a0).bind fun x1=>if x1=true then((jH a1).bind fun x3=>some x3)else(some false)
def l9(a0:(List Int))(a1:Int):Option (Int):=
  if(decide (a1>=(a0.length:Int)))=true then(some 0)else((qu a0 a1).bind fun x2=>some x2)
def nat_trim_l8:(List Int)->Option (qw ((List Int)) ((List Int))):=fun s1=>
  if(decide ((s1.length:Int)>0))=true then((qu s1 (IntKind.wrap .i64 ((s1.length:Int)-1))).bind fun x5=>if(x5==0)=true then((xi s1 0 (IntKind.wrap .i64 ((s1.length:Int)-1))).bind fun x7=>some (.next x7))else(some (.stop s1)))else(some (.stop s1))
def oM(a0:(List Int)):Option ((List Int)):=
  (py (nat_trim_l8) a0).bind fun o9=>some o9
def nv(a1:(List Int))(s2:Int)(x7:Int):(Int×Int×(List Int))->Option (qw (Int×Int×(List Int)) (Int×(List Int))):=fun(s8,s9,s10)=>
  if(decide (s9<(IntKind.wrap .i64 ((a1.length:Int)+1))))=true then(if(decide ((IntKind.wrap .i64 (s2+s9))<(s10.length:Int)))=true then((inO s10 (IntKind.wrap .i64 (s2+s9))).bind fun _=>(qu s10 (IntKind.wrap .i64 (s2+s9))).bind fun x18=>(l9 a1 s9).bind fun x19=>(wi (IntKind.wrap .i64 (s8+(IntKind.wrap .i64 (x18+(IntKind.wrap .i64 (x7*x19)))))) 1073741824).bind fun x20=>(inO s10 (IntKind.wrap .i64 (s2+s9))).bind fun _=>(tC s10 (IntKind.wrap .i64 (s2+s9)) x20).bind fun x23=>some (.next ((qP .i64 (IntKind.wrap .i64 (s8+(IntKind.wrap .i64 (x18+(IntKind.wrap .i64 (x7*x19)))))) 30),(IntKind.wrap .i64 (s9+1)),x23)))else(some (.next (s8,(IntKind.wrap .i64 (s9+1)),s10))))else(some (.stop (s2,s10)))
def nw(a0:(List Int))(a1:(List Int)):(Int×(List Int))->Option (qw (Int×(List Int)) ((List Int))):=fun(s2,s3)=>
  if(decide (s2<(a0.length:Int)))=true then((qu a0 s2).bind fun x7=>(py (nv a1 s2 x7) (0,0,s3)).bind fun o25=>some (.next ((IntKind.wrap .i64 (o25.1+1)),o25.2)))else(some (.stop s3))
def iQ(a0:(List Int))(a1:(List Int)):Option ((List Int)):=
  (mkO (IntKind.wrap .i64 ((a0.length:Int)+(a1.length:Int))) 0 8).bind fun x1=>(py (nw a0 a1) (0,x1)).bind fun o27=>(oM o27).bind fun x28=>some x28
def iw(a0:(List Int)):Option ((List Int)×Int):=
  (oM a0).bind fun x1=>if(decide ((x1.length:Int)>64))=true then(some (([]:(List Int)),8))else(some (x1,0))
def nat_Mul(a0:(List Int))(a1:(List Int)):Option ((List Int)×Int):=
  (oL a0 a1).bind fun x1=>if(!x1)=true then(some (([]:(List Int)),1))else((iQ a0 a1).bind fun x3=>(iw x3).bind fun x4=>some (x4.1,x4.2))
def c9(a0:Int):Option ((List Int)):=
  (ql (if(IntKind.wrap .i64 (0-a0))>a0 then(IntKind.wrap .i64 (0-a0))else a0)).bind fun x1=>(nat_Mul x1.1 x1.1).bind fun x2=>some x2.1
def nat_Add_l13(a1:(List Int))(a0:(List Int)):(Int×Int×(List Int))->Option (qw (Int×Int×(List Int)) ((List Int))):=fun(s3,s4,s5)=>
  if(decide (s4<(IntKind.wrap .i64 ((if(a1.length:Int)>(a0.length:Int)then(a1.length:Int)else(a0.length:Int))+1))))=true then((l9 a0 s4).bind fun x9=>(l9 a1 s4).bind fun x10=>(wi (IntKind.wrap .i64 (s3+(IntKind.wrap .i64 (x9+x10)))) 1073741824).bind fun x11=>(rF s5 [x11] 8).bind fun x12=>some (.next ((qP .i64 (IntKind.wrap .i64 (s3+(IntKind.wrap .i64 (x9+x10)))) 30),(IntKind.wrap .i64 (s4+1)),x12)))else(some (.stop s5))
def nat_Add(a0:(List Int))(a1:(List Int)):Option ((List Int)×Int):=
  (oL a0 a1).bind fun x1=>if(!x1)=true then(some (([]:(List Int)),1))else((py (nat_Add_l13 a1 a0) (0,0,([]:(List Int)))).bind fun o14=>(iw o14).bind fun x15=>some (x15.1,x15.2))
def gf(a0:aW)(a1:Int)(a2:Int):Option ((List Int)):=
  (c9 (IntKind.wrap .i64 ((IntKind.wrap .i64 ((IntKind.wrap .i64 (a0.a0*a2))*a2))-(IntKind.wrap .i64 ((IntKind.wrap .i64 (a0.a2*a1))*a1))))).bind fun x1=>(c9 (IntKind.wrap .i64 ((IntKind.wrap .i64 (a0.a1*a1))*a2))).bind fun x2=>(nat_Add x1 x2).bind fun x3=>some x3.1
def k8(a0:aH)(a1:Int)(a2:Int):Option (aL×Bool):=
  if(a0.fM==0)=true then((c9 a0.bG.a0).bind fun x2=>(c9 a0.bw.a0).bind fun x3=>some ((aL.mk x2 x3),true))else(if(a0.fM==1)=true then((gf a0.bG a1 a2).bind fun x5=>(gf a0.bw a1 a2).bind fun x6=>some ((aL.mk x5 x6),(decide ((x6.length:Int)>0))))else((dv a0.dG).bind fun x7=>(c9 x7).bind fun x8=>(xx .i64 1 a0.dI).bind fun x9=>(c9 x9).bind fun x10=>some ((aL.mk x8 x10),true)))
def fy(a0:aL):Option (Bool):=
  (jH a0.bG).bind fun x1=>if x1=true then((jH a0.bw).bind fun x3=>if x3=true then(some (decide ((a0.bw.length:Int)>0)))else(some false))else(some false)
def pa(a0:aL)(a1:aL):Option (aL×Int):=
  (fy a0).bind fun x1=>if(!x1)=true then(some ((aL.mk [] []),1))else((fy a1).bind fun x3=>if(!x3)=true then(some ((aL.mk [] []),1))else((iQ a0.bG a1.bG).bind fun x5=>(iw x5).bind fun x6=>(iQ a0.bw a1.bw).bind fun x7=>(iw x7).bind fun x8=>if(x6.2 != 0)=true then(some ((aL.mk [] []),8))else(if(x8.2 != 0)=true then(some ((aL.mk [] []),8))else(some ((aL.mk x6.1 x8.1),0)))))
def mK(a0:aQ)(a1:Int)(a2:Int):(Int×(List Int)×(List Int))->Option (qw (Int×(List Int)×(List Int)) (((List Int)×(List Int))⊕(aL×Int))):=fun(s7,s8,s9)=>
  if(decide (s7<(a0.bC.length:Int)))=true then((qu a0.bC s7).bind fun x14=>(k8 x14 a1 a2).bind fun x15=>if(!x15.2)=true then(some (.stop (.inr ((aL.mk [] []),11))))else((pa (aL.mk s8 s9) x15.1).bind fun x17=>if(x17.2 != 0)=true then(some (.stop (.inr ((aL.mk [] []),x17.2))))else(some (.next ((IntKind.wrap .i64 (s7+1)),x17.1.bG,x17.1.bw)))))else(some (.stop (.inl (s8,s9))))
def k7(a0:aQ)(a1:Int)(a2:Int):Option (aL×Int):=
  (fb a0).bind fun x1=>if(!x1)=true then(some ((aL.mk [] []),1))else((bq a1 0 65536).bind fun x3=>if(!x3)=true then(some ((aL.mk [] []),2))else((bq a2 1 65536).bind fun x5=>if(!x5)=true then(some ((aL.mk [] []),2))else((py (mK a0 a1 a2) (0,[1],[1])).bind fun o20=>match o20 with| .inl y21=>(some ((aL.mk y21.1 y21.2),0))| .inr r22=>(some r22))))
def dZ(a0:Int)(j15:Int)(j16:Int):Option (Int):=
  some (IntKind.wrap .i64 ((IntKind.wrap .i64 (256*a0))+j16))
def d4(a0:Int)(j13:Int)(j14:Int):Option (Int):=
  if(decide ((qP .i64 (IntKind.wrap .i64 (j13*j13)) 30)>=2147483648))=true then((sj .i64 (qP .i64 (IntKind.wrap .i64 (j13*j13)) 30) 2).bind fun x19=>dZ a0 x19 (IntKind.wrap .i64 ((IntKind.wrap .i64 (j14*2))+1)))else(dZ a0 (qP .i64 (IntKind.wrap .i64 (j13*j13)) 30) (IntKind.wrap .i64 (j14*2)))
def d5(a0:Int)(j11:Int)(j12:Int):Option (Int):=
  if(decide ((qP .i64 (IntKind.wrap .i64 (j11*j11)) 30)>=2147483648))=true then((sj .i64 (qP .i64 (IntKind.wrap .i64 (j11*j11)) 30) 2).bind fun x22=>d4 a0 x22 (IntKind.wrap .i64 ((IntKind.wrap .i64 (j12*2))+1)))else(d4 a0 (qP .i64 (IntKind.wrap .i64 (j11*j11)) 30) (IntKind.wrap .i64 (j12*2)))
def d6(a0:Int)(j9:Int)(j10:Int):Option (Int):=
  if(decide ((qP .i64 (IntKind.wrap .i64 (j9*j9)) 30)>=2147483648))=true then((sj .i64 (qP .i64 (IntKind.wrap .i64 (j9*j9)) 30) 2).bind fun x25=>d5 a0 x25 (IntKind.wrap .i64 ((IntKind.wrap .i64 (j10*2))+1)))else(d5 a0 (qP .i64 (IntKind.wrap .i64 (j9*j9)) 30) (IntKind.wrap .i64 (j10*2)))
def d7(a0:Int)(j7:Int)(j8:Int):Option (Int):=
  if(decide ((qP .i64 (IntKind.wrap .i64 (j7*j7)) 30)>=2147483648))=true then((sj .i64 (qP .i64 (IntKind.wrap .i64 (j7*j7)) 30) 2).bind fun x28=>d6 a0 x28 (IntKind.wrap .i64 ((IntKind.wrap .i64 (j8*2))+1)))else(d6 a0 (qP .i64 (IntKind.wrap .i64 (j7*j7)) 30) (IntKind.wrap .i64 (j8*2)))
def d8(a0:Int)(j5:Int)(j6:Int):Option (Int):=
  if(decide ((qP .i64 (IntKind.wrap .i64 (j5*j5)) 30)>=2147483648))=true then((sj .i64 (qP .i64 (IntKind.wrap .i64 (j5*j5)) 30) 2).bind fun x31=>d7 a0 x31 (IntKind.wrap .i64 ((IntKind.wrap .i64 (j6*2))+1)))else(d7 a0 (qP .i64 (IntKind.wrap .i64 (j5*j5)) 30) (IntKind.wrap .i64 (j6*2)))
def d9(a0:Int)(j3:Int)(j4:Int):Option (Int):=
  if(decide ((qP .i64 (IntKind.wrap .i64 (j3*j3)) 30)>=2147483648))=true then((sj .i64 (qP .i64 (IntKind.wrap .i64 (j3*j3)) 30) 2).bind fun x34=>d8 a0 x34 (IntKind.wrap .i64 ((IntKind.wrap .i64 (j4*2))+1)))else(d8 a0 (qP .i64 (IntKind.wrap .i64 (j3*j3)) 30) (IntKind.wrap .i64 (j4*2)))
def ec(a0:Int)(j1:Int)(j2:Int):Option (Int):=
  if(decide ((qP .i64 (IntKind.wrap .i64 (j1*j1)) 30)>=2147483648))=true then((sj .i64 (qP .i64 (IntKind.wrap .i64 (j1*j1)) 30) 2).bind fun x37=>d9 a0 x37 (IntKind.wrap .i64 ((IntKind.wrap .i64 (j2*2))+1)))else(d9 a0 (qP .i64 (IntKind.wrap .i64 (j1*j1)) 30) (IntKind.wrap .i64 (j2*2)))
def gd(a0:Int)(a1:Int):Option (Int):=
  if(decide ((qP .i64 (IntKind.wrap .i64 (a1*a1)) 30)>=2147483648))=true then((sj .i64 (qP .i64 (IntKind.wrap .i64 (a1*a1)) 30) 2).bind fun x40=>ec a0 x40 1)else(ec a0 (qP .i64 (IntKind.wrap .i64 (a1*a1)) 30) 0)
def gT(a0:Int):Option (Int×Int):=
  if(decide (a0<1))=true then(some (0,2))else((fU (IntKind.wrap .u64 a0)).bind fun x2=>if(decide ((IntKind.wrap .i64 (x2-1))<=30))=true then((xx .i64 a0 (IntKind.wrap .i64 (30-(IntKind.wrap .i64 (x2-1))))).bind fun x4=>(gd (IntKind.wrap .i64 (x2-1)) x4).bind fun x5=>some (x5,0))else((shrO .i64 a0 (IntKind.wrap .i64 ((IntKind.wrap .i64 (x2-1))-30))).bind fun x6=>(gd (IntKind.wrap .i64 (x2-1)) x6).bind fun x7=>some (x7,0)))
def gc(a0:(List Int)):Option (Int×Int):=
  (jH a0).bind fun x1=>if(!x1)=true then(some (0,1))else(if(decide ((IntKind.wrap .i64 ((a0.length:Int)-1))<0))=true then(some (0,2))else(if((IntKind.wrap .i64 ((a0.length:Int)-1))==0)=true then((qu a0 0).bind fun x5=>(gT x5).bind fun x6=>some (x6.1,x6.2))else((qu a0 (IntKind.wrap .i64 ((a0.length:Int)-1))).bind fun x7=>(qu a0 (IntKind.wrap .i64 ((IntKind.wrap .i64 ((a0.length:Int)-1))-1))).bind fun x8=>(gT (orI .i64 (shlI .i64 x7 30) x8)).bind fun x9=>some ((IntKind.wrap .i64 (x9.1+(IntKind.wrap .i64 (7680*(IntKind.wrap .i64 ((IntKind.wrap .i64 ((a0.length:Int)-1))-1)))))),x9.2))))
def iO(a0:bu)(a1:aQ)(a2:Int):Option (Int×Int):=
  (k7 a1 a0.bG a0.bw).bind fun x1=>if(x1.2 != 0)=true then(some (0,x1.2))else((gc x1.1.bG).bind fun x3=>if(x3.2 != 0)=true then(some (0,24))else((gc x1.1.bw).bind fun x5=>if(x5.2 != 0)=true then(some (0,x5.2))else((gT a2).bind fun x7=>some ((IntKind.wrap .i64 ((IntKind.wrap .i64 ((IntKind.wrap .i64 (2*x7.1))+x5.1))-x3.1)),x7.2))))
def iq(a0:Int):Option (Int):=
  some (qP .i64 a0 1)
def kH(a0:Int):Option (Int×Bool):=
  if(decide (a0>=(-16777216)))=true then(some ((IntKind.wrap .i64 (a0*30103)),(decide (a0<=16777216))))else(some ((IntKind.wrap .i64 (a0*30103)),false))
def gJ(a0:Int):Option (Int):=
  (kH a0).bind fun x1=>if(!x1.2)=true then(some 0)else((sj .i64 x1.1 256000).bind fun x3=>(wi x1.1 256000).bind fun x4=>if(decide (x4<0))=true then(some (IntKind.wrap .i64 (x3-1)))else(some x3))
def kg(a0:Int):Option (Int):=
  (gJ (IntKind.wrap .i64 (0-a0))).bind fun x1=>some (IntKind.wrap .i64 (0-x1))
def fw(a0:bu)(a1:aQ)(a2:Int)(a3:Int)(a4:Int):Option (az×Int):=
  (cK a0).bind fun x1=>if(!x1)=true then(some ((az.mk 0 0),27))else(if(decide (a2<1))=true then(some ((az.mk 0 0),2))else(if(decide (a2>1073741823))=true then(some ((az.mk 0 0),2))else((iO a0 a1 a2).bind fun x5=>if(x5.2 != 0)=true then(some ((az.mk 0 0),x5.2))else((b7 a0.bY a3 a4).bind fun x7=>if(x7.2.2 != 0)=true then(some ((az.mk 0 0),x7.2.2))else((iq (IntKind.wrap .i64 (x5.1-2))).bind fun x9=>(gJ x9).bind fun x10=>(iq (IntKind.wrap .i64 ((IntKind.wrap .i64 (0-x5.1))-6))).bind fun x11=>(kg (IntKind.wrap .i64 (0-x11))).bind fun x12=>some ((az.mk (IntKind.wrap .i64 (x10+x7.1)) (IntKind.wrap .i64 (x12+x7.2.1))),0))))))
def du(a0:aS)(a2:ah)(a1:aq):(Int×(List az))->Option (qw (Int×(List az)) ((List az))):=fun(s1,s2)=>
  if(decide (s1<(a0.c7.length:Int)))=true then((qu a0.c7 s1).bind fun x6=>(qu a0.jn s1).bind fun x7=>(qu a0.dl s1).bind fun x8=>(eQ a2 x6.aO).bind fun x9=>(gu a2 x6.aO).bind fun x10=>(fw a1.eZ x7.bL x8.aP x9 x10).bind fun x11=>if(x11.2==0)=true then((rF s2 [x11.1] 16).bind fun x13=>some (.next ((IntKind.wrap .i64 (s1+1)),x13)))else(some (.next ((IntKind.wrap .i64 (s1+1)),s2))))else(some (.stop s2))
def cL(a0:aS)(a1:aq)(a2:ah):Option ((List az)):=
  (py (du a0 a2 a1) (0,([]:(List az)))).bind fun o15=>some o15
def gC(a0:az):Option (Bool):=
  some (decide (a0.aK>a0.aF))
def dm(a0:(List az)):Int->Option (qw (Int) ((Unit)⊕(Int))):=fun s1=>
  if(decide (s1<(a0.length:Int)))=true then((qu a0 s1).bind fun x4=>(gC x4).bind fun x5=>if x5=true then(some (.stop (.inr s1)))else(some (.next (IntKind.wrap .i64 (s1+1)))))else(some (.stop (.inl ())))
def dP(a0:(List az)):Option (Int):=
  (py (dm a0) 0).bind fun o8=>match o8 with| .inl _=>(some (-1))| .inr r10=>(some r10)
def cz(a0:(List az)):Option (Bool):=
  (dP a0).bind fun x1=>some (decide (x1>=0))
def gD(a0:az):Option (Int):=
  some a0.aK
def ji(a0:(List az)):(Int×(List Int))->Option (qw (Int×(List Int)) ((List Int))):=fun(s1,s2)=>
  if(decide (s1<(a0.length:Int)))=true then((qu a0 s1).bind fun x6=>(gD x6).bind fun x7=>(rF s2 [x7] 8).bind fun x8=>some (.next ((IntKind.wrap .i64 (s1+1)),x8)))else(some (.stop s2))
def fe(a0:(List az)):Option (Int):=
  (py (ji a0) (0,([]:(List Int)))).bind fun o10=>(tn o10).bind fun x11=>(sj .i64 (IntKind.wrap .i64 ((x11.length:Int)-1)) 2).bind fun x12=>(inO x11 x12).bind fun _=>(qu x11 x12).bind fun x15=>some x15
def gE(a0:az):Option (Int):=
  some a0.aF
def jj(a0:(List az)):(Int×(List Int))->Option (qw (Int×(List Int)) ((List Int))):=fun(s1,s2)=>
  if(decide (s1<(a0.length:Int)))=true then((qu a0 s1).bind fun x6=>(gE x6).bind fun x7=>(rF s2 [x7] 8).bind fun x8=>some (.next ((IntKind.wrap .i64 (s1+1)),x8)))else(some (.stop s2))
def ff(a0:(List az)):Option (Int):=
  (py (jj a0) (0,([]:(List Int)))).bind fun o10=>(tn o10).bind fun x11=>(sj .i64 (IntKind.wrap .i64 ((x11.length:Int)-1)) 2).bind fun x12=>(inO x11 x12).bind fun _=>(qu x11 x12).bind fun x15=>some x15
def fu(a0:(List az)):Option (az×Int):=
  if((a0.length:Int)==0)=true then(some ((az.mk 0 0),24))else((cz a0).bind fun x2=>if x2=true then(some ((az.mk 0 0),1))else((fe a0).bind fun x4=>(ff a0).bind fun x5=>some ((az.mk x4 x5),0)))
def gj(a0:aq)(a1:ar)(a2:(List ae)):Option (ba×Int):=
  (gN a0 a1 a2).bind fun x1=>if(x1.2 != 0)=true then(some ((ba.mk [] (aj.mk (aa.mk 0 0 0) 0 0 0 (ah.mk (aa.mk 0 0 0) (aa.mk 0 0 0))) (az.mk 0 0) 0),x1.2))else((iP x1.1 a0).bind fun x3=>if(x3.2 != 0)=true then(some ((ba.mk [] (aj.mk (aa.mk 0 0 0) 0 0 0 (ah.mk (aa.mk 0 0 0) (aa.mk 0 0 0))) (az.mk 0 0) 0),x3.2))else((c6 x3.1 a0.bR).bind fun x5=>if(x5.2 != 0)=true then(some ((ba.mk [] (aj.mk (aa.mk 0 0 0) 0 0 0 (ah.mk (aa.mk 0 0 0) (aa.mk 0 0 0))) (az.mk 0 0) 0),x5.2))else((cL x1.1 a0 x5.1.aY).bind fun x7=>if(decide ((x7.length:Int)>0))=true then((fu x7).bind fun x9=>if(x9.2 != 0)=true then(some ((ba.mk [] (aj.mk (aa.mk 0 0 0) 0 0 0 (ah.mk (aa.mk 0 0 0) (aa.mk 0 0 0))) (az.mk 0 0) 0),x9.2))else(some ((ba.mk x1.1.dl x5.1 x9.1 (x7.length:Int)),0)))else(some ((ba.mk x1.1.dl x5.1 (az.mk 0 0) 0),0)))))
def jf(a0:ae)(a1:ae):Option (Int):=
  (bH a0.aX a1.aX).bind fun x1=>(cn a0 a1).bind fun x2=>(cu [x1,x2]).bind fun x3=>some x3
def cb(a0:(List ae)):(Int×(List UInt8)×(List UInt8)×(List UInt8)×(List UInt8)×Int×Int×Int×Int×Int)->Option (qw (Int×(List UInt8)×(List UInt8)×(List UInt8)×(List UInt8)×Int×Int×Int×Int×Int) ((List UInt8)×(List UInt8)×(List UInt8)×(List UInt8)×Int×Int×Int×Int×Int)):=fun(s3,s4,s5,s6,s7,s8,s9,s10,s11,s12)=>
  if(decide (s3<(a0.length:Int)))=true then((qu a0 s3).bind fun x24=>(jf x24 (ae.mk (aw.mk s4 s5 s6 s7) s8 s9 s10 s11 s12)).bind fun x25=>if(decide (x25<0))=true then((qu a0 s3).bind fun x27=>some (.next ((IntKind.wrap .i64 (s3+1)),x27.aD.bc,x27.aD.aO,x27.aD.ap,x27.aD.bd,x27.aX,x27.aM,x27.bf,x27.aP,x27.aT)))else(some (.next ((IntKind.wrap .i64 (s3+1)),s4,s5,s6,s7,s8,s9,s10,s11,s12))))else(some (.stop (s4,s5,s6,s7,s8,s9,s10,s11,s12)))
def eJ(a0:(List ae)):Option (ae):=
  if(decide ((a0.length:Int)<1))=true then(none)else((qu a0 0).bind fun x2=>(py (cb a0) (1,x2.aD.bc,x2.aD.aO,x2.aD.ap,x2.aD.bd,x2.aX,x2.aM,x2.bf,x2.aP,x2.aT)).bind fun o29=>some (ae.mk (aw.mk o29.1 o29.2.1 o29.2.2.1 o29.2.2.2.1) o29.2.2.2.2.1 o29.2.2.2.2.2.1 o29.2.2.2.2.2.2.1 o29.2.2.2.2.2.2.2.1 o29.2.2.2.2.2.2.2.2))
def nO(a0:(List ae)):Option (ae):=
  if((a0.length:Int)==0)=true then(some (ae.mk (aw.mk [] [] [] []) 0 0 0 0 0))else((eJ a0).bind fun x2=>some x2)
def jk(a0:eP)(a1:au)(a2:au):Option (Int):=
  (jf a1.aZ a2.aZ).bind fun x1=>some x1
def fN(a1:Int)(s1:Int):(Int×(List au))->Option (qw (Int×(List au)) (Int×(List au))):=fun(s5,s6)=>
  if(decide (s5>a1))=true then((inO s6 s5).bind fun _=>(qu s6 s5).bind fun x13=>(inO s6 (IntKind.wrap .i64 (s5-1))).bind fun _=>(qu s6 (IntKind.wrap .i64 (s5-1))).bind fun x16=>(jk (eP.mk ) x13 x16).bind fun x17=>if(decide (x17<0))=true then((inO s6 (IntKind.wrap .i64 (s5-1))).bind fun _=>(qu s6 (IntKind.wrap .i64 (s5-1))).bind fun x21=>(inO s6 s5).bind fun _=>(qu s6 s5).bind fun x24=>(inO s6 s5).bind fun _=>(tC s6 s5 x21).bind fun x27=>(inO x27 (IntKind.wrap .i64 (s5-1))).bind fun _=>(tC x27 (IntKind.wrap .i64 (s5-1)) x24).bind fun x30=>some (.next ((IntKind.wrap .i64 (s5-1)),x30)))else(some (.stop (s1,s6))))else(some (.stop (s1,s6)))
def fO(a2:Int)(a1:Int):(Int×(List au))->Option (qw (Int×(List au)) ((List au))):=fun(s1,s2)=>
  if(decide (s1<a2))=true then((py (fN a1 s1) (s1,s2)).bind fun o32=>some (.next ((IntKind.wrap .i64 (o32.1+1)),o32.2)))else((some s2).bind fun z33=>some (.stop z33))
def cx(a1:Int)(a2:Int)(d0:(List au)):Option ((List au)):=
  (py (fO a2 a1) ((IntKind.wrap .i64 (a1+1)),d0)).bind fun o35=>some o35
def bU(a2:Int)(a1:Int)(d0:(List au))(a3:Int):Unit->Option (qw (Unit) ((List au))):=fun _=>
  if(decide ((IntKind.wrap .i64 (a2-a1))<=12))=true then((cx a1 a2 d0).bind fun x3=>some (.stop x3))else(if(a3==0)=true then(none)else(none))
def eC:Nat->Int->Int->Int->(List au)->Option ((List au))
  |0,_,_,_,_=>none
  |nfu+1,a1,a2,a3,d0=>
  (py (bU a2 a1 d0 a3) ()).bind fun o6=>some o6
def cr(a1:Int)(a2:Int)(a3:Int)(d0:(List au)):Option ((List au)):=recO fun n=>eC n a1 a2 a3 d0
def cV(d0:(List au)):Option ((List au)):=
  (fU (IntKind.wrap .u64 (d0.length:Int))).bind fun x1=>(cr 0 (d0.length:Int) x1 d0).bind fun x2=>some x2
def jX(x10:a7)(x1:(List ae)×(List al)×Int)(s5:Int)(s6:(List au)):(Int×(List ae))->Option (qw (Int×(List ae)) (Int×(List au)×(List ae))):=fun(s11,s12)=>
  if(decide (s11<(x10.cm.length:Int)))=true then((qu x10.cm s11).bind fun x18=>(qu x1.1 x18).bind fun x19=>(rF s12 [x19] 104).bind fun x20=>some (.next ((IntKind.wrap .i64 (s11+1)),x20)))else(some (.stop (s5,s6,s12)))
def jY(x3:(List a7)×(List Int)×Int)(x1:(List ae)×(List al)×Int)(a0:aq)(a1:ar):(Int×(List au))->Option (qw (Int×(List au)) (((List au))⊕((List au)×(List ae)×Int))):=fun(s5,s6)=>
  if(decide (s5<(x3.1.length:Int)))=true then((qu x3.1 s5).bind fun x10=>(py (jX x10 x1 s5 s6) (0,([]:(List ae)))).bind fun o22=>(gj a0 a1 o22.2.2).bind fun x23=>if(x23.2 != 0)=true then(some (.stop (.inr (([]:(List au)),([]:(List ae)),x23.2))))else((nO x23.1.ce).bind fun x25=>(rF o22.2.1 [(au.mk x25 x23.1)] 248).bind fun x26=>some (.next ((IntKind.wrap .i64 (o22.1+1)),x26))))else(some (.stop (.inl s6)))
def jZ(x3:(List a7)×(List Int)×Int)(x1:(List ae)×(List al)×Int):(Int×(List ae))->Option (qw (Int×(List ae)) ((List ae))):=fun(s32,s33)=>
  if(decide (s32<(x3.2.1.length:Int)))=true then((qu x3.2.1 s32).bind fun x37=>(qu x1.1 x37).bind fun x38=>(rF s33 [x38] 104).bind fun x39=>some (.next ((IntKind.wrap .i64 (s32+1)),x39)))else(some (.stop s33))
def eu(a0:aq)(a1:ar)(a2:(List ae)):Option ((List au)×(List ae)×Int):=
  (lS a0 a1 a2).bind fun x1=>if(x1.2.2 != 0)=true then(some (([]:(List au)),([]:(List ae)),x1.2.2))else((fP a0.ai x1.2.1).bind fun x3=>if(x3.2.2 != 0)=true then(some (([]:(List au)),([]:(List ae)),x3.2.2))else((py (jY x3 x1 a0 a1) (0,([]:(List au)))).bind fun o28=>match o28 with| .inl y29=>((cV y29).bind fun x31=>(py (jZ x3 x1) (0,([]:(List ae)))).bind fun o41=>some (x31,o41,0))| .inr r30=>(some r30)))
def fJ(a0:(List UInt8))(a1:(List UInt8)):Option (Int):=
  if(Op.bytesLess a0 a1)=true then(some (-1))else(if(!(Op.bytesLess a0 a1||a0==a1))=true then(some 1)else(some 0))
def kX(a0:aw)(a1:aw):Option (Int):=
  (fJ a0.bc a1.bc).bind fun x1=>(fJ a0.aO a1.aO).bind fun x2=>(fJ a0.ap a1.ap).bind fun x3=>(fJ a0.bd a1.bd).bind fun x4=>if(x1 != 0)=true then(some x1)else(if(x2 != 0)=true then(some x2)else(if(x3 != 0)=true then(some x3)else(if(x4 != 0)=true then(some x4)else(some 0))))
def kY(a0:ae)(a1:ae):Option (Int):=
  (kX a0.aD a1.aD).bind fun x1=>if(x1 != 0)=true then(some x1)else(if(decide (a0.aX<a1.aX))=true then(some (-1))else(if(decide (a0.aX>a1.aX))=true then(some 1)else(if(decide (a0.aM<a1.aM))=true then(some (-1))else(if(decide (a0.aM>a1.aM))=true then(some 1)else(if(decide (a0.bf<a1.bf))=true then(some (-1))else(if(decide (a0.bf>a1.bf))=true then(some 1)else(if(decide (a0.aP<a1.aP))=true then(some (-1))else(if(decide (a0.aP>a1.aP))=true then(some 1)else(if(decide (a0.aT<a1.aT))=true then(some (-1))else(if(decide (a0.aT>a1.aT))=true then(some 1)else(some 0)))))))))))
def kZ(a0:ae)(a1:ae):Option (Int):=
  if(decide (a0.aX<a1.aX))=true then(some (-1))else(if(decide (a0.aX>a1.aX))=true then(some 1)else((kY a0 a1).bind fun x3=>some x3))
def lD(a0:(List au))(a1:au):Int->Option (qw (Int) (Int)):=fun s1=>
  if(decide (s1<(a0.length:Int)))=true then((qu a0 s1).bind fun x5=>(kZ x5.aZ a1.aZ).bind fun x6=>if(decide (x6<0))=true then(some (.next (IntKind.wrap .i64 (s1+1))))else(some (.stop s1)))else(some (.stop s1))
def lV(a0:(List au))(a1:au):Option ((List au)):=
  (py (lD a0 a1) 0).bind fun o9=>(xi a0 0 o9).bind fun x10=>(rF ([]:List au) x10 248).bind fun x11=>(rF x11 [a1] 248).bind fun x12=>(xi a0 o9 (a0.length:Int)).bind fun x13=>(rF x12 x13 248).bind fun x14=>some x14
def m7(a1:(List au)):((List au)×Int)->Option (qw ((List au)×Int) ((List au))):=fun(s1,s2)=>
  if(decide (s2<(a1.length:Int)))=true then((qu a1 s2).bind fun x6=>(lV s1 x6).bind fun x7=>some (.next (x7,(IntKind.wrap .i64 (s2+1)))))else(some (.stop s1))
def n4(a0:(List au))(a1:(List au)):Option ((List au)):=
  (py (m7 a1) (a0,0)).bind fun o9=>some o9
def jA(a0:(List ae))(a1:(List ae)):Int->Option (qw (Int) ((Unit)⊕(Bool))):=fun s2=>
  if(decide (s2<(a0.length:Int)))=true then((qu a0 s2).bind fun x5=>(qu a1 s2).bind fun x6=>if(!(((x5.aD.bc==x6.aD.bc)&&((x5.aD.aO==x6.aD.aO)&&((x5.aD.ap==x6.aD.ap)&&((x5.aD.bd==x6.aD.bd)&&true))))&&((x5.aX==x6.aX)&&((x5.aM==x6.aM)&&((x5.bf==x6.bf)&&((x5.aP==x6.aP)&&((x5.aT==x6.aT)&&true)))))))=true then(some (.stop (.inr false)))else(some (.next (IntKind.wrap .i64 (s2+1)))))else(some (.stop (.inl ())))
def gM(a0:(List ae))(a1:(List ae)):Option (Bool):=
  if((a0.length:Int) != (a1.length:Int))=true then(some false)else((py (jA a0 a1) 0).bind fun o9=>match o9 with| .inl _=>(some true)| .inr r11=>(some r11))
def nZ(a0:ba)(a1:ba):Option (Bool):=
  (gM a0.ce a1.ce).bind fun x1=>if x1=true then(if(((a0.ap.aV.fX==a1.ap.aV.fX)&&((a0.ap.aV.fY==a1.ap.aV.fY)&&((a0.ap.aV.fZ==a1.ap.aV.fZ)&&true)))&&((a0.ap.aX==a1.ap.aX)&&((a0.ap.bh==a1.ap.bh)&&((a0.ap.dW==a1.ap.dW)&&((((a0.ap.aY.aK.fX==a1.ap.aY.aK.fX)&&((a0.ap.aY.aK.fY==a1.ap.aY.aK.fY)&&((a0.ap.aY.aK.fZ==a1.ap.aY.aK.fZ)&&true)))&&(((a0.ap.aY.aF.fX==a1.ap.aY.aF.fX)&&((a0.ap.aY.aF.fY==a1.ap.aY.aF.fY)&&((a0.ap.aY.aF.fZ==a1.ap.aY.aF.fZ)&&true)))&&true))&&true)))))=true then(if((a0.bt.aK==a1.bt.aK)&&((a0.bt.aF==a1.bt.aF)&&true))=true then(some (a0.gr==a1.gr))else(some false))else(some false))else(some false)
def iz(a0:(List au))(a1:(List au)):Int->Option (qw (Int) ((Unit)⊕(Bool))):=fun s2=>
  if(decide (s2<(a0.length:Int)))=true then((qu a0 s2).bind fun x5=>(qu a1 s2).bind fun x6=>if(!(((x5.aZ.aD.bc==x6.aZ.aD.bc)&&((x5.aZ.aD.aO==x6.aZ.aD.aO)&&((x5.aZ.aD.ap==x6.aZ.aD.ap)&&((x5.aZ.aD.bd==x6.aZ.aD.bd)&&true))))&&((x5.aZ.aX==x6.aZ.aX)&&((x5.aZ.aM==x6.aZ.aM)&&((x5.aZ.bf==x6.aZ.bf)&&((x5.aZ.aP==x6.aZ.aP)&&((x5.aZ.aT==x6.aZ.aT)&&true)))))))=true then(some (.stop (.inr false)))else((qu a0 s2).bind fun x8=>(qu a1 s2).bind fun x9=>(nZ x8.aB x9.aB).bind fun x10=>if(!x10)=true then(some (.stop (.inr false)))else(some (.next (IntKind.wrap .i64 (s2+1))))))else(some (.stop (.inl ())))
def mr(a0:(List au))(a1:(List au)):Option (Bool):=
  if((a0.length:Int) != (a1.length:Int))=true then(some false)else((py (iz a0 a1) 0).bind fun o13=>match o13 with| .inl _=>(some true)| .inr r15=>(some r15))
def kA(a0:au)(d0:ae):Option (Bool):=
  some (((a0.aZ.aD.bc==d0.aD.bc)&&((a0.aZ.aD.aO==d0.aD.aO)&&((a0.aZ.aD.ap==d0.aD.ap)&&((a0.aZ.aD.bd==d0.aD.bd)&&true))))&&((a0.aZ.aX==d0.aX)&&((a0.aZ.aM==d0.aM)&&((a0.aZ.bf==d0.bf)&&((a0.aZ.aP==d0.aP)&&((a0.aZ.aT==d0.aT)&&true))))))
def cO(a0:(List au))(d0:ae):Int->Option (qw (Int) ((Unit)⊕(Int))):=fun s1=>
  if(decide (s1<(a0.length:Int)))=true then((qu a0 s1).bind fun x4=>(kA x4 d0).bind fun x5=>if x5=true then(some (.stop (.inr s1)))else(some (.next (IntKind.wrap .i64 (s1+1)))))else(some (.stop (.inl ())))
def eH(a0:(List au))(d0:ae):Option (Int):=
  (py (cO a0 d0) 0).bind fun o8=>match o8 with| .inl _=>(some (-1))| .inr r10=>(some r10)
def il(a0:(List au))(a1:ae):Option (Int):=
  (eH a0 a1).bind fun x1=>some x1
def mG:Option (Bool):=
  (kd []).bind fun x1=>(dp 2 x1).bind fun x2=>(fT 3 x2.2).bind fun x3=>(dH 1).bind fun x4=>(eu x2.1 x3.1 [(ae.mk x4 2500 2500 2500 11 0),(ae.mk x4 2500 2500 2500 10 0)]).bind fun x5=>(eu x2.1 x3.1 []).bind fun x6=>if(x5.2.2==0)=true then(if((x5.1.length:Int)==1)=true then(if((x5.2.1.length:Int)==0)=true then((qu x5.1 0).bind fun x10=>if(((x10.aZ.aD.bc==x4.bc)&&((x10.aZ.aD.aO==x4.aO)&&((x10.aZ.aD.ap==x4.ap)&&((x10.aZ.aD.bd==x4.bd)&&true))))&&((x10.aZ.aX==2500)&&((x10.aZ.aM==2500)&&((x10.aZ.bf==2500)&&((x10.aZ.aP==10)&&((x10.aZ.aT==0)&&true))))))=true then((qu x5.1 0).bind fun x12=>if((x12.aB.ce.length:Int)==2)=true then(if(x6.2.2==0)=true then(if((x6.1.length:Int)==0)=true then((il x5.1 (ae.mk x4 2500 2500 2500 10 0)).bind fun x16=>if(x16==0)=true then((il x5.1 (ae.mk x4 2500 2500 2500 11 0)).bind fun x18=>some (x18==(-1)))else(some false))else(some false))else(some false))else(some false))else(some false))else(some false))else(some false))else(some false)
def io(x5:(List ae)×ac):(Int×(List ae))->Option (qw (Int×(List ae)) ((List ae))):=fun(s6,s7)=>
  if(decide (s6<(x5.1.length:Int)))=true then((inO s7 s6).bind fun _=>(qu s7 s6).bind fun x13=>(inO s7 s6).bind fun _=>(qu s7 s6).bind fun x16=>(inO s7 s6).bind fun _=>(qu s7 s6).bind fun x19=>(inO s7 s6).bind fun _=>(xq s7 s6 (fun(z23:ae)=>(ae.mk z23.aD (IntKind.wrap .i64 (x13.aX+50000)) z23.aM z23.bf z23.aP z23.aT))).bind fun x22=>(inO x22 s6).bind fun _=>(xq x22 s6 (fun(z27:ae)=>(ae.mk z27.aD z27.aX (IntKind.wrap .i64 (x16.aM+50000)) z27.bf z27.aP z27.aT))).bind fun x26=>(inO x26 s6).bind fun _=>(xq x26 s6 (fun(z31:ae)=>(ae.mk z31.aD z31.aX z31.aM (IntKind.wrap .i64 (x19.bf+50000)) z31.aP z31.aT))).bind fun x30=>some (.next ((IntKind.wrap .i64 (s6+1)),x30)))else(some (.stop s7))
def kF(a0:(List Int)):Option (Bool):=
  (kd a0).bind fun x1=>(dp 3 x1).bind fun x2=>(fT 6 x2.2).bind fun x3=>(lY x2.1 x3.1 7 x3.2).bind fun x4=>(lY x2.1 x3.1 7 x4.2).bind fun x5=>(py (io x5) (0,x5.1)).bind fun o33=>(eu x2.1 x3.1 x4.1).bind fun x34=>(eu x2.1 x3.1 o33).bind fun x35=>(rF x4.1 o33 104).bind fun x36=>(eu x2.1 x3.1 x36).bind fun x37=>if(x34.2.2==0)=true then(if(x35.2.2==0)=true then(if(x37.2.2==0)=true then((n4 x34.1 x35.1).bind fun x41=>(mr x37.1 x41).bind fun x42=>if x42=true then((mG ).bind fun x44=>some x44)else(some false))else(some false))else(some false))else(some false)
end
end Go.Dw.El
