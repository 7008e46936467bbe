
import Derived.Test.YtmmgjlgoggielaaGreatDwNest
import Derived.Test.YtmmgjlgoggielaaGreatDwSortP

namespace Go.Dw.Et
open Go.Dw
noncomputable section
structure ae where
  fL:(List Int)
  fAt:Int
  deriving DecidableEq
def ae.pd(x:ae):PD:= .agg [.lst (x.fL.map (PD.int .i64)),.int .i64 x.fAt]
structure aa where
  fX:Int
  fY:Int
  fZ:Int
  deriving DecidableEq
def aa.pd(x:aa):PD:= .agg [.int .i64 x.fX,.int .i64 x.fY,.int .i64 x.fZ]
structure ai where
  aK:aa
  aG:aa
  deriving DecidableEq
def ai.pd(x:ai):PD:= .agg [.int .i64 x.aK.fX,.int .i64 x.aK.fY,.int .i64 x.aK.fZ,.int .i64 x.aG.fX,.int .i64 x.aG.fY,.int .i64 x.aG.fZ]
structure aF where
  bo:Int
  aK:(List Int)
  aG:(List Int)
  deriving DecidableEq
def aF.pd(x:aF):PD:= .agg [.int .i64 x.bo,.lst (x.aK.map (PD.int .i64)),.lst (x.aG.map (PD.int .i64))]
structure aJ where
  aN:ai
  bg:aF
  cC:Int
  bv:Int
  dx:Int
  eK:Int
  co:Int
  deriving DecidableEq
def aJ.pd(x:aJ):PD:= .agg [.int .i64 x.aN.aK.fX,.int .i64 x.aN.aK.fY,.int .i64 x.aN.aK.fZ,.int .i64 x.aN.aG.fX,.int .i64 x.aN.aG.fY,.int .i64 x.aN.aG.fZ,.int .i64 x.bg.bo,.lst (x.bg.aK.map (PD.int .i64)),.lst (x.bg.aG.map (PD.int .i64)),.int .i64 x.cC,.int .i64 x.bv,.int .i64 x.dx,.int .i64 x.eK,.int .i64 x.co]
structure bt where
  bF:aF
  bn:Int
  bf:Int
  deriving DecidableEq
def bt.pd(x:bt):PD:= .agg [.int .i64 x.bF.bo,.lst (x.bF.aK.map (PD.int .i64)),.lst (x.bF.aG.map (PD.int .i64)),.int .i64 x.bn,.int .i64 x.bf]
structure ak where
  ag:aJ
  cp:bt
  bv:Int
  deriving DecidableEq
def ak.pd(x:ak):PD:= .agg [.int .i64 x.ag.aN.aK.fX,.int .i64 x.ag.aN.aK.fY,.int .i64 x.ag.aN.aK.fZ,.int .i64 x.ag.aN.aG.fX,.int .i64 x.ag.aN.aG.fY,.int .i64 x.ag.aN.aG.fZ,.int .i64 x.ag.bg.bo,.lst (x.ag.bg.aK.map (PD.int .i64)),.lst (x.ag.bg.aG.map (PD.int .i64)),.int .i64 x.ag.cC,.int .i64 x.ag.bv,.int .i64 x.ag.dx,.int .i64 x.ag.eK,.int .i64 x.ag.co,.int .i64 x.cp.bF.bo,.lst (x.cp.bF.aK.map (PD.int .i64)),.lst (x.cp.bF.aG.map (PD.int .i64)),.int .i64 x.cp.bn,.int .i64 x.cp.bf,.int .i64 x.bv]
structure av where
  aZ:(List UInt8)
  aM:(List UInt8)
  aj:(List UInt8)
  a7:(List UInt8)
  deriving DecidableEq
def av.pd(x:av):PD:= .agg [.str x.aZ,.str x.aM,.str x.aj,.str x.a7]
structure bu where
  bn:Int
  bf:Int
  deriving DecidableEq
def bu.pd(x:bu):PD:= .agg [.int .i64 x.bn,.int .i64 x.bf]
structure aT where
  a0:Int
  a1:Int
  a2:Int
  deriving DecidableEq
def aT.pd(x:aT):PD:= .agg [.int .i64 x.a0,.int .i64 x.a1,.int .i64 x.a2]
structure aH where
  db:Int
  bn:aT
  bf:aT
  cf:(List Int)
  bQ:Int
  b8:Int
  deriving DecidableEq
def aH.pd(x:aH):PD:= .agg [.int .i64 x.db,.int .i64 x.bn.a0,.int .i64 x.bn.a1,.int .i64 x.bn.a2,.int .i64 x.bf.a0,.int .i64 x.bf.a1,.int .i64 x.bf.a2,.lst (x.cf.map (PD.int .i64)),.int .i64 x.bQ,.int .i64 x.b8]
structure aO where
  bq:(List aH)
  deriving DecidableEq
def aO.pd(x:aO):PD:= .agg [.lst (x.bq.map aH.pd)]
structure aA where
  bA:Int
  fTo:Int
  dn:bu
  aY:aa
  bC:aO
  deriving DecidableEq
def aA.pd(x:aA):PD:= .agg [.int .i64 x.bA,.int .i64 x.fTo,.int .i64 x.dn.bn,.int .i64 x.dn.bf,.int .i64 x.aY.fX,.int .i64 x.aY.fY,.int .i64 x.aY.fZ,.lst (x.bC.bq.map aH.pd)]
structure aq where
  aC:av
  bz:(List aA)
  deriving DecidableEq
def aq.pd(x:aq):PD:= .agg [.str x.aC.aZ,.str x.aC.aM,.str x.aC.aj,.str x.aC.a7,.lst (x.bz.map aA.pd)]
structure ap where
  aI:(List aq)
  deriving DecidableEq
def ap.pd(x:ap):PD:= .agg [.lst (x.aI.map aq.pd)]
structure ac where
  aC:av
  a8:Int
  aP:Int
  bi:Int
  aS:Int
  aW:Int
  deriving DecidableEq
def ac.pd(x:ac):PD:= .agg [.str x.aC.aZ,.str x.aC.aM,.str x.aC.aj,.str x.aC.a7,.int .i64 x.a8,.int .i64 x.aP,.int .i64 x.bi,.int .i64 x.aS,.int .i64 x.aW]
structure ar where
  aU:aa
  a8:Int
  bj:Int
  dm:Int
  aX:ai
  deriving DecidableEq
def ar.pd(x:ar):PD:= .agg [.int .i64 x.aU.fX,.int .i64 x.aU.fY,.int .i64 x.aU.fZ,.int .i64 x.a8,.int .i64 x.bj,.int .i64 x.dm,.int .i64 x.aX.aK.fX,.int .i64 x.aX.aK.fY,.int .i64 x.aX.aK.fZ,.int .i64 x.aX.aG.fX,.int .i64 x.aX.aG.fY,.int .i64 x.aX.aG.fZ]
structure aD where
  aK:Int
  aG:Int
  deriving DecidableEq
def aD.pd(x:aD):PD:= .agg [.int .i64 x.aK,.int .i64 x.aG]
structure bd where
  bY:(List ac)
  aj:ar
  bp:aD
  eJ:Int
  deriving DecidableEq
def bd.pd(x:bd):PD:= .agg [.lst (x.bY.map ac.pd),.int .i64 x.aj.aU.fX,.int .i64 x.aj.aU.fY,.int .i64 x.aj.aU.fZ,.int .i64 x.aj.a8,.int .i64 x.aj.bj,.int .i64 x.aj.dm,.int .i64 x.aj.aX.aK.fX,.int .i64 x.aj.aX.aK.fY,.int .i64 x.aj.aX.aK.fZ,.int .i64 x.aj.aX.aG.fX,.int .i64 x.aj.aX.aG.fY,.int .i64 x.aj.aX.aG.fZ,.int .i64 x.bp.aK,.int .i64 x.bp.aG,.int .i64 x.eJ]
structure az where
  bh:ac
  aw:bd
  deriving DecidableEq
def az.pd(x:az):PD:= .agg [.str x.bh.aC.aZ,.str x.bh.aC.aM,.str x.bh.aC.aj,.str x.bh.aC.a7,.int .i64 x.bh.a8,.int .i64 x.bh.aP,.int .i64 x.bh.bi,.int .i64 x.bh.aS,.int .i64 x.bh.aW,.lst (x.aw.bY.map ac.pd),.int .i64 x.aw.aj.aU.fX,.int .i64 x.aw.aj.aU.fY,.int .i64 x.aw.aj.aU.fZ,.int .i64 x.aw.aj.a8,.int .i64 x.aw.aj.bj,.int .i64 x.aw.aj.dm,.int .i64 x.aw.aj.aX.aK.fX,.int .i64 x.aw.aj.aX.aK.fY,.int .i64 x.aw.aj.aX.aK.fZ,.int .i64 x.aw.aj.aX.aG.fX,.int .i64 x.aw.aj.aX.aG.fY,.int .i64 x.aw.aj.aX.aG.fZ,.int .i64 x.aw.bp.aK,.int .i64 x.aw.bp.aG,.int .i64 x.aw.eJ]
structure al where
  aM:aa
  aP:Int
  bi:Int
  bG:Int
  deriving DecidableEq
def al.pd(x:al):PD:= .agg [.int .i64 x.aM.fX,.int .i64 x.aM.fY,.int .i64 x.aM.fZ,.int .i64 x.aP,.int .i64 x.bi,.int .i64 x.bG]
structure aL where
  bA:Int
  fTo:Int
  deriving DecidableEq
def aL.pd(x:aL):PD:= .agg [.int .i64 x.bA,.int .i64 x.fTo]
structure ba where
  cv:(List Int)
  aU:aa
  a8:Int
  deriving DecidableEq
def ba.pd(x:ba):PD:= .agg [.lst (x.cv.map (PD.int .i64)),.int .i64 x.aU.fX,.int .i64 x.aU.fY,.int .i64 x.aU.fZ,.int .i64 x.a8]
structure bw where
  nO:(List Int)
  fback:(List Int)
  deriving DecidableEq
def bw.pd(x:bw):PD:= .agg [.lst (x.nO.map (PD.int .i64)),.lst (x.fback.map (PD.int .i64))]
structure ah where
  aN:ai
  bg:aF
  bc:(List al)
  cC:Int
  deriving DecidableEq
def ah.pd(x:ah):PD:= .agg [.int .i64 x.aN.aK.fX,.int .i64 x.aN.aK.fY,.int .i64 x.aN.aK.fZ,.int .i64 x.aN.aG.fX,.int .i64 x.aN.aG.fY,.int .i64 x.aN.aG.fZ,.int .i64 x.bg.bo,.lst (x.bg.aK.map (PD.int .i64)),.lst (x.bg.aG.map (PD.int .i64)),.lst (x.bc.map al.pd),.int .i64 x.cC]
structure au where
  jV:ai
  cq:Int
  gJ:Int
  deriving DecidableEq
def au.pd(x:au):PD:= .agg [.int .i64 x.jV.aK.fX,.int .i64 x.jV.aK.fY,.int .i64 x.jV.aK.fZ,.int .i64 x.jV.aG.fX,.int .i64 x.jV.aG.fY,.int .i64 x.jV.aG.fZ,.int .i64 x.cq,.int .i64 x.gJ]
structure bR where
  fp:ah
  kK:(List au)
  gJ:Int
  ftaken:Int
  ffound:Bool
  bT:ar
  deriving DecidableEq
def bR.pd(x:bR):PD:= .agg [.int .i64 x.fp.aN.aK.fX,.int .i64 x.fp.aN.aK.fY,.int .i64 x.fp.aN.aK.fZ,.int .i64 x.fp.aN.aG.fX,.int .i64 x.fp.aN.aG.fY,.int .i64 x.fp.aN.aG.fZ,.int .i64 x.fp.bg.bo,.lst (x.fp.bg.aK.map (PD.int .i64)),.lst (x.fp.bg.aG.map (PD.int .i64)),.lst (x.fp.bc.map al.pd),.int .i64 x.fp.cC,.lst (x.kK.map au.pd),.int .i64 x.gJ,.int .i64 x.ftaken,.bool x.ffound,.int .i64 x.bT.aU.fX,.int .i64 x.bT.aU.fY,.int .i64 x.bT.aU.fZ,.int .i64 x.bT.a8,.int .i64 x.bT.bj,.int .i64 x.bT.dm,.int .i64 x.bT.aX.aK.fX,.int .i64 x.bT.aX.aK.fY,.int .i64 x.bT.aX.aK.fZ,.int .i64 x.bT.aX.aG.fX,.int .i64 x.bT.aX.aG.fY,.int .i64 x.bT.aX.aG.fZ]
structure aV where
  dJ:(List ac)
  dt:(List al)
  jO:(List aA)
  deriving DecidableEq
def aV.pd(x:aV):PD:= .agg [.lst (x.dJ.map ac.pd),.lst (x.dt.map al.pd),.lst (x.jO.map aA.pd)]
structure aQ where
  bn:(List Int)
  bf:(List Int)
  deriving DecidableEq
def aQ.pd(x:aQ):PD:= .agg [.lst (x.bn.map (PD.int .i64)),.lst (x.bf.map (PD.int .i64))]
structure e7 where
  deriving DecidableEq
def e7.pd(x:e7):PD:= .agg []
structure A4_Int where
  a0:Int
  a1:Int
  a2:Int
  a3:Int
  deriving DecidableEq
def A4_Int.pd(x:A4_Int):PD:= .agg [.int .i64 x.a0,.int .i64 x.a1,.int .i64 x.a2,.int .i64 x.a3]
structure cg where
  deriving DecidableEq
def cg.pd(x:cg):PD:= .agg []
structure bK where
  a0:Int
  a1:Int
  deriving DecidableEq
def bK.pd(x:bK):PD:= .agg [.int .i64 x.a0,.int .i64 x.a1]
structure dR where
  a0:bK
  a1:bK
  a2:bK
  a3:bK
  a4:bK
  deriving DecidableEq
def dR.pd(x:dR):PD:= .agg [.int .i64 x.a0.a0,.int .i64 x.a0.a1,.int .i64 x.a1.a0,.int .i64 x.a1.a1,.int .i64 x.a2.a0,.int .i64 x.a2.a1,.int .i64 x.a3.a0,.int .i64 x.a3.a1,.int .i64 x.a4.a0,.int .i64 x.a4.a1]
def ib(a0:(List Int)):Option (ae):=
  (cutO a0 0 (if 2000<(a0.length:Int)then 2000 else(a0.length:Int))).bind fun x1=>some (ae.mk x1 0)
def Src_Raw(d0:ae):Option (Int×ae):=
  if(decide (d0.fAt>=(d0.fL.length:Int)))=true then(some (0,d0))else((gy d0.fL (IntKind.wrap .i64 ((IntKind.wrap .i64 (d0.fAt+1))-1))).bind fun x2=>some (x2,(ae.mk d0.fL (IntKind.wrap .i64 (d0.fAt+1)))))
def mP(a0:Int)(a1:Int):Option (Int):=
  if(decide (a1<1))=true then(some 0)else((wb a0 a1).bind fun x2=>if(decide (x2<0))=true then(some (IntKind.wrap .i64 (x2+a1)))else(some x2))
def cG(a1:Int)(d0:ae):Option (Int×ae):=
  (Src_Raw d0).bind fun x1=>(mP x1.1 a1).bind fun x2=>some (x2,x1.2)
def kd(a1:Int)(d0:ae):Option (aa×ae):=
  (cG (IntKind.wrap .i64 ((IntKind.wrap .i64 (2*a1))+1)) d0).bind fun x1=>(cG (IntKind.wrap .i64 ((IntKind.wrap .i64 (2*a1))+1)) x1.2).bind fun x2=>(cG (IntKind.wrap .i64 (a1+1)) x2.2).bind fun x3=>some ((aa.mk (IntKind.wrap .i64 (x1.1-a1)) (IntKind.wrap .i64 (x2.1-a1)) x3.1),x3.2)
def oc(a1:Int)(a2:Int)(d0:ae):Option (ai×ae):=
  (kd a1 d0).bind fun x1=>(cG (IntKind.wrap .i64 (a2+1)) x1.2).bind fun x2=>(cG (IntKind.wrap .i64 (a2+1)) x2.2).bind fun x3=>(cG (IntKind.wrap .i64 (a2+1)) x3.2).bind fun x4=>some ((ai.mk x1.1 (aa.mk (IntKind.wrap .i64 (x1.1.fX+x2.1)) (IntKind.wrap .i64 (x1.1.fY+x3.1)) (IntKind.wrap .i64 (x1.1.fZ+x4.1)))),x4.2)
def dD(a1:(List Int))(d0:ae):Option (Int×ae):=
  (cG (a1.length:Int) d0).bind fun x1=>(gy a1 x1.1).bind fun x2=>some (x2,x1.2)
def jE(x1:Int×ae):(Int×Int×Int×(List Int)×Int×(List Int)×(List Int))->Option (gz (Int×Int×Int×(List Int)×Int×(List Int)×(List Int)) ((List Int)×Int×(List Int)×(List Int))):=fun(s3,s4,s5,s6,s7,s8,s9)=>
  (rT .i64 400 x1.1).bind fun x15=>(cG 3 (ae.mk s6 s7)).bind fun x16=>if(decide (s5<=(IntKind.wrap .i64 (x15+x16.1))))=true then((qd s8 [s3] 8).bind fun x18=>(qd s9 [s4] 8).bind fun x19=>(dD [0,10,20,35] x16.2).bind fun x20=>(rT .i64 x1.1 4).bind fun x21=>(dD [0,0,5,30] x20.2).bind fun x22=>some (.next ((IntKind.wrap .i64 (s3+(IntKind.wrap .i64 (x20.1+x21)))),(IntKind.wrap .i64 ((if(IntKind.wrap .i64 (s3+(IntKind.wrap .i64 (x20.1+x21))))>s4 then(IntKind.wrap .i64 (s3+(IntKind.wrap .i64 (x20.1+x21))))else s4)+x22.1)),(IntKind.wrap .i64 (s5+1)),x22.2.fL,x22.2.fAt,x18,x19)))else(some (.stop (x16.2.fL,x16.2.fAt,s8,s9)))
def jg(d0:ae):Option (aF×ae):=
  (dD [20,25,40,100] d0).bind fun x1=>(cG 3 x1.2).bind fun x2=>(fP (jE x1) (0,x2.1,0,x2.2.fL,x2.2.fAt,([]:(List Int)),([]:(List Int)))).bind fun o24=>some ((aF.mk x1.1 o24.2.2.1 o24.2.2.2),(ae.mk o24.1 o24.2.1))
def dV(a1:Int)(d0:ae):Option (aJ×ae):=
  (oc 20 a1 d0).bind fun x1=>(jg x1.2).bind fun x2=>(dD [10,50,200] x2.2).bind fun x3=>(dD [0,0,10,40] x3.2).bind fun x4=>(dD [0,50,200,400] x4.2).bind fun x5=>(dD [0,5,20] x5.2).bind fun x6=>(cG 2 x6.2).bind fun x7=>some ((aJ.mk x1.1 x2.1 x3.1 x4.1 x5.1 x6.1 (IntKind.wrap .i64 (2+x7.1))),x7.2)
def lE(x1:aF×ae):(Int×(List Int)×(List Int))->Option (gz (Int×(List Int)×(List Int)) ((List Int)×(List Int))):=fun(s4,s5,s6)=>
  if(decide (s4<(x1.1.aK.length:Int)))=true then((inO s5 s4).bind fun _=>(gy s5 s4).bind fun x13=>(rT .i64 x13 3).bind fun x14=>(inO s6 s4).bind fun _=>(gy s6 s4).bind fun x17=>(rT .i64 x17 3).bind fun x18=>(inO s5 s4).bind fun _=>(sy s5 s4 x14).bind fun x21=>(inO s6 s4).bind fun _=>(sy s6 s4 x18).bind fun x24=>some (.next ((IntKind.wrap .i64 (s4+1)),x21,x24)))else(some (.stop (s5,s6)))
def ke(d0:ae):Option (bt×ae):=
  (jg d0).bind fun x1=>(cG 20 x1.2).bind fun x2=>(cG 9 x2.2).bind fun x3=>(fP (lE x1) (0,x1.1.aK,x1.1.aG)).bind fun o26=>some ((bt.mk (aF.mk x1.1.bo o26.1 o26.2) x2.1 (IntKind.wrap .i64 (1+x3.1))),x3.2)
def cQ(a1:Int)(d0:ae):Option (ak×ae):=
  (dV a1 d0).bind fun x1=>(ke x1.2).bind fun x2=>(dD [0,0,10,40] x2.2).bind fun x3=>some ((ak.mk x1.1 x2.1 x3.1),x3.2)
def jf:(Int×(List Int)×Int×(List aH))->Option (gz (Int×(List Int)×Int×(List aH)) ((List Int)×Int×(List aH))):=fun(s2,s3,s4,s5)=>
  if(decide (s2>0))=true then((cG 3 (ae.mk s3 s4)).bind fun x11=>if(x11.1==0)=true then((dD [0,1,9,99,1048575] x11.2).bind fun x13=>(dD [0,0,2,9,999] x13.2).bind fun x14=>(qd s5 [(aH.mk x11.1 (aT.mk (IntKind.wrap .i64 (1+x13.1)) 0 0) (aT.mk (IntKind.wrap .i64 (1+x14.1)) 0 0) [] 0 0)] 96).bind fun x15=>some (.next ((IntKind.wrap .i64 (s2-1)),x14.2.fL,x14.2.fAt,x15)))else(if(x11.1==1)=true then((cG 5 x11.2).bind fun x17=>(cG 7 x17.2).bind fun x18=>(cG 3 x18.2).bind fun x19=>(cG 5 x19.2).bind fun x20=>(cG 7 x20.2).bind fun x21=>(cG 3 x21.2).bind fun x22=>(qd s5 [(aH.mk x11.1 (aT.mk x17.1 (IntKind.wrap .i64 (x18.1-3)) (IntKind.wrap .i64 (x19.1-1))) (aT.mk (IntKind.wrap .i64 (1+x20.1)) x21.1 x22.1) [] 0 0)] 96).bind fun x23=>some (.next ((IntKind.wrap .i64 (s2-1)),x22.2.fL,x22.2.fAt,x23)))else((cG 3 x11.2).bind fun x24=>(cG 4 x24.2).bind fun x25=>(qd s5 [(aH.mk x11.1 (aT.mk 0 0 0) (aT.mk 0 0 0) [(IntKind.wrap .i64 (1+x24.1)),2,1] 1 x25.1)] 96).bind fun x26=>some (.next ((IntKind.wrap .i64 (s2-1)),x25.2.fL,x25.2.fAt,x26)))))else(some (.stop (s3,s4,s5)))
def eT(d0:ae):Option (aO×ae):=
  (cG 4 d0).bind fun x1=>(fP (jf) (x1.1,x1.2.fL,x1.2.fAt,([]:(List aH)))).bind fun o28=>some ((aO.mk o28.2.2),(ae.mk o28.1 o28.2.1))
def cW(a0:Int):Option (av):=
  (mP a0 6).bind fun x1=>(gy [[83,49],[83,50],[83,51],[83,52],[83,53],[83,54]] x1).bind fun x2=>some (av.mk [65,66] x2 [48,48] [66,72,90])
def jD(a1:Int):(Int×(List Int)×Int×(List aq))->Option (gz (Int×(List Int)×Int×(List aq)) ((List Int)×Int×(List aq))):=fun(s1,s2,s3,s4)=>
  if(decide (s1<a1))=true then(if(decide (s1<6))=true then((kd 60 (ae.mk s2 s3)).bind fun x11=>(eT x11.2).bind fun x12=>(cW s1).bind fun x13=>(cG 6 x12.2).bind fun x14=>if(x14.1==0)=true then((cG 500 x14.2).bind fun x16=>(kd 60 x16.2).bind fun x17=>(eT x17.2).bind fun x18=>(inO [(aA.mk 0 100000 (bu.mk 100 1) x11.1 x12.1)] 0).bind fun _=>(modO [(aA.mk 0 100000 (bu.mk 100 1) x11.1 x12.1)] 0 (fun(z22:aA)=>(aA.mk z22.bA (IntKind.wrap .i64 (1500+x16.1)) z22.dn z22.aY z22.bC))).bind fun x21=>(qd x21 [(aA.mk (IntKind.wrap .i64 (1500+x16.1)) 100000 (bu.mk 100 1) x17.1 x18.1)] 80).bind fun x23=>(qd s4 [(aq.mk x13 x23)] 88).bind fun x24=>some (.next ((IntKind.wrap .i64 (s1+1)),x18.2.fL,x18.2.fAt,x24)))else(if(x14.1==1)=true then((cG 1500 x14.2).bind fun x26=>(inO [(aA.mk 0 100000 (bu.mk 100 1) x11.1 x12.1)] 0).bind fun _=>(modO [(aA.mk 0 100000 (bu.mk 100 1) x11.1 x12.1)] 0 (fun(z30:aA)=>(aA.mk x26.1 z30.fTo z30.dn z30.aY z30.bC))).bind fun x29=>(qd s4 [(aq.mk x13 x29)] 88).bind fun x31=>some (.next ((IntKind.wrap .i64 (s1+1)),x26.2.fL,x26.2.fAt,x31)))else((qd s4 [(aq.mk x13 [(aA.mk 0 100000 (bu.mk 100 1) x11.1 x12.1)])] 88).bind fun x32=>some (.next ((IntKind.wrap .i64 (s1+1)),x14.2.fL,x14.2.fAt,x32)))))else(some (.stop (s2,s3,s4))))else(some (.stop (s2,s3,s4)))
def eB(a1:Int)(d0:ae):Option (ap×ae):=
  (fP (jD a1) (0,d0.fL,d0.fAt,([]:(List aq)))).bind fun o34=>some ((ap.mk o34.2.2),(ae.mk o34.1 o34.2.1))
def mA(a1:Int)(a2:Int)(d0:ae):Option (Int×ae):=
  (cG (IntKind.wrap .i64 ((IntKind.wrap .i64 (a2-a1))+1)) d0).bind fun x1=>some ((IntKind.wrap .i64 (a1+x1.1)),x1.2)
def mz(a1:ai)(d0:ae):Option (aa×ae):=
  (mA a1.aK.fX a1.aG.fX d0).bind fun x1=>(mA a1.aK.fY a1.aG.fY x1.2).bind fun x2=>(mA a1.aK.fZ a1.aG.fZ x2.2).bind fun x3=>some ((aa.mk x1.1 x2.1 x3.1),x3.2)
def pr(x4:aq)(a1:av)(a2:Int)(s1:Int):Int->Option (gz (Int) ((Int)⊕(aa×Bool))):=fun s5=>
  if(decide (s5<(x4.bz.length:Int)))=true then((gy x4.bz s5).bind fun x9=>if((x4.aC.aZ==a1.aZ)&&((x4.aC.aM==a1.aM)&&((x4.aC.aj==a1.aj)&&((x4.aC.a7==a1.a7)&&true))))=true then(if(decide (x9.bA<=a2))=true then(if(decide (a2<x9.fTo))=true then(some (.stop (.inr (x9.aY,true))))else(some (.next (IntKind.wrap .i64 (s5+1)))))else(some (.next (IntKind.wrap .i64 (s5+1)))))else(some (.next (IntKind.wrap .i64 (s5+1)))))else(some (.stop (.inl s1)))
def pu(a0:ap)(a1:av)(a2:Int):Int->Option (gz (Int) ((Unit)⊕(aa×Bool))):=fun s1=>
  if(decide (s1<(a0.aI.length:Int)))=true then((gy a0.aI s1).bind fun x4=>(fP (pr x4 a1 a2 s1) 0).bind fun o14=>match o14 with| .inl y15=>(some (.next (IntKind.wrap .i64 (y15+1))))| .inr r16=>(some (.stop (.inr r16))))else(some (.stop (.inl ())))
def oA(a0:ap)(a1:av)(a2:Int):Option (aa×Bool):=
  (fP (pu a0 a1 a2) 0).bind fun o18=>match o18 with| .inl _=>(some ((aa.mk 0 0 0),false))| .inr r20=>(some r20)
def p8(a0:Int):Option (Int):=
  some (IntKind.wrap .i64 (a0*a0))
def f9(x18:av)(x19:Int×ae)(x20:Int×ae)(j22:Int)(j23:Int)(j24:(List Int))(j25:Int)(j26:(List ac))(j27:Int)(j28:Int)(j29:Int)(j30:Int):Option (gz (Int×Int×(List Int)×Int×(List ac)×Int×Int×Int) ((List ac)×(List Int)×Int)):=
  (cG 5 (ae.mk j24 j25)).bind fun x31=>(cG 5 x31.2).bind fun x32=>(qd j26 [(ac.mk x18 (IntKind.wrap .i64 (j30+x31.1)) j30 (IntKind.wrap .i64 ((IntKind.wrap .i64 (j30+x31.1))+x32.1)) x19.1 (IntKind.wrap .i64 (x20.1-1)))] 104).bind fun x33=>some (.next (j22,(IntKind.wrap .i64 (j23-1)),x32.2.fL,x32.2.fAt,x33,j27,j28,j29))
def ny(x40:aa×Bool)(s9:Int)(s10:Int)(s11:Int)(s4:Int)(s5:Int)(s8:(List ac)):Int->Option (gz (Int) (Int×Int×Int×(List ac)×Int×Int×Int)):=fun s42=>
  (p8 (IntKind.wrap .i64 (x40.1.fX-s9))).bind fun x51=>(p8 (IntKind.wrap .i64 (x40.1.fY-s10))).bind fun x52=>(p8 (IntKind.wrap .i64 (x40.1.fZ-s11))).bind fun x53=>if(decide ((IntKind.wrap .i64 (s42*s42))<(IntKind.wrap .i64 ((IntKind.wrap .i64 (x51+x52))+x53))))=true then(some (.next (IntKind.wrap .i64 (s42+1))))else(some (.stop (s4,s5,s42,s8,s9,s10,s11)))
def qv(a1:ak)(a2:ap):(Int×Int×(List Int)×Int×(List ac)×Int×Int×Int)->Option (gz (Int×Int×(List Int)×Int×(List ac)×Int×Int×Int) ((List ac)×(List Int)×Int)):=fun(s4,s5,s6,s7,s8,s9,s10,s11)=>
  if(decide (s5>0))=true then((cG 6 (ae.mk s6 s7)).bind fun x17=>(cW x17.1).bind fun x18=>(dD [0,1,50,1000,1048576] x17.2).bind fun x19=>(cG 3 x19.2).bind fun x20=>(cG 2000 x20.2).bind fun x21=>(cG 6 x21.2).bind fun x35=>if(x35.1==0)=true then((mz a1.ag.aN x35.2).bind fun x37=>(cG 900 x37.2).bind fun x38=>f9 x18 x19 x20 (IntKind.wrap .i64 (s4+x38.1)) s5 x38.2.fL x38.2.fAt s8 x37.1.fX x37.1.fY x37.1.fZ (IntKind.wrap .i64 (1000+x21.1)))else(if(x35.1==1)=true then(f9 x18 x19 x20 s4 s5 x35.2.fL x35.2.fAt s8 s9 s10 s11 (IntKind.wrap .i64 (1000+x21.1)))else((oA a2 x18 s4).bind fun x40=>if x40.2=true then((fP (ny x40 s9 s10 s11 s4 s5 s8) 0).bind fun o56=>(rT .i64 o56.2.2.1 a1.ag.bg.bo).bind fun x57=>(gy a1.ag.bg.aK (if(IntKind.wrap .i64 ((a1.ag.bg.aK.length:Int)-1))<x57 then(IntKind.wrap .i64 ((a1.ag.bg.aK.length:Int)-1))else x57)).bind fun x58=>(cG 6 x35.2).bind fun x59=>f9 x18 x19 x20 o56.1 o56.2.1 x59.2.fL x59.2.fAt o56.2.2.2.1 o56.2.2.2.2.1 o56.2.2.2.2.2.1 o56.2.2.2.2.2.2 (IntKind.wrap .i64 ((IntKind.wrap .i64 (o56.1+x58))+x59.1)))else(f9 x18 x19 x20 s4 s5 x35.2.fL x35.2.fAt s8 s9 s10 s11 (IntKind.wrap .i64 (1000+x21.1))))))else(some (.stop (s8,s6,s7)))
def k7(a1:ak)(a2:ap)(a3:Int)(d0:ae):Option ((List ac)×ae):=
  (mz a1.ag.aN d0).bind fun x1=>(cG 500 x1.2).bind fun x2=>(cG (IntKind.wrap .i64 (a3+1)) x2.2).bind fun x3=>(fP (qv a1 a2) ((IntKind.wrap .i64 (1000+x2.1)),x3.1,x3.2.fL,x3.2.fAt,([]:(List ac)),x1.1.fX,x1.1.fY,x1.1.fZ)).bind fun o61=>some (o61.1,(ae.mk o61.2.1 o61.2.2))
def bD(a0:aa):Option (aT):=
  some (aT.mk a0.fX a0.fY a0.fZ)
def cV(a0:aa):Option (Bool):=
  (bD a0).bind fun x1=>if(decide (x1.a0<(-1048576)))=true then(some false)else(if(decide (x1.a0>1048576))=true then(some false)else(if(decide (x1.a1<(-1048576)))=true then(some false)else(if(decide (x1.a1>1048576))=true then(some false)else(if(decide (x1.a2<(-16384)))=true then(some false)else(if(decide (x1.a2>1048576))=true then(some false)else(some true))))))
def bH(a0:ai):Option (Bool):=
  (cV a0.aK).bind fun x1=>if(!x1)=true then(some false)else((cV a0.aG).bind fun x3=>if(!x3)=true then(some false)else((bD a0.aG).bind fun x5=>(bD a0.aK).bind fun x6=>if(decide (x6.a0>x5.a0))=true then(some false)else(if(decide (x6.a1>x5.a1))=true then(some false)else(if(decide (x6.a2>x5.a2))=true then(some false)else(some true)))))
def jC(a0:aF):(Int×Int×Int)->Option (gz (Int×Int×Int) ((Unit)⊕(Int))):=fun(s6,s7,s8)=>
  if(decide (s8<(a0.aK.length:Int)))=true then((gy a0.aK s8).bind fun x11=>if(decide (x11<s6))=true then(some (.stop (.inr 21)))else((gy a0.aG s8).bind fun x13=>if(decide (x13<s7))=true then(some (.stop (.inr 21)))else((gy a0.aK s8).bind fun x15=>(gy a0.aG s8).bind fun x16=>if(decide (x15>x16))=true then(some (.stop (.inr 21)))else((gy a0.aG s8).bind fun x18=>if(decide (x18>1099511627776))=true then(some (.stop (.inr 21)))else((gy a0.aK s8).bind fun x20=>(gy a0.aG s8).bind fun x21=>some (.next (x20,x21,(IntKind.wrap .i64 (s8+1)))))))))else(some (.stop (.inl ())))
def cL(a0:aF):Option (Int):=
  if(decide (a0.bo<1))=true then(some 21)else(if(decide (a0.bo>1048576))=true then(some 21)else(if((a0.aK.length:Int) != (a0.aG.length:Int))=true then(some 21)else(if(decide ((a0.aK.length:Int)<2))=true then(some 21)else(if(decide ((a0.aK.length:Int)>256))=true then(some 21)else((fP (jC a0) (0,0,0)).bind fun o23=>match o23 with| .inl _=>(some 0)| .inr r25=>(some r25))))))
def d8(a0:Int)(a1:Int)(a2:Int):Option (Bool):=
  if(decide (a0>=a1))=true then(some (decide (a0<=a2)))else(some false)
def dW(a0:al):Option (Bool):=
  (cV a0.aM).bind fun x1=>if x1=true then(if(decide (a0.aP>=0))=true then(if(decide (a0.aP<=a0.bi))=true then(if(decide (a0.bi<=18014398509481984))=true then(if(decide (a0.bG>=1))=true then(some (decide (a0.bG<=100)))else(some false))else(some false))else(some false))else(some false))else(some false)
def fe(a0:Int)(a1:Int)(a2:Int):Option (Int):=
  some (if 0>(if(IntKind.wrap .i64 (a0-a2))>(IntKind.wrap .i64 (a1-a0))then(IntKind.wrap .i64 (a0-a2))else(IntKind.wrap .i64 (a1-a0)))then 0 else(if(IntKind.wrap .i64 (a0-a2))>(IntKind.wrap .i64 (a1-a0))then(IntKind.wrap .i64 (a0-a2))else(IntKind.wrap .i64 (a1-a0))))
def gM(a0:ai)(a1:aa):Option (Int):=
  (bH a0).bind fun x1=>if(!x1)=true then(some 0)else((cV a1).bind fun x3=>if(!x3)=true then(some 0)else((bD a0.aK).bind fun x5=>(bD a0.aG).bind fun x6=>(bD a1).bind fun x7=>(fe x7.a0 x5.a0 x6.a0).bind fun x8=>(fe x7.a1 x5.a1 x6.a1).bind fun x9=>(fe x7.a2 x5.a2 x6.a2).bind fun x10=>some (IntKind.wrap .i64 ((IntKind.wrap .i64 ((IntKind.wrap .i64 (0+(IntKind.wrap .i64 (x8*x8))))+(IntKind.wrap .i64 (x9*x9))))+(IntKind.wrap .i64 (x10*x10))))))
def e9(a0:ai)(a1:aa):Option (Int):=
  (gM a0 a1).bind fun x1=>some x1
def eE(a0:Int)(a1:Int)(a2:Int):Option (Int):=
  some (if(IntKind.wrap .i64 (a0-a1))>(IntKind.wrap .i64 (a2-a0))then(IntKind.wrap .i64 (a0-a1))else(IntKind.wrap .i64 (a2-a0)))
def gp(a0:ai)(a1:aa):Option (Int):=
  (bH a0).bind fun x1=>if(!x1)=true then(some 0)else((cV a1).bind fun x3=>if(!x3)=true then(some 0)else((bD a0.aK).bind fun x5=>(bD a0.aG).bind fun x6=>(bD a1).bind fun x7=>(eE x7.a0 x5.a0 x6.a0).bind fun x8=>(eE x7.a1 x5.a1 x6.a1).bind fun x9=>(eE x7.a2 x5.a2 x6.a2).bind fun x10=>some (IntKind.wrap .i64 ((IntKind.wrap .i64 ((IntKind.wrap .i64 (0+(IntKind.wrap .i64 (x8*x8))))+(IntKind.wrap .i64 (x9*x9))))+(IntKind.wrap .i64 (x10*x10))))))
def gK(a0:ai)(a1:aa):Option (Int):=
  (gp a0 a1).bind fun x1=>some x1
def jF(a0:aF)(a1:ai)(a2:aa):Option (aF×Int×Int):=
  (e9 a1 a2).bind fun x1=>(gK a1 a2).bind fun x2=>some (a0,x1,x2)
def im(j3:Int)(j4:Int):Option (Int):=
  if(decide (j3>=256))=true then((vU [0,1,2,2,3,3,3,3,4,4,4,4,4,4,4,4,5,5,5,5,5,5,5,5,5,5,5,5,5,5,5,5,6,6,6,6,6,6,6,6,6,6,6,6,6,6,6,6,6,6,6,6,6,6,6,6,6,6,6,6,6,6,6,6,7,7,7,7,7,7,7,7,7,7,7,7,7,7,7,7,7,7,7,7,7,7,7,7,7,7,7,7,7,7,7,7,7,7,7,7,7,7,7,7,7,7,7,7,7,7,7,7,7,7,7,7,7,7,7,7,7,7,7,7,7,7,7,7,8,8,8,8,8,8,8,8,8,8,8,8,8,8,8,8,8,8,8,8,8,8,8,8,8,8,8,8,8,8,8,8,8,8,8,8,8,8,8,8,8,8,8,8,8,8,8,8,8,8,8,8,8,8,8,8,8,8,8,8,8,8,8,8,8,8,8,8,8,8,8,8,8,8,8,8,8,8,8,8,8,8,8,8,8,8,8,8,8,8,8,8,8,8,8,8,8,8,8,8,8,8,8,8,8,8,8,8,8,8,8,8,8,8,8,8,8,8,8,8,8,8,8,8,8,8,8,8] (IntKind.wrap .u8 (nG .u64 j3 8))).bind fun x6=>some (IntKind.wrap .i64 ((IntKind.wrap .i64 (j4+8))+(IntKind.wrap .i64 x6))))else((vU [0,1,2,2,3,3,3,3,4,4,4,4,4,4,4,4,5,5,5,5,5,5,5,5,5,5,5,5,5,5,5,5,6,6,6,6,6,6,6,6,6,6,6,6,6,6,6,6,6,6,6,6,6,6,6,6,6,6,6,6,6,6,6,6,7,7,7,7,7,7,7,7,7,7,7,7,7,7,7,7,7,7,7,7,7,7,7,7,7,7,7,7,7,7,7,7,7,7,7,7,7,7,7,7,7,7,7,7,7,7,7,7,7,7,7,7,7,7,7,7,7,7,7,7,7,7,7,7,8,8,8,8,8,8,8,8,8,8,8,8,8,8,8,8,8,8,8,8,8,8,8,8,8,8,8,8,8,8,8,8,8,8,8,8,8,8,8,8,8,8,8,8,8,8,8,8,8,8,8,8,8,8,8,8,8,8,8,8,8,8,8,8,8,8,8,8,8,8,8,8,8,8,8,8,8,8,8,8,8,8,8,8,8,8,8,8,8,8,8,8,8,8,8,8,8,8,8,8,8,8,8,8,8,8,8,8,8,8,8,8,8,8,8,8,8,8,8,8,8,8,8,8,8,8,8,8] (IntKind.wrap .u8 j3)).bind fun x7=>some (IntKind.wrap .i64 (j4+(IntKind.wrap .i64 x7))))
def gi(j1:Int)(j2:Int):Option (Int):=
  if(decide (j1>=65536))=true then(im (nG .u64 j1 16) (IntKind.wrap .i64 (j2+16)))else(im j1 j2)
def mI(a0:Int):Option (Int):=
  if(decide (a0>=4294967296))=true then(gi (nG .u64 a0 32) 32)else(gi a0 0)
def fD(a0:Int):Option (Int):=
  (mI a0).bind fun x1=>some x1
def gL(a0:Int):(Int×Int)->Option (gz (Int×Int) (Int)):=fun(s5,s6)=>
  if(decide (s6>0))=true then((rT .i64 a0 (orI .i64 s5 s6)).bind fun x10=>if(decide ((orI .i64 s5 s6)<=x10))=true then(some (.next ((orI .i64 s5 s6),(nG .i64 s6 1))))else(some (.next (s5,(nG .i64 s6 1)))))else(some (.stop s5))
def fi(a0:Int):Option (Int):=
  if(decide (a0<=0))=true then(some 0)else((fD (IntKind.wrap .u64 a0)).bind fun x2=>(rT .i64 (IntKind.wrap .i64 (x2-1)) 2).bind fun x3=>(xu .i64 1 x3).bind fun x4=>(fP (gL a0) (0,x4)).bind fun o13=>some o13)
def iq(a0:Int):Option (Int):=
  (fi a0).bind fun x1=>if(decide ((IntKind.wrap .i64 (x1*x1))<a0))=true then(some (IntKind.wrap .i64 (x1+1)))else(some x1)
def kW(a0:aF):Option (Int):=
  some (IntKind.wrap .i64 (a0.bo*(IntKind.wrap .i64 ((a0.aK.length:Int)-1))))
def gh(a0:Int)(d0:aF)(d1:Int):Option (Bool):=
  some (decide ((IntKind.wrap .i64 (a0*d0.bo))>=d1))
def gg(d0:aF)(d1:Int):(Int×Int)->Option (gz (Int×Int) (Int)):=fun(s1,s2)=>
  if(decide (s1<s2))=true then((gh (IntKind.wrap .i64 (nG .u64 (IntKind.wrap .u64 (IntKind.wrap .i64 (s1+s2))) 1)) d0 d1).bind fun x6=>if(!x6)=true then(some (.next ((IntKind.wrap .i64 ((IntKind.wrap .i64 (nG .u64 (IntKind.wrap .u64 (IntKind.wrap .i64 (s1+s2))) 1))+1)),s2)))else(some (.next (s1,(IntKind.wrap .i64 (nG .u64 (IntKind.wrap .u64 (IntKind.wrap .i64 (s1+s2))) 1))))))else(some (.stop s1))
def dI(a0:Int)(d0:aF)(d1:Int):Option (Int):=
  (fP (gg d0 d1) (0,a0)).bind fun o9=>some o9
def cb(a0:aF)(a1:Int)(a2:Int):Option (Int×Int×Int):=
  (cL a0).bind fun x1=>if(x1 != 0)=true then(some (0,0,21))else(if(decide (a1<0))=true then(some (0,0,2))else(if(decide (a1>a2))=true then(some (0,0,2))else((iq a2).bind fun x5=>(kW a0).bind fun x6=>if(decide (x5>x6))=true then(some (0,0,22))else((dI (a0.aG.length:Int) a0 x5).bind fun x8=>(fi a1).bind fun x9=>(rT .i64 x9 a0.bo).bind fun x10=>(gy a0.aK x10).bind fun x11=>(gy a0.aG x8).bind fun x12=>some (x11,x12,0)))))
def gj(a0:aF)(a1:ai)(a2:aa):Option (Int×Int×Int):=
  (cL a0).bind fun x1=>if(x1 != 0)=true then(some (0,0,x1))else((bH a1).bind fun x3=>if(!x3)=true then(some (0,0,20))else((cV a2).bind fun x5=>if(!x5)=true then(some (0,0,20))else((jF a0 a1 a2).bind fun x7=>(cb x7.1 x7.2.1 x7.2.2).bind fun x8=>some (x8.1,x8.2.1,x8.2.2))))
def dM(a0:aF)(a1:ai)(a2:al):Option (aL×Int):=
  (cL a0).bind fun x1=>if(x1 != 0)=true then(some ((aL.mk 0 0),x1))else((bH a1).bind fun x3=>if(!x3)=true then(some ((aL.mk 0 0),20))else((dW a2).bind fun x5=>if(!x5)=true then(some ((aL.mk 0 0),23))else((gj a0 a1 a2.aM).bind fun x7=>if(x7.2.2 != 0)=true then(some ((aL.mk 0 0),x7.2.2))else(some ((aL.mk (IntKind.wrap .i64 (a2.aP-x7.2.1)) (IntKind.wrap .i64 (a2.bi-x7.1))),0)))))
def dc(a1:(List al))(a0:aJ):Int->Option (gz (Int) ((Unit)⊕(Int))):=fun s16=>
  if(decide (s16<(a1.length:Int)))=true then((gy a1 s16).bind fun x19=>(dM a0.bg a0.aN x19).bind fun x20=>if(x20.2 != 0)=true then(some (.stop (.inr x20.2)))else(some (.next (IntKind.wrap .i64 (s16+1)))))else(some (.stop (.inl ())))
def dy(a0:aJ)(a1:(List al)):Option (Int):=
  (bH a0.aN).bind fun x1=>if(!x1)=true then(some 27)else((cL a0.bg).bind fun x3=>if(x3 != 0)=true then(some 27)else((d8 a0.cC 1 1099511627776).bind fun x5=>if(!x5)=true then(some 27)else((d8 a0.bv 0 1099511627776).bind fun x7=>if(!x7)=true then(some 27)else((d8 a0.eK 0 1099511627776).bind fun x9=>if(!x9)=true then(some 27)else((d8 a0.dx 0 1099511627776).bind fun x11=>if(!x11)=true then(some 27)else((d8 a0.co 2 16).bind fun x13=>if(!x13)=true then(some 27)else(if(decide ((a1.length:Int)>256))=true then(some 8)else((fP (dc a1 a0) 0).bind fun o23=>match o23 with| .inl _=>(some 0)| .inr r25=>(some r25)))))))))
def c6(a0:bt):Option (Bool):=
  (cL a0.bF).bind fun x1=>if(x1==0)=true then(if(decide (a0.bn>=0))=true then(if(decide (a0.bn<=65536))=true then(if(decide (a0.bf>=1))=true then(some (decide (a0.bf<=65536)))else(some false))else(some false))else(some false))else(some false)
def eH(a0:ak):Option (Int):=
  (dy a0.ag []).bind fun x1=>if(x1 != 0)=true then(some 27)else((c6 a0.cp).bind fun x3=>if(!x3)=true then(some 27)else(if(decide (a0.bv<0))=true then(some 27)else(if(decide (a0.bv>1099511627776))=true then(some 27)else(some 0))))
def mw(a0:Int):Option (Bool):=
  if(decide (a0>=65))=true then(if(decide (a0<=90))=true then(some true)else(if(decide (a0>=48))=true then(some (decide (a0<=57)))else(some false)))else(if(decide (a0>=48))=true then(some (decide (a0<=57)))else(some false))
def je(a0:(List UInt8)):Int->Option (gz (Int) ((Unit)⊕(Bool))):=fun s1=>
  if(decide (s1<(a0.length:Int)))=true then((vU a0 s1).bind fun x4=>(mw x4).bind fun x5=>if(!x5)=true then(some (.stop (.inr false)))else(some (.next (IntKind.wrap .i64 (s1+1)))))else(some (.stop (.inl ())))
def fW(a0:(List UInt8))(a1:Int)(a2:Int):Option (Bool):=
  (fP (je a0) 0).bind fun o8=>match o8 with| .inl _=>(if(decide ((a0.length:Int)>=a1))=true then(some (decide ((a0.length:Int)<=a2)))else(some false))| .inr r10=>(some r10)
def hC(a0:av):Option (Bool):=
  (fW a0.aZ 1 2).bind fun x1=>if x1=true then((fW a0.aM 1 5).bind fun x3=>if x3=true then((fW a0.aj 0 2).bind fun x5=>if x5=true then(if((a0.aj.length:Int) != 1)=true then((fW a0.a7 3 3).bind fun x8=>some x8)else(some false))else(some false))else(some false))else(some false)
def qc(a0:Int)(a1:Int)(a2:Int):Option (Bool):=
  if(decide (a0>=a1))=true then(some (decide (a0<=a2)))else(some false)
def rate_gcd_l7:(Int×Int)->Option (gz (Int×Int) (Int)):=fun(s1,s2)=>
  if(s2 != 0)=true then((wb s1 s2).bind fun x6=>some (.next (s2,x6)))else(some (.stop s1))
def pM(a0:Int)(a1:Int):Option (Int):=
  (fP (rate_gcd_l7) (a0,a1)).bind fun o8=>some o8
def lu(a0:bu):Option (Bool):=
  (qc a0.bn 1 4096).bind fun x1=>if x1=true then((qc a0.bf 1 4096).bind fun x3=>if x3=true then((pM a0.bn a0.bf).bind fun x5=>some (x5==1))else(some false))else(some false)
def bB(a0:Int)(a1:Int)(a2:Int):Option (Bool):=
  if(decide (a0>=a1))=true then(some (decide (a0<=a2)))else(some false)
def jA(a0:Int):Option (Bool):=
  (bB a0 (-1048576) 1048576).bind fun x1=>some (!x1)
def dw(a0:(List Int)):Int->Option (gz (Int) ((Unit)⊕(Int))):=fun s1=>
  if(decide (s1<(a0.length:Int)))=true then((gy a0 s1).bind fun x4=>(jA x4).bind fun x5=>if x5=true then(some (.stop (.inr s1)))else(some (.next (IntKind.wrap .i64 (s1+1)))))else(some (.stop (.inl ())))
def dh(a0:(List Int)):Option (Int):=
  (fP (dw a0) 0).bind fun o8=>match o8 with| .inl _=>(some (-1))| .inr r10=>(some r10)
def cH(a0:(List Int)):Option (Bool):=
  (dh a0).bind fun x1=>some (decide (x1>=0))
def cw(a0:(List Int)):Option (Bool):=
  (cH a0).bind fun x1=>some (!x1)
def l8(a0:(List Int)):(Int×Int)->Option (gz (Int×Int) (Int)):=fun(s1,s2)=>
  if(decide (s2<(a0.length:Int)))=true then((gy a0 s2).bind fun x6=>some (.next ((IntKind.wrap .i64 (s1+x6)),(IntKind.wrap .i64 (s2+1)))))else(some (.stop s1))
def dO(a0:(List Int)):Option (Int):=
  (fP (l8 a0) (0,0)).bind fun o8=>some o8
def cO(a0:aH):Option (Bool):=
  if((a0.cf.length:Int)==0)=true then(if(a0.bQ==0)=true then(if(a0.db==0)=true then(if(a0.b8==0)=true then(if((a0.bn.a0==a0.bn.a0)&&((a0.bn.a1==0)&&((a0.bn.a2==0)&&true)))=true then(if((a0.bf.a0==a0.bf.a0)&&((a0.bf.a1==0)&&((a0.bf.a2==0)&&true)))=true then((bB a0.bn.a0 1 1048576).bind fun x7=>if x7=true then((bB a0.bf.a0 1 1048576).bind fun x9=>some x9)else(some false))else(some false))else(some false))else(some false))else(if(a0.db==1)=true then(if(a0.b8==0)=true then((cw [a0.bn.a0,a0.bn.a1,a0.bn.a2]).bind fun x12=>if x12=true then((cw [a0.bf.a0,a0.bf.a1,a0.bf.a2]).bind fun x14=>if x14=true then(some (a0.bf.a0 != 0))else(some false))else(some false))else(some false))else(if(a0.db==2)=true then(if((a0.bn.a0==0)&&((a0.bn.a1==0)&&((a0.bn.a2==0)&&true)))=true then(if((a0.bf.a0==0)&&((a0.bf.a1==0)&&((a0.bf.a2==0)&&true)))=true then((bB (a0.cf.length:Int) 1 128).bind fun x19=>if x19=true then((cw a0.cf).bind fun x21=>if x21=true then((dO a0.cf).bind fun x23=>if(x23 != 0)=true then((bB a0.bQ 1 64).bind fun x25=>if x25=true then((bB a0.b8 0 40).bind fun x27=>some x27)else(some false))else(some false))else(some false))else(some false))else(some false))else(some false))else(some false))))else(if(a0.db==0)=true then(some false)else(if(a0.db==1)=true then(some false)else(if(a0.db==2)=true then(if((a0.bn.a0==0)&&((a0.bn.a1==0)&&((a0.bn.a2==0)&&true)))=true then(if((a0.bf.a0==0)&&((a0.bf.a1==0)&&((a0.bf.a2==0)&&true)))=true then((bB (a0.cf.length:Int) 1 128).bind fun x33=>if x33=true then((cw a0.cf).bind fun x35=>if x35=true then((dO a0.cf).bind fun x37=>if(x37 != 0)=true then((bB a0.bQ 1 64).bind fun x39=>if x39=true then((bB a0.b8 0 40).bind fun x41=>some x41)else(some false))else(some false))else(some false))else(some false))else(some false))else(some false))else(some false)))))else(if(a0.db==0)=true then(some false)else(if(a0.db==1)=true then(some false)else(if(a0.db==2)=true then(if((a0.bn.a0==0)&&((a0.bn.a1==0)&&((a0.bn.a2==0)&&true)))=true then(if((a0.bf.a0==0)&&((a0.bf.a1==0)&&((a0.bf.a2==0)&&true)))=true then((bB (a0.cf.length:Int) 1 128).bind fun x47=>if x47=true then((cw a0.cf).bind fun x49=>if x49=true then((dO a0.cf).bind fun x51=>if(x51 != 0)=true then((bB a0.bQ 1 64).bind fun x53=>if x53=true then((bB a0.b8 0 40).bind fun x55=>some x55)else(some false))else(some false))else(some false))else(some false))else(some false))else(some false))else(some false))))
def eP(a0:aH):Option (Bool):=
  (cO a0).bind fun x1=>some (!x1)
def cx(a0:(List aH)):Int->Option (gz (Int) ((Unit)⊕(Int))):=fun s1=>
  if(decide (s1<(a0.length:Int)))=true then((gy a0 s1).bind fun x4=>(eP x4).bind fun x5=>if x5=true then(some (.stop (.inr s1)))else(some (.next (IntKind.wrap .i64 (s1+1)))))else(some (.stop (.inl ())))
def cU(a0:(List aH)):Option (Int):=
  (fP (cx a0) 0).bind fun o8=>match o8 with| .inl _=>(some (-1))| .inr r10=>(some r10)
def b9(a0:(List aH)):Option (Bool):=
  (cU a0).bind fun x1=>some (decide (x1>=0))
def gY(a0:(List aH)):(Int×Int)->Option (gz (Int×Int) ((Int)⊕(Int))):=fun(s1,s2)=>
  if(decide (s2<(a0.length:Int)))=true then((gy a0 s2).bind fun x6=>if(x6.db != 2)=true then(some (.next (s1,(IntKind.wrap .i64 (s2+1)))))else(if(decide ((IntKind.wrap .i64 (s1*x6.bQ))>64))=true then(some (.stop (.inr 0)))else(some (.next ((IntKind.wrap .i64 (s1*x6.bQ)),(IntKind.wrap .i64 (s2+1)))))))else(some (.stop (.inl s1)))
def fB(a0:(List aH)):Option (Int):=
  (fP (gY a0) (1,0)).bind fun o10=>match o10 with| .inl y11=>(some y11)| .inr r12=>(some r12)
def fk(a0:aO):Option (Bool):=
  if(decide ((a0.bq.length:Int)>8))=true then(some false)else((b9 a0.bq).bind fun x2=>if x2=true then(some false)else((fB a0.bq).bind fun x4=>some (decide (x4>0))))
def du(a0:Int)(a1:Int)(a2:Int):Option (Bool):=
  if(decide (a0>=a1))=true then(some (decide (a0<=a2)))else(some false)
def dG(a0:aA):Option (Bool):=
  if(decide (a0.bA>=0))=true then(if(decide (a0.bA<a0.fTo))=true then(if(decide (a0.fTo<=9007199254740992))=true then((lu a0.dn).bind fun x4=>if x4=true then((fk a0.bC).bind fun x6=>if x6=true then((du a0.aY.fX (-1048576) 1048576).bind fun x8=>if x8=true then((du a0.aY.fY (-1048576) 1048576).bind fun x10=>if x10=true then((du a0.aY.fZ (-16384) 1048576).bind fun x12=>some x12)else(some false))else(some false))else(some false))else(some false))else(some false))else(some false))else(some false)
def eh(a0:(List aA)):Int->Option (gz (Int) ((Unit)⊕(Bool))):=fun s1=>
  if(decide (s1<(a0.length:Int)))=true then((gy a0 s1).bind fun x4=>(dG x4).bind fun x5=>if(!x5)=true then(some (.stop (.inr false)))else(if(decide (s1>0))=true then((gy a0 (IntKind.wrap .i64 (s1-1))).bind fun x8=>if(decide (x4.bA<x8.fTo))=true then(some (.stop (.inr false)))else(some (.next (IntKind.wrap .i64 (s1+1)))))else(some (.next (IntKind.wrap .i64 (s1+1))))))else(some (.stop (.inl ())))
def fg(a0:(List aA)):Option (Bool):=
  (fP (eh a0) 0).bind fun o11=>match o11 with| .inl _=>((du (a0.length:Int) 1 32).bind fun x14=>some x14)| .inr r13=>(some r13)
def gm(a0:(List UInt8)):Option (Bool):=
  some (!(a0==a0))
def bX(a0:(List UInt8))(a1:(List UInt8)):Option (Int):=
  (gm a0).bind fun x1=>(gm a1).bind fun x2=>if x1=true then(if x2=true then(some 0)else(some (-1)))else(if x2=true then(some 1)else(if(Op.bytesLess a0 a1)=true then(some (-1))else(if(!(Op.bytesLess a0 a1||a0==a1))=true then(some 1)else(some 0))))
def dL(a0:(List Int)):Int->Option (gz (Int) ((Unit)⊕(Int))):=fun s1=>
  if(decide (s1<(a0.length:Int)))=true then((gy a0 s1).bind fun x4=>if(x4 != 0)=true then(some (.stop (.inr x4)))else(some (.next (IntKind.wrap .i64 (s1+1)))))else(some (.stop (.inl ())))
def cB(a0:(List Int)):Option (Int):=
  (fP (dL a0) 0).bind fun o7=>match o7 with| .inl _=>(some 0)| .inr r9=>(some r9)
def ey(a0:av)(a1:av):Option (Int):=
  (bX a0.aZ a1.aZ).bind fun x1=>(bX a0.aM a1.aM).bind fun x2=>(bX a0.aj a1.aj).bind fun x3=>(bX a0.a7 a1.a7).bind fun x4=>(cB [x1,x2,x3,x4]).bind fun x5=>some x5
def eO(a0:ap):Int->Option (gz (Int) ((Unit)⊕(Bool))):=fun s1=>
  if(decide (s1<(a0.aI.length:Int)))=true then((gy a0.aI s1).bind fun x4=>(hC x4.aC).bind fun x5=>if(!x5)=true then(some (.stop (.inr false)))else((fg x4.bz).bind fun x7=>if(!x7)=true then(some (.stop (.inr false)))else(if(decide (s1>0))=true then((gy a0.aI (IntKind.wrap .i64 (s1-1))).bind fun x10=>(ey x10.aC x4.aC).bind fun x11=>if(decide (x11>=0))=true then(some (.stop (.inr false)))else(some (.next (IntKind.wrap .i64 (s1+1)))))else(some (.next (IntKind.wrap .i64 (s1+1)))))))else(some (.stop (.inl ())))
def c9(a0:ap):Option (Bool):=
  (fP (eO a0) 0).bind fun o14=>match o14 with| .inl _=>(some (decide ((a0.aI.length:Int)<=128)))| .inr r16=>(some r16)
def d9(a0:Int):Option (Bool):=
  some (a0 != a0)
def bM(a0:Int)(a1:Int):Option (Int):=
  (d9 a0).bind fun x1=>(d9 a1).bind fun x2=>if x1=true then(if x2=true then(some 0)else(some (-1)))else(if x2=true then(some 1)else(if(decide (a0<a1))=true then(some (-1))else(if(decide (a0>a1))=true then(some 1)else(some 0))))
def ca(a0:ac)(a1:ac):Option (Int):=
  (ey a0.aC a1.aC).bind fun x1=>(bM a0.a8 a1.a8).bind fun x2=>(bM a0.aP a1.aP).bind fun x3=>(bM a0.bi a1.bi).bind fun x4=>(bM a0.aS a1.aS).bind fun x5=>(bM a0.aW a1.aW).bind fun x6=>(cB [x1,x2,x3,x4,x5,x6]).bind fun x7=>some x7
def gB(s2:Int)(d0:(List ac)):(Int×Int×(List ac))->Option (gz (Int×Int×(List ac)) (Int×(List ac))):=fun(s13,s14,s15)=>
  (lenV s15.length (0+(s2:Int).toNat) (0+((d0.length:Int):Int).toNat)).bind fun x19=>if(decide (s14<x19))=true then((inV s15.length (0+(s2:Int).toNat) (0+((d0.length:Int):Int).toNat) s14).bind fun _=>(gy s15 (((0+(s2:Int).toNat)+(s14:Int).toNat:Nat):Int)).bind fun x22=>(inV s15.length (0+(s2:Int).toNat) (0+((d0.length:Int):Int).toNat) (IntKind.wrap .i64 (s14-1))).bind fun _=>(gy s15 (((0+(s2:Int).toNat)+((IntKind.wrap .i64 (s14-1)):Int).toNat:Nat):Int)).bind fun x24=>if(!(((x22.aC.aZ==x24.aC.aZ)&&((x22.aC.aM==x24.aC.aM)&&((x22.aC.aj==x24.aC.aj)&&((x22.aC.a7==x24.aC.a7)&&true))))&&((x22.a8==x24.a8)&&((x22.aP==x24.aP)&&((x22.bi==x24.bi)&&((x22.aS==x24.aS)&&((x22.aW==x24.aW)&&true)))))))=true then((inV s15.length (0+(s2:Int).toNat) (0+((d0.length:Int):Int).toNat) s14).bind fun _=>(gy s15 (((0+(s2:Int).toNat)+(s14:Int).toNat:Nat):Int)).bind fun x27=>(inO s15 s13).bind fun _=>(sy s15 s13 x27).bind fun x30=>some (.next ((IntKind.wrap .i64 (s13+1)),(IntKind.wrap .i64 (s14+1)),x30)))else(some (.next (s13,(IntKind.wrap .i64 (s14+1)),s15))))else(some (.stop (s13,s15)))
def gC(d0:(List ac)):Int->Option (gz (Int) ((Unit)⊕((List ac)))):=fun s2=>
  if(decide (s2<(d0.length:Int)))=true then((inO d0 s2).bind fun _=>(gy d0 s2).bind fun x7=>(inO d0 (IntKind.wrap .i64 (s2-1))).bind fun _=>(gy d0 (IntKind.wrap .i64 (s2-1))).bind fun x10=>if(((x7.aC.aZ==x10.aC.aZ)&&((x7.aC.aM==x10.aC.aM)&&((x7.aC.aj==x10.aC.aj)&&((x7.aC.a7==x10.aC.a7)&&true))))&&((x7.a8==x10.a8)&&((x7.aP==x10.aP)&&((x7.bi==x10.bi)&&((x7.aS==x10.aS)&&((x7.aW==x10.aW)&&true))))))=true then((wZ d0.length s2 (d0.length:Int)).bind fun _=>(fP (gB s2 d0) (s2,1,d0)).bind fun o32=>(wZ o32.2.length o32.1 (o32.2.length:Int)).bind fun _=>(zw o32.2.length (0+(o32.1:Int).toNat) (0+((o32.2.length:Int):Int).toNat)).bind fun _=>(wZ (ui o32.2 (0+(o32.1:Int).toNat) ((0+((o32.2.length:Int):Int).toNat)-(0+(o32.1:Int).toNat)) (ac.mk (av.mk [] [] [] []) 0 0 0 0 0)).length 0 o32.1).bind fun _=>(yh (ui o32.2 (0+(o32.1:Int).toNat) ((0+((o32.2.length:Int):Int).toNat)-(0+(o32.1:Int).toNat)) (ac.mk (av.mk [] [] [] []) 0 0 0 0 0)) (0+(0:Int).toNat) (0+(o32.1:Int).toNat)).bind fun x37=>some (.stop (.inr x37)))else(some (.next (IntKind.wrap .i64 (s2+1)))))else(some (.stop (.inl ())))
def eQ(d0:(List ac)):Option ((List ac)):=
  if(decide ((d0.length:Int)<2))=true then(some d0)else((fP (gC d0) 1).bind fun o39=>match o39 with| .inl _=>(some d0)| .inr r41=>(some r41))
def dH(a0:(List ac)):Option ((List ac)):=
  (rE 104 a0).bind fun x1=>(wE ca x1).bind fun x2=>(eQ x2).bind fun x3=>some x3
def jq(a0:Int)(a1:Int)(a2:Int):Option (Bool):=
  if(decide (a0>=a1))=true then(some (decide (a0<=a2)))else(some false)
def fh(a0:ac):Option (Bool):=
  (hC a0.aC).bind fun x1=>if x1=true then(if(decide (a0.aP>=0))=true then(if(decide (a0.aP<=a0.a8))=true then(if(decide (a0.a8<=a0.bi))=true then(if(decide (a0.bi<=18014398509481984))=true then((jq a0.aS 0 1073741823).bind fun x7=>if x7=true then((jq a0.aW (-1) 1).bind fun x9=>some x9)else(some false))else(some false))else(some false))else(some false))else(some false))else(some false)
def eF(x1:(List aH)):(Int×(List aH))->Option (gz (Int×(List aH)) ((List aH))):=fun(s2,s3)=>
  if(decide (s2<(x1.length:Int)))=true then((inO s3 s2).bind fun _=>(gy s3 s2).bind fun x9=>(rE 8 x9.cf).bind fun x10=>(inO s3 s2).bind fun _=>(modO s3 s2 (fun(z14:aH)=>(aH.mk z14.db z14.bn z14.bf x10 z14.bQ z14.b8))).bind fun x13=>some (.next ((IntKind.wrap .i64 (s2+1)),x13)))else(some (.stop s3))
def dT(a0:aA):Option (aA):=
  (rE 96 a0.bC.bq).bind fun x1=>(fP (eF x1) (0,x1)).bind fun o16=>some (aA.mk a0.bA a0.fTo a0.dn a0.aY (aO.mk o16))
def ef(x1:(List aA)):(Int×(List aA))->Option (gz (Int×(List aA)) ((List aA))):=fun(s2,s3)=>
  if(decide (s2<(x1.length:Int)))=true then((inO s3 s2).bind fun _=>(gy s3 s2).bind fun x9=>(dT x9).bind fun x10=>(inO s3 s2).bind fun _=>(sy s3 s2 x10).bind fun x13=>some (.next ((IntKind.wrap .i64 (s2+1)),x13)))else(some (.stop s3))
def ff(a0:aq):Option (aq):=
  (rE 80 a0.bz).bind fun x1=>(fP (ef x1) (0,x1)).bind fun o15=>some (aq.mk a0.aC o15)
def fH(a0:ap)(a1:av):Int->Option (gz (Int) ((Unit)⊕(aq×Bool))):=fun s1=>
  if(decide (s1<(a0.aI.length:Int)))=true then((gy a0.aI s1).bind fun x4=>if((x4.aC.aZ==a1.aZ)&&((x4.aC.aM==a1.aM)&&((x4.aC.aj==a1.aj)&&((x4.aC.a7==a1.a7)&&true))))=true then((ff x4).bind fun x6=>some (.stop (.inr (x6,true))))else(some (.next (IntKind.wrap .i64 (s1+1)))))else(some (.stop (.inl ())))
def gq(a0:ap)(a1:av):Option (aq×Bool):=
  (fP (fH a0 a1) 0).bind fun o8=>match o8 with| .inl _=>(some ((aq.mk (av.mk [] [] [] []) []),false))| .inr r10=>(some r10)
def jR(a0:aq)(a1:Int):Int->Option (gz (Int) ((Unit)⊕(aA×Bool))):=fun s1=>
  if(decide (s1<(a0.bz.length:Int)))=true then((gy a0.bz s1).bind fun x4=>if(decide (x4.bA<=a1))=true then(if(decide (a1<x4.fTo))=true then(some (.stop (.inr (x4,true))))else(some (.next (IntKind.wrap .i64 (s1+1)))))else(some (.next (IntKind.wrap .i64 (s1+1)))))else(some (.stop (.inl ())))
def jm(a0:aq)(a1:Int):Option (aA×Bool):=
  (fP (jR a0 a1) 0).bind fun o8=>match o8 with| .inl _=>(some ((aA.mk 0 0 (bu.mk 0 0) (aa.mk 0 0 0) (aO.mk [])),false))| .inr r10=>(some r10)
def jl(a0:ap)(a1:av)(a2:Int):Option (aA×Int):=
  (c9 a0).bind fun x1=>if(!x1)=true then(some ((aA.mk 0 0 (bu.mk 0 0) (aa.mk 0 0 0) (aO.mk [])),1))else((gq a0 a1).bind fun x3=>(jm x3.1 a2).bind fun x4=>if(!x4.2)=true then(some ((aA.mk 0 0 (bu.mk 0 0) (aa.mk 0 0 0) (aO.mk [])),6))else(some (x4.1,0)))
def cN(a0:ak)(a1:ap)(a2:ac):Option (al×aA×Bool):=
  (fh a2).bind fun x1=>if(!x1)=true then(some ((al.mk (aa.mk 0 0 0) 0 0 0),(aA.mk 0 0 (bu.mk 0 0) (aa.mk 0 0 0) (aO.mk [])),false))else((jl a1 a2.aC a2.a8).bind fun x3=>if(x3.2 != 0)=true then(some ((al.mk (aa.mk 0 0 0) 0 0 0),(aA.mk 0 0 (bu.mk 0 0) (aa.mk 0 0 0) (aO.mk [])),false))else((dM a0.ag.bg a0.ag.aN (al.mk x3.1.aY a2.aP a2.bi 1)).bind fun x5=>if(x5.2 != 0)=true then(some ((al.mk (aa.mk 0 0 0) 0 0 0),(aA.mk 0 0 (bu.mk 0 0) (aa.mk 0 0 0) (aO.mk [])),false))else(some ((al.mk x3.1.aY a2.aP a2.bi 1),x3.1,true))))
def ij(a0:ak)(a1:ap)(a2:ac):Option (al×Bool):=
  (eH a0).bind fun x1=>if(x1 != 0)=true then(some ((al.mk (aa.mk 0 0 0) 0 0 0),false))else((c9 a1).bind fun x3=>if(!x3)=true then(some ((al.mk (aa.mk 0 0 0) 0 0 0),false))else((cN a0 a1 a2).bind fun x5=>some (x5.1,x5.2.2)))
def lc(x5:(List ac))(a0:ak)(a1:ap):(Int×(List ac)×(List al))->Option (gz (Int×(List ac)×(List al)) ((List ac)×(List al))):=fun(s6,s7,s8)=>
  if(decide (s6<(x5.length:Int)))=true then((gy x5 s6).bind fun x13=>(ij a0 a1 x13).bind fun x14=>if x14.2=true then((qd s7 [x13] 104).bind fun x16=>(qd s8 [x14.1] 48).bind fun x17=>some (.next ((IntKind.wrap .i64 (s6+1)),x16,x17)))else(some (.next ((IntKind.wrap .i64 (s6+1)),s7,s8))))else(some (.stop (s7,s8)))
def kJ(a0:ak)(a1:ap)(a2:(List ac)):Option ((List ac)×(List al)×Int):=
  (eH a0).bind fun x1=>if(x1 != 0)=true then(some (([]:(List ac)),([]:(List al)),27))else((c9 a1).bind fun x3=>if(!x3)=true then(some (([]:(List ac)),([]:(List al)),1))else((dH a2).bind fun x5=>(fP (lc x5 a0 a1) (0,([]:(List ac)),([]:(List al)))).bind fun o19=>if(decide ((o19.1.length:Int)>256))=true then(some (([]:(List ac)),([]:(List al)),8))else(some (o19.1,o19.2,0))))
def dX(a0:aa)(a1:aa):Option (Int):=
  (bM a0.fX a1.fX).bind fun x1=>(bM a0.fY a1.fY).bind fun x2=>(bM a0.fZ a1.fZ).bind fun x3=>(cB [x1,x2,x3]).bind fun x4=>some x4
def iE(a0:al)(a1:al):Option (Int):=
  (bM a0.aP a1.aP).bind fun x1=>(bM a0.bi a1.bi).bind fun x2=>(dX a0.aM a1.aM).bind fun x3=>(bM a0.bG a1.bG).bind fun x4=>(cB [x1,x2,x3,x4]).bind fun x5=>some x5
def fC(a0:Int)(a1:Int)(d0:(List al)):Option (Int):=
  (gy d0 a0).bind fun x1=>(gy d0 a1).bind fun x2=>(iE x1 x2).bind fun x3=>some x3
def iC(a0:Int)(d1:(List al))(s1:Int):(Int×(List Int))->Option (gz (Int×(List Int)) (Int×(List Int))):=fun(s5,s6)=>
  if(decide (s5>a0))=true then((inO s6 s5).bind fun _=>(gy s6 s5).bind fun x13=>(inO s6 (IntKind.wrap .i64 (s5-1))).bind fun _=>(gy s6 (IntKind.wrap .i64 (s5-1))).bind fun x16=>(fC x13 x16 d1).bind fun x17=>if(decide (x17<0))=true then((inO s6 (IntKind.wrap .i64 (s5-1))).bind fun _=>(gy s6 (IntKind.wrap .i64 (s5-1))).bind fun x21=>(inO s6 s5).bind fun _=>(gy s6 s5).bind fun x24=>(inO s6 s5).bind fun _=>(sy s6 s5 x21).bind fun x27=>(inO x27 (IntKind.wrap .i64 (s5-1))).bind fun _=>(sy x27 (IntKind.wrap .i64 (s5-1)) x24).bind fun x30=>some (.next ((IntKind.wrap .i64 (s5-1)),x30)))else(some (.stop (s1,s6))))else(some (.stop (s1,s6)))
def iD(a1:Int)(a0:Int)(d1:(List al)):(Int×(List Int))->Option (gz (Int×(List Int)) ((List Int))):=fun(s1,s2)=>
  if(decide (s1<a1))=true then((fP (iC a0 d1 s1) (s1,s2)).bind fun o32=>some (.next ((IntKind.wrap .i64 (o32.1+1)),o32.2)))else((some s2).bind fun z33=>some (.stop z33))
def cr(a0:Int)(a1:Int)(d0:(List Int))(d1:(List al)):Option ((List Int)):=
  (fP (iD a1 a0 d1) ((IntKind.wrap .i64 (a0+1)),d0)).bind fun o35=>some o35
def fU(a0:Int)(d1:(List al)):(Int×Int×(List Int))->Option (gz (Int×Int×(List Int)) (Int×(List Int))):=fun(s1,s2,s3)=>
  if(decide (s2<=a0))=true then((cr s1 s2 s3 d1).bind fun x8=>some (.next (s2,(IntKind.wrap .i64 (s2+20)),x8)))else(some (.stop (s1,s3)))
def kx(s12:Int)(a0:Int):Unit->Option (gz (Unit) (Int)):=fun _=>
  if(decide ((IntKind.wrap .i64 (2*s12))<=a0))=true then(none)else(some (.stop s12))
def fw(a0:Int)(x11:(List Int)):Int->Option (gz (Int) ((List Int))):=fun s12=>
  if(decide (s12<a0))=true then((fP (kx s12 a0) ()).bind fun o19=>if(decide ((IntKind.wrap .i64 (0+o19))<a0))=true then(none)else(some (.next (IntKind.wrap .i64 (o19*2)))))else((some x11).bind fun z21=>some (.stop z21))
def ex(a0:Int)(d0:(List Int))(d1:(List al)):Option ((List Int)):=
  (fP (fU a0 d1) (0,20,d0)).bind fun o10=>(cr o10.1 a0 o10.2 d1).bind fun x11=>(fP (fw a0 x11) 20).bind fun o23=>some o23
def df(d0:(List Int))(d1:(List al)):Option ((List Int)):=
  (ex (d0.length:Int) d0 d1).bind fun x1=>some x1
def mf(x1:(List Int)):(Int×(List Int))->Option (gz (Int×(List Int)) ((List Int))):=fun(s2,s3)=>
  if(decide (s2<(x1.length:Int)))=true then((inO s3 s2).bind fun _=>(sy s3 s2 s2).bind fun x9=>some (.next ((IntKind.wrap .i64 (s2+1)),x9)))else(some (.stop s3))
def hX(a0:(List al)):Option ((List Int)):=
  (mkO (a0.length:Int) 0 8).bind fun x1=>(fP (mf x1) (0,x1)).bind fun o11=>(df o11 a0).bind fun x12=>some x12
def kD(a0:Int):(Int×(List Int)×(List Int))->Option (gz (Int×(List Int)×(List Int)) ((List Int)×(List Int))):=fun(s3,s4,s5)=>
  if(decide (s3<(IntKind.wrap .i64 (a0+1))))=true then((wb (IntKind.wrap .i64 (s3+1)) (IntKind.wrap .i64 (a0+1))).bind fun x10=>(wb (IntKind.wrap .i64 (s3+1)) (IntKind.wrap .i64 (a0+1))).bind fun x11=>(inO s4 s3).bind fun _=>(sy s4 s3 x11).bind fun x14=>(inO s5 x10).bind fun _=>(sy s5 x10 s3).bind fun x17=>some (.next ((IntKind.wrap .i64 (s3+1)),x14,x17)))else(some (.stop (s4,s5)))
def gH(a0:Int):Option (bw):=
  (mkO (IntKind.wrap .i64 (a0+1)) 0 8).bind fun x1=>(mkO (IntKind.wrap .i64 (a0+1)) 0 8).bind fun x2=>(fP (kD a0) (0,x1,x2)).bind fun o19=>some (bw.mk o19.1 o19.2)
def jh(a0:bw):Option (Int):=
  some (IntKind.wrap .i64 ((a0.nO.length:Int)-1))
def cy(d0:(List Int))(d1:(List Int))(a3:(List Int))(a2:(List al))(x4:Int)(a1:aJ):(Int×(List Int))->Option (gz (Int×(List Int)) ((List Int))):=fun(s5,s6)=>
  (jh (bw.mk d0 d1)).bind fun x9=>if(s5 != x9)=true then(if(decide ((s6.length:Int)<16))=true then((gy a3 s5).bind fun x12=>(gy a2 x12).bind fun x13=>(gy a3 x4).bind fun x14=>(gy a2 x14).bind fun x15=>if(decide ((IntKind.wrap .i64 (x13.aP-x15.aP))<=a1.dx))=true then((qd s6 [s5] 8).bind fun x17=>(inO d0 s5).bind fun _=>(gy d0 s5).bind fun x20=>some (.next (x20,x17)))else(some (.stop s6)))else(some (.stop s6)))else(some (.stop s6))
def lG(a1:aJ)(a2:(List al))(a3:(List Int))(d0:(List Int))(d1:(List Int)):Option ((List Int)×(List Int)×(List Int)):=
  (jh (bw.mk d0 d1)).bind fun x1=>(inO d0 x1).bind fun _=>(gy d0 x1).bind fun x4=>(fP (cy d0 d1 a3 a2 x4 a1) (x4,([]:(List Int)))).bind fun o22=>some (o22,d0,d1)
def eC(a0:aJ)(a1:(List al)):Option (ah):=
  some (ah.mk a0.aN a0.bg a1 a0.cC)
def mn(a0:ah):Int->Option (gz (Int) ((Unit)⊕(Int))):=fun s9=>
  if(decide (s9<(a0.bc.length:Int)))=true then((gy a0.bc s9).bind fun x12=>(dM a0.bg a0.aN x12).bind fun x13=>if(x13.2 != 0)=true then(some (.stop (.inr x13.2)))else(some (.next (IntKind.wrap .i64 (s9+1)))))else(some (.stop (.inl ())))
def ie(a0:ah):Option (Int):=
  (bH a0.aN).bind fun x1=>if(!x1)=true then(some 20)else((cL a0.bg).bind fun x3=>if(x3 != 0)=true then(some x3)else(if((a0.bc.length:Int)==0)=true then(some 24)else(if(decide ((a0.bc.length:Int)>64))=true then(some 8)else(if(decide (a0.cC<1))=true then(some 2)else(if(decide (a0.cC>1099511627776))=true then(some 2)else((fP (mn a0) 0).bind fun o16=>match o16 with| .inl _=>(some 0)| .inr r18=>(some r18)))))))
def fG(a0:ai)(a1:aa):Option (Bool):=
  (bH a0).bind fun x1=>if x1=true then((cV a1).bind fun x3=>if x3=true then((e9 a0 a1).bind fun x5=>some (x5==0))else(some false))else(some false)
def jQ(a0:ai)(a1:ai):Option (Bool):=
  (bH a0).bind fun x1=>if x1=true then((fG a1 a0.aK).bind fun x3=>if x3=true then((fG a1 a0.aG).bind fun x5=>some x5)else(some false))else(some false)
def lq(a0:ah)(a1:ai):(Int×(List aL))->Option (gz (Int×(List aL)) (((List aL))⊕((List aL)×Int))):=fun(s2,s3)=>
  if(decide (s2<(a0.bc.length:Int)))=true then((gy a0.bc s2).bind fun x7=>(dM a0.bg a1 x7).bind fun x8=>if(x8.2 != 0)=true then(some (.stop (.inr (([]:(List aL)),x8.2))))else((qd s3 [x8.1] 16).bind fun x10=>some (.next ((IntKind.wrap .i64 (s2+1)),x10))))else(some (.stop (.inl s3)))
def mu(a0:ah)(a1:ai):Option ((List aL)×Int):=
  (mkCO 0 (a0.bc.length:Int) (aL.mk 0 0) 16).bind fun x1=>(fP (lq a0 a1) (0,x1)).bind fun o12=>match o12 with| .inl y13=>(some (y13,0))| .inr r14=>(some r14)
def fM(a0:ah)(a1:ai):Option ((List aL)×Int):=
  (ie a0).bind fun x1=>if(x1 != 0)=true then(some (([]:(List aL)),x1))else((jQ a1 a0.aN).bind fun x3=>if(!x3)=true then(some (([]:(List aL)),20))else((mu a0 a1).bind fun x5=>some (x5.1,x5.2)))
def fy(a0:aL)(a1:Int):Option (Int):=
  some (if 0>(if(IntKind.wrap .i64 (a1-a0.fTo))>(IntKind.wrap .i64 (a0.bA-a1))then(IntKind.wrap .i64 (a1-a0.fTo))else(IntKind.wrap .i64 (a0.bA-a1)))then 0 else(if(IntKind.wrap .i64 (a1-a0.fTo))>(IntKind.wrap .i64 (a0.bA-a1))then(IntKind.wrap .i64 (a1-a0.fTo))else(IntKind.wrap .i64 (a0.bA-a1))))
def lZ(a0:ah)(a1:(List aL))(a2:Int):(Int×Int)->Option (gz (Int×Int) (Int)):=fun(s1,s2)=>
  if(decide (s2<(a0.bc.length:Int)))=true then((gy a0.bc s2).bind fun x6=>if(decide (s2<(a1.length:Int)))=true then((gy a1 s2).bind fun x8=>(fy x8 a2).bind fun x9=>some (.next ((IntKind.wrap .i64 (s1+(IntKind.wrap .i64 (x6.bG*(if x9<a0.cC then x9 else a0.cC))))),(IntKind.wrap .i64 (s2+1)))))else(some (.next (s1,(IntKind.wrap .i64 (s2+1))))))else(some (.stop s1))
def iP(a0:ah)(a1:(List aL))(a2:Int):Option (Int):=
  (fP (lZ a0 a1 a2) (0,0)).bind fun o11=>some o11
def mR(a1:(List aL)):(Int×(List Int))->Option (gz (Int×(List Int)) ((List Int))):=fun(s2,s3)=>
  if(decide (s2<(a1.length:Int)))=true then((gy a1 s2).bind fun x7=>(qd s3 [x7.bA,x7.fTo] 8).bind fun x8=>some (.next ((IntKind.wrap .i64 (s2+1)),x8)))else(some (.stop s3))
def lY(x20:Int)(o10:(List Int))(a0:ah)(a1:(List aL)):(Int×Int×Int)->Option (gz (Int×Int×Int) (Int×Int)):=fun(s21,s22,s23)=>
  if(decide (s23<x20))=true then((inV o10.length (0+(1:Int).toNat) (0+((o10.length:Int):Int).toNat) s23).bind fun _=>(gy o10 (((0+(1:Int).toNat)+(s23:Int).toNat:Nat):Int)).bind fun x29=>(iP a0 a1 x29).bind fun x30=>if(decide (x30<s22))=true then(some (.next (x29,x30,(IntKind.wrap .i64 (s23+1)))))else(if(x30==s22)=true then(if(decide (x29<s21))=true then(some (.next (x29,x30,(IntKind.wrap .i64 (s23+1)))))else(some (.next (s21,s22,(IntKind.wrap .i64 (s23+1))))))else(some (.next (s21,s22,(IntKind.wrap .i64 (s23+1)))))))else(some (.stop (s21,s22)))
def iO(a0:ah)(a1:(List aL)):Option (Int×Int):=
  (mkCO 0 (IntKind.wrap .i64 (2*(a1.length:Int))) 0 8).bind fun x1=>(fP (mR a1) (0,x1)).bind fun o10=>if((o10.length:Int)==0)=true then(some (0,0))else((inO o10 0).bind fun _=>(gy o10 0).bind fun x14=>(inO o10 0).bind fun _=>(gy o10 0).bind fun x17=>(iP a0 a1 x17).bind fun x18=>(wZ o10.length 1 (o10.length:Int)).bind fun _=>(lenV o10.length (0+(1:Int).toNat) (0+((o10.length:Int):Int).toNat)).bind fun x20=>(fP (lY x20 o10 a0 a1) (x14,x18,0)).bind fun o35=>some (o35.1,o35.2))
def eV(a0:ah)(a1:ai):Option (Int×Int):=
  (fM a0 a1).bind fun x1=>if(x1.2 != 0)=true then(some (0,x1.2))else((iO a0 x1.1).bind fun x3=>some (x3.2,0))
def oE(a0:au)(e1:ah)(e2:Int)(e3:Int)(e4:Bool)(e5:ar):Option ((List au)):=
  (qd ([]:List au) [a0] 64).bind fun x1=>some x1
def iv(a0:(List au)):Option (Int):=
  some (a0.length:Int)
def iS(a0:(List au))(a1:Int)(a2:Int):Option (Bool):=
  (gy a0 a1).bind fun x1=>(gy a0 a2).bind fun x2=>(bM x1.cq x2.cq).bind fun x3=>(gy a0 a1).bind fun x4=>(gy a0 a2).bind fun x5=>(bM x4.gJ x5.gJ).bind fun x6=>(cB [x3,x6]).bind fun x7=>some (decide (x7<0))
def iT(a1:Int)(a2:Int)(d0:(List au)):Option ((List au)):=
  (inO d0 a2).bind fun _=>(gy d0 a2).bind fun x3=>(inO d0 a1).bind fun _=>(gy d0 a1).bind fun x6=>(inO d0 a1).bind fun _=>(sy d0 a1 x3).bind fun x9=>(inO x9 a2).bind fun _=>(sy x9 a2 x6).bind fun x12=>some x12
def ni:(Int×(List au))->Option (gz (Int×(List au)) ((List au))):=fun(s1,s2)=>
  (rT .i64 (IntKind.wrap .i64 (s1-1)) 2).bind fun x4=>if(x4==s1)=true then((some s2).bind fun z6=>some (.stop z6))else((iS s2 s1 x4).bind fun x7=>if(!x7)=true then((some s2).bind fun z9=>some (.stop z9))else((iT x4 s1 s2).bind fun x10=>some (.next (x4,x10))))
def ov(a0:Int)(e1:ah)(e2:Int)(e3:Int)(e4:Bool)(e5:ar)(d1:(List au)):Option ((List au)):=
  (fP (ni) (a0,d1)).bind fun o12=>some o12
def mB(a0:au)(e1:ah)(e2:Int)(e3:Int)(e4:Bool)(e5:ar):Option ((List au)):=
  (oE a0 e1 e2 e3 e4 e5).bind fun x1=>(iv x1).bind fun x2=>(ov (IntKind.wrap .i64 (x2-1)) e1 e2 e3 e4 e5 x1).bind fun x3=>some x3
def jM(x1:Int×Int)(j2:Int)(j3:(List au)):Option (Int×(List au)×Int):=
  some (x1.2,j3,j2)
def ly(a0:ai)(e1:ah)(e2:Int)(e3:Int)(e4:Bool)(e5:ar):Option (Int×(List au)×Int):=
  (eV e1 a0).bind fun x1=>if(x1.2==0)=true then((mB (au.mk a0 x1.1 e2) e1 e2 e3 e4 e5).bind fun x6=>jM x1 (IntKind.wrap .i64 (e2+1)) x6)else(jM x1 e2 ([]:List au))
def jt(a0:Int)(e1:ah)(e2:Int)(e3:Int)(e4:Bool)(e5:ar)(d1:(List au)):Option (Bool):=
  if((d1.length:Int)==0)=true then(some true)else(if e4=true then((inO d1 0).bind fun _=>(gy d1 0).bind fun x5=>some (decide ((IntKind.wrap .i64 (e5.bj-x5.cq))<=a0)))else(some false))
def fb(s2:(List au))(s1:Int)(j8:Int):Option (gz (Int×(List au)) (Int×(List au))):=
  (iS s2 j8 s1).bind fun x9=>if(!x9)=true then(some (.stop (s1,s2)))else((iT s1 j8 s2).bind fun x11=>some (.next (j8,x11)))
def nA(a1:Int):(Int×(List au))->Option (gz (Int×(List au)) (Int×(List au))):=fun(s1,s2)=>
  if(decide ((IntKind.wrap .i64 ((IntKind.wrap .i64 (2*s1))+1))>=a1))=true then(some (.stop (s1,s2)))else(if(decide ((IntKind.wrap .i64 ((IntKind.wrap .i64 (2*s1))+1))<0))=true then(some (.stop (s1,s2)))else(if(decide ((IntKind.wrap .i64 ((IntKind.wrap .i64 ((IntKind.wrap .i64 (2*s1))+1))+1))<a1))=true then((iS s2 (IntKind.wrap .i64 ((IntKind.wrap .i64 ((IntKind.wrap .i64 (2*s1))+1))+1)) (IntKind.wrap .i64 ((IntKind.wrap .i64 (2*s1))+1))).bind fun x14=>if x14=true then(fb s2 s1 (IntKind.wrap .i64 ((IntKind.wrap .i64 ((IntKind.wrap .i64 (2*s1))+1))+1)))else(fb s2 s1 (IntKind.wrap .i64 ((IntKind.wrap .i64 (2*s1))+1))))else(fb s2 s1 (IntKind.wrap .i64 ((IntKind.wrap .i64 (2*s1))+1)))))
def mC(a0:Int)(a1:Int)(e2:ah)(e3:Int)(e4:Int)(e5:Bool)(e6:ar)(d1:(List au)):Option (Bool×(List au)):=
  (fP (nA a1) (a0,d1)).bind fun o17=>some ((decide (o17.1>a0)),o17.2)
def qb(e0:ah)(e1:Int)(e2:Int)(e3:Bool)(e4:ar)(d1:(List au)):Option (au×(List au)):=
  (inO d1 (IntKind.wrap .i64 ((d1.length:Int)-1))).bind fun _=>(gy d1 (IntKind.wrap .i64 ((d1.length:Int)-1))).bind fun x3=>(wZ d1.length 0 (IntKind.wrap .i64 ((d1.length:Int)-1))).bind fun _=>some (x3,(d1.take ((IntKind.wrap .i64 ((d1.length:Int)-1)):Int).toNat))
def nP(e0:ah)(e1:Int)(e2:Int)(e3:Bool)(e4:ar)(d1:(List au)):Option (au×(List au)):=
  (iv d1).bind fun x1=>(iT 0 (IntKind.wrap .i64 (x1-1)) d1).bind fun x2=>(mC 0 (IntKind.wrap .i64 (x1-1)) e0 e1 e2 e3 e4 x2).bind fun x3=>(qb e0 e1 e2 e3 e4 x3.2).bind fun x4=>some (x4.1,x4.2)
def bS(a0:Int)(a1:Int):Option (Int):=
  (rT .i64 (IntKind.wrap .i64 (a1-a0)) 2).bind fun x1=>some (IntKind.wrap .i64 (a0+x1))
def bJ(a0:aT):Option (aa):=
  some (aa.mk a0.a0 a0.a1 a0.a2)
def fx(a0:ai):Option (aa):=
  (bH a0).bind fun x1=>if(!x1)=true then(some (aa.mk 0 0 0))else((bD a0.aK).bind fun x3=>(bD a0.aG).bind fun x4=>(bS x3.a0 x4.a0).bind fun x5=>(bS x3.a1 x4.a1).bind fun x6=>(bS x3.a2 x4.a2).bind fun x7=>(bJ (aT.mk x5 x6 x7)).bind fun x8=>some x8)
def iu(a0:ah)(a1:aa):Option (Int×Int×Int):=
  (fM a0 (ai.mk a1 a1)).bind fun x1=>if(x1.2 != 0)=true then(some (0,0,x1.2))else((iO a0 x1.1).bind fun x3=>some (x3.1,x3.2,0))
def kq(a0:ai)(e1:ah)(e2:Int)(e3:Int)(e4:Bool)(e5:ar)(d1:(List au)):Option (Int×Bool×ar):=
  (fx a0).bind fun x1=>(iu e1 x1).bind fun x2=>if(x2.2.2 != 0)=true then(some (x2.2.2,e4,e5))else(if(!e4)=true then(some (0,true,(ar.mk x1 x2.1 x2.2.1 0 (ai.mk (aa.mk 0 0 0) (aa.mk 0 0 0)))))else(if(decide (x2.2.1<e5.bj))=true then(some (0,true,(ar.mk x1 x2.1 x2.2.1 0 (ai.mk (aa.mk 0 0 0) (aa.mk 0 0 0)))))else(if(x2.2.1==e5.bj)=true then((dX x1 e5.aU).bind fun x7=>if(decide (x7<0))=true then(some (0,true,(ar.mk x1 x2.1 x2.2.1 0 (ai.mk (aa.mk 0 0 0) (aa.mk 0 0 0)))))else(some (0,e4,e5)))else(some (0,e4,e5)))))
def jP(a0:ai):Option (Int):=
  (bH a0).bind fun x1=>if(!x1)=true then(some 0)else((bD a0.aG).bind fun x3=>(bD a0.aK).bind fun x4=>some (IntKind.wrap .i64 ((IntKind.wrap .i64 ((IntKind.wrap .i64 (1*(IntKind.wrap .i64 ((IntKind.wrap .i64 (x3.a0-x4.a0))+1))))*(IntKind.wrap .i64 ((IntKind.wrap .i64 (x3.a1-x4.a1))+1))))*(IntKind.wrap .i64 ((IntKind.wrap .i64 (x3.a2-x4.a2))+1)))))
def fj(a0:ai):Option (ai×ai×Bool):=
  (jP a0).bind fun x1=>if(decide (x1<2))=true then(some ((ai.mk (aa.mk 0 0 0) (aa.mk 0 0 0)),(ai.mk (aa.mk 0 0 0) (aa.mk 0 0 0)),false))else((bD a0.aK).bind fun x3=>(bD a0.aG).bind fun x4=>if(decide ((IntKind.wrap .i64 (x4.a1-x3.a1))>(IntKind.wrap .i64 (x4.a0-x3.a0))))=true then(if(decide ((IntKind.wrap .i64 (x4.a2-x3.a2))>(IntKind.wrap .i64 (x4.a1-x3.a1))))=true then((bS x3.a2 x4.a2).bind fun x7=>(bJ (aT.mk x4.a0 x4.a1 x7)).bind fun x8=>(bJ (aT.mk x3.a0 x3.a1 (IntKind.wrap .i64 (x7+1)))).bind fun x9=>some ((ai.mk a0.aK x8),(ai.mk x9 a0.aG),true))else((bS x3.a1 x4.a1).bind fun x10=>(bJ (aT.mk x4.a0 x10 x4.a2)).bind fun x11=>(bJ (aT.mk x3.a0 (IntKind.wrap .i64 (x10+1)) x3.a2)).bind fun x12=>some ((ai.mk a0.aK x11),(ai.mk x12 a0.aG),true)))else(if(decide ((IntKind.wrap .i64 (x4.a2-x3.a2))>(IntKind.wrap .i64 (x4.a0-x3.a0))))=true then((bS x3.a2 x4.a2).bind fun x14=>(bJ (aT.mk x4.a0 x4.a1 x14)).bind fun x15=>(bJ (aT.mk x3.a0 x3.a1 (IntKind.wrap .i64 (x14+1)))).bind fun x16=>some ((ai.mk a0.aK x15),(ai.mk x16 a0.aG),true))else((bS x3.a0 x4.a0).bind fun x17=>(bJ (aT.mk x17 x4.a1 x4.a2)).bind fun x18=>(bJ (aT.mk (IntKind.wrap .i64 (x17+1)) x3.a1 x3.a2)).bind fun x19=>some ((ai.mk a0.aK x18),(ai.mk x19 a0.aG),true))))
def nn(a0:au)(e1:ah)(e2:Int)(e3:Int)(e4:Bool)(e5:ar)(d1:(List au)):Option ((List au)):=
  (qd d1 [a0] 64).bind fun x1=>some x1
def lf(a0:au)(e1:ah)(e2:Int)(e3:Int)(e4:Bool)(e5:ar)(d1:(List au)):Option ((List au)):=
  (nn a0 e1 e2 e3 e4 e5 d1).bind fun x1=>(iv x1).bind fun x2=>(ov (IntKind.wrap .i64 (x2-1)) e1 e2 e3 e4 e5 x1).bind fun x3=>some x3
def iZ(x1:Int×Int)(j2:Int)(j3:(List au)):Option (Int×Int×(List au)):=
  some (x1.2,j2,j3)
def iY(a0:ai)(e1:ah)(e2:Int)(e3:Int)(e4:Bool)(e5:ar)(d1:(List au)):Option (Int×Int×(List au)):=
  (eV e1 a0).bind fun x1=>if(x1.2==0)=true then((lf (au.mk a0 x1.1 e2) e1 e2 e3 e4 e5 d1).bind fun x6=>iZ x1 (IntKind.wrap .i64 (e2+1)) x6)else(iZ x1 e2 d1)
def kr(e0:ah)(e1:Int)(e2:Int)(e3:Bool)(e4:ar)(d1:(List au)):Option (Int×Int×Int×Bool×ar×(List au)):=
  if(e2==3000)=true then(some (25,e1,e2,e3,e4,d1))else((inO d1 0).bind fun _=>(gy d1 0).bind fun x4=>(nP e0 e1 e2 e3 e4 d1).bind fun x5=>(kq x4.jV e0 e1 (IntKind.wrap .i64 (e2+1)) e3 e4 x5.2).bind fun x6=>if(x6.1 != 0)=true then(some (x6.1,e1,(IntKind.wrap .i64 (e2+1)),x6.2.1,x6.2.2,x5.2))else((fj x4.jV).bind fun x8=>if(!x8.2.2)=true then(some (0,e1,(IntKind.wrap .i64 (e2+1)),x6.2.1,x6.2.2,x5.2))else((iY x8.1 e0 e1 (IntKind.wrap .i64 (e2+1)) x6.2.1 x6.2.2 x5.2).bind fun x10=>if(x10.1 != 0)=true then(some (x10.1,x10.2.1,(IntKind.wrap .i64 (e2+1)),x6.2.1,x6.2.2,x10.2.2))else((iY x8.2.1 e0 x10.2.1 (IntKind.wrap .i64 (e2+1)) x6.2.1 x6.2.2 x10.2.2).bind fun x12=>some (x12.1,x12.2.1,(IntKind.wrap .i64 (e2+1)),x6.2.1,x6.2.2,x12.2.2)))))
def kN(a1:Int)(a0:ah):(Int×Int×Bool×ar×(List au))->Option (gz (Int×Int×Bool×ar×(List au)) (((List au)×Int×Int×Bool×ar)⊕((Option bR)×Int))):=fun(s6,s7,s8,s9,s10)=>
  (jt a1 a0 s6 s7 s8 s9 s10).bind fun x17=>if(!x17)=true then((kr a0 s6 s7 s8 s9 s10).bind fun x19=>if(x19.1 != 0)=true then(some (.stop (.inr (none,x19.1))))else(some (.next (x19.2.1,x19.2.2.1,x19.2.2.2.1,x19.2.2.2.2.1,x19.2.2.2.2.2))))else(some (.stop (.inl (s10,s6,s7,s8,s9))))
def iM(a0:ah)(a1:Int):Option ((Option bR)×Int):=
  (ie a0).bind fun x1=>if(x1 != 0)=true then(some (none,x1))else(if(decide (a1<0))=true then(some (none,2))else((ly a0.aN a0 0 0 false (ar.mk (aa.mk 0 0 0) 0 0 0 (ai.mk (aa.mk 0 0 0) (aa.mk 0 0 0)))).bind fun x4=>if(x4.1 != 0)=true then(some (none,x4.1))else((fP (kN a1 a0) (x4.2.2,0,false,(ar.mk (aa.mk 0 0 0) 0 0 0 (ai.mk (aa.mk 0 0 0) (aa.mk 0 0 0))),x4.2.1)).bind fun o22=>match o22 with| .inl y23=>(some ((some (bR.mk a0 y23.1 y23.2.1 y23.2.2.1 y23.2.2.2.1 (ar.mk (aa.mk y23.2.2.2.2.aU.fX y23.2.2.2.2.aU.fY y23.2.2.2.2.aU.fZ) y23.2.2.2.2.a8 y23.2.2.2.2.bj y23.2.2.2.2.dm (ai.mk (aa.mk y23.2.2.2.2.aX.aK.fX y23.2.2.2.2.aX.aK.fY y23.2.2.2.2.aX.aK.fZ) (aa.mk y23.2.2.2.2.aX.aG.fX y23.2.2.2.2.aX.aG.fY y23.2.2.2.2.aX.aG.fZ))))),0))| .inr r24=>(some r24))))
def lH(a0:ai)(a1:ai):Option (ai):=
  (bH a0).bind fun x1=>if(!x1)=true then(some (ai.mk (aa.mk 0 0 0) (aa.mk 0 0 0)))else((bH a1).bind fun x3=>if(!x3)=true then(some (ai.mk (aa.mk 0 0 0) (aa.mk 0 0 0)))else((bD a0.aK).bind fun x5=>(bD a0.aG).bind fun x6=>(bD a1.aK).bind fun x7=>(bD a1.aG).bind fun x8=>(bJ (aT.mk (if x7.a0<x5.a0 then x7.a0 else x5.a0) (if x7.a1<x5.a1 then x7.a1 else x5.a1) (if x7.a2<x5.a2 then x7.a2 else x5.a2))).bind fun x9=>(bJ (aT.mk (if x8.a0>x6.a0 then x8.a0 else x6.a0) (if x8.a1>x6.a1 then x8.a1 else x6.a1) (if x8.a2>x6.a2 then x8.a2 else x6.a2))).bind fun x10=>some (ai.mk x9 x10)))
def kM(y2:bR):(Int×Int×ai)->Option (gz (Int×Int×ai) (Int×ai)):=fun(s5,s6,s7)=>
  if(decide (s5<(y2.kK.length:Int)))=true then((gy y2.kK s5).bind fun x12=>if(decide (x12.cq<y2.bT.bj))=true then((lH s7 x12.jV).bind fun x14=>some (.next ((IntKind.wrap .i64 (s5+1)),(if x12.cq<s6 then x12.cq else s6),x14)))else(some (.next ((IntKind.wrap .i64 (s5+1)),(if x12.cq<s6 then x12.cq else s6),s7))))else(some (.stop (s6,s7)))
def dp(a0:ah)(a1:Int):Option (ar×Int):=
  (iM a0 a1).bind fun x1=>optC x1.1 (if(x1.2 != 0)=true then(some ((ar.mk (aa.mk 0 0 0) 0 0 0 (ai.mk (aa.mk 0 0 0) (aa.mk 0 0 0))),x1.2))else(none)) (fun y2=>if(x1.2 != 0)=true then(some ((ar.mk (aa.mk 0 0 0) 0 0 0 (ai.mk (aa.mk 0 0 0) (aa.mk 0 0 0))),x1.2))else((fP (kM y2) (0,y2.bT.bj,(ai.mk y2.bT.aU y2.bT.aU))).bind fun o16=>some ((ar.mk y2.bT.aU y2.bT.a8 y2.bT.bj o16.1 (ai.mk (aa.mk o16.2.aK.fX o16.2.aK.fY o16.2.aK.fZ) (aa.mk o16.2.aG.fX o16.2.aG.fY o16.2.aG.fZ))),0)))
def iQ(x1:(List aL)×Int)(a2:Int):(Int×(List Int))->Option (gz (Int×(List Int)) ((List Int))):=fun(s6,s7)=>
  if(decide (s6<(x1.1.length:Int)))=true then((gy x1.1 s6).bind fun x11=>(fy x11 a2).bind fun x12=>(qd s7 [x12] 8).bind fun x13=>some (.next ((IntKind.wrap .i64 (s6+1)),x13)))else(some (.stop s7))
def gx(a0:ah)(a1:aa)(a2:Int):Option ((List Int)×Int):=
  (fM a0 (ai.mk a1 a1)).bind fun x1=>if(x1.2 != 0)=true then(some (([]:(List Int)),x1.2))else(if(decide (a2<(-18014398509481984)))=true then(some (([]:(List Int)),2))else(if(decide (a2>18014398509481984))=true then(some (([]:(List Int)),2))else((mkCO 0 (x1.1.length:Int) 0 8).bind fun x5=>(fP (iQ x1 a2) (0,x5)).bind fun o15=>some (o15,0))))
def kE(a1:Int)(d0:(List Int))(d1:(List Int)):Option ((List Int)×(List Int)):=
  (inO d1 a1).bind fun _=>(gy d1 a1).bind fun x3=>(inO d0 a1).bind fun _=>(gy d0 a1).bind fun x6=>(inO d0 a1).bind fun _=>(gy d0 a1).bind fun x9=>(inO d1 a1).bind fun _=>(gy d1 a1).bind fun x12=>(inO d0 x3).bind fun _=>(sy d0 x3 x9).bind fun x15=>(inO d1 x6).bind fun _=>(sy d1 x6 x12).bind fun x18=>some (x15,x18)
def gI(a0:Int)(a1:Int):Option (Bool):=
  (d9 a0).bind fun x1=>if x1=true then((d9 a1).bind fun x3=>if(!x3)=true then(some true)else(some (decide (a0<a1))))else(some (decide (a0<a1)))
def dq(a1:Int)(s1:Int):(Int×(List Int))->Option (gz (Int×(List Int)) (Int×(List Int))):=fun(s5,s6)=>
  if(decide (s5>a1))=true then((inO s6 s5).bind fun _=>(gy s6 s5).bind fun x13=>(inO s6 (IntKind.wrap .i64 (s5-1))).bind fun _=>(gy s6 (IntKind.wrap .i64 (s5-1))).bind fun x16=>(gI x13 x16).bind fun x17=>if x17=true then((inO s6 (IntKind.wrap .i64 (s5-1))).bind fun _=>(gy s6 (IntKind.wrap .i64 (s5-1))).bind fun x21=>(inO s6 s5).bind fun _=>(gy s6 s5).bind fun x24=>(inO s6 s5).bind fun _=>(sy s6 s5 x21).bind fun x27=>(inO x27 (IntKind.wrap .i64 (s5-1))).bind fun _=>(sy x27 (IntKind.wrap .i64 (s5-1)) x24).bind fun x30=>some (.next ((IntKind.wrap .i64 (s5-1)),x30)))else(some (.stop (s1,s6))))else(some (.stop (s1,s6)))
def fd(a2:Int)(a1:Int):(Int×(List Int))->Option (gz (Int×(List Int)) ((List Int))):=fun(s1,s2)=>
  if(decide (s1<a2))=true then((fP (dq a1 s1) (s1,s2)).bind fun o32=>some (.next ((IntKind.wrap .i64 (o32.1+1)),o32.2)))else((some s2).bind fun z33=>some (.stop z33))
def cn(a1:Int)(a2:Int)(d0:(List Int)):Option ((List Int)):=
  (fP (fd a2 a1) ((IntKind.wrap .i64 (a1+1)),d0)).bind fun o35=>some o35
def bP(a2:Int)(a1:Int)(d0:(List Int))(a3:Int):Unit->Option (gz (Unit) ((List Int))):=fun _=>
  if(decide ((IntKind.wrap .i64 (a2-a1))<=12))=true then((cn a1 a2 d0).bind fun x3=>some (.stop x3))else(if(a3==0)=true then(none)else(none))
def jb:Nat->Int->Int->Int->(List Int)->Option ((List Int))
  |0,_,_,_,_=>none
  |nfu+1,a1,a2,a3,d0=>
  (fP (bP a2 a1 d0 a3) ()).bind fun o6=>some o6
def di(a1:Int)(a2:Int)(a3:Int)(d0:(List Int)):Option ((List Int)):=recO fun n=>jb n a1 a2 a3 d0
def da(d0:(List Int)):Option ((List Int)):=
  (fD (IntKind.wrap .u64 (d0.length:Int))).bind fun x1=>(di 0 (d0.length:Int) x1 d0).bind fun x2=>some x2
def ct(x18:(List Int)×(List Int)×(List Int))(x3:(List Int))(j19:(List ba))(j20:(List Int)):Option (gz ((List ba)×(List Int)×(List Int)×(List Int)) (((List ba)×(List Int))⊕((List ba)×(List Int)×Int))):=
  (gy x18.1 0).bind fun x21=>(gy x3 x21).bind fun x22=>(qd j20 [x22] 8).bind fun x23=>(gy x18.1 0).bind fun x24=>(kE x24 x18.2.1 x18.2.2).bind fun x25=>some (.next (j19,x23,x25.1,x25.2))
def dE(x18:(List Int)×(List Int)×(List Int))(x3:(List Int))(a1:(List al))(s5:(List ba))(s6:(List Int)):(Int×(List al))->Option (gz (Int×(List al)) ((List al)×(List ba)×(List Int))):=fun(s28,s29)=>
  if(decide (s28<(x18.1.length:Int)))=true then((gy x18.1 s28).bind fun x35=>(gy x3 x35).bind fun x36=>(gy a1 x36).bind fun x37=>(qd s29 [x37] 48).bind fun x38=>some (.next ((IntKind.wrap .i64 (s28+1)),x38)))else(some (.stop (s29,s5,s6)))
def dF(x18:(List Int)×(List Int)×(List Int))(x45:(List Int)×Int)(a0:aJ):(Int×(List Int))->Option (gz (Int×(List Int)) ((List Int))):=fun(s47,s48)=>
  if(decide (s47<(x18.1.length:Int)))=true then((gy x18.1 s47).bind fun x52=>(gy x45.1 s47).bind fun x53=>if(decide (x53<=a0.eK))=true then((qd s48 [x52] 8).bind fun x55=>some (.next ((IntKind.wrap .i64 (s47+1)),x55)))else(some (.next ((IntKind.wrap .i64 (s47+1)),s48))))else(some (.stop s48))
def cu(o57:(List Int))(x3:(List Int)):(Int×(List Int)×(List Int)×(List Int))->Option (gz (Int×(List Int)×(List Int)×(List Int)) ((List Int)×(List Int)×(List Int))):=fun(s59,s60,s61,s62)=>
  if(decide (s59<(o57.length:Int)))=true then((inO o57 s59).bind fun _=>(gy o57 s59).bind fun x70=>(kE x70 s60 s61).bind fun x71=>(gy x3 x70).bind fun x72=>(qd s62 [x72] 8).bind fun x73=>some (.next ((IntKind.wrap .i64 (s59+1)),x71.1,x71.2,x73)))else(some (.stop (s60,s61,s62)))
def bW(a0:aJ)(a1:(List al))(x3:(List Int)):((List ba)×(List Int)×(List Int)×(List Int))->Option (gz ((List ba)×(List Int)×(List Int)×(List Int)) (((List ba)×(List Int))⊕((List ba)×(List Int)×Int))):=fun(s5,s6,s7,s8)=>
  (jh (bw.mk s7 s8)).bind fun x12=>(inO s7 x12).bind fun _=>(gy s7 x12).bind fun x15=>(jh (bw.mk s7 s8)).bind fun x16=>if(x15 != x16)=true then((lG a0 a1 x3 s7 s8).bind fun x18=>if(decide ((x18.1.length:Int)>=a0.co))=true then((fP (dE x18 x3 a1 s5 s6) (0,([]:(List al)))).bind fun o40=>(eC a0 o40.1).bind fun x41=>(dp x41 a0.bv).bind fun x42=>if(x42.2 != 0)=true then(some (.stop (.inr (([]:(List ba)),([]:(List Int)),x42.2))))else((eC a0 o40.1).bind fun x44=>(gx x44 x42.1.aU x42.1.a8).bind fun x45=>if(x45.2 != 0)=true then(some (.stop (.inr (([]:(List ba)),([]:(List Int)),x45.2))))else((fP (dF x18 x45 a0) (0,([]:(List Int)))).bind fun o57=>if(decide ((o57.length:Int)>=a0.co))=true then((fP (cu o57 x3) (0,x18.2.1,x18.2.2,([]:(List Int)))).bind fun o75=>(da o75.2.2).bind fun x76=>(qd o40.2.1 [(ba.mk x76 x42.1.aU x42.1.a8)] 56).bind fun x77=>some (.next (x77,o40.2.2,o75.1,o75.2.1)))else(ct x18 x3 o40.2.1 o40.2.2))))else(ct x18 x3 s5 s6))else(some (.stop (.inl (s5,s6))))
def gf(a0:aJ)(a1:(List al)):Option ((List ba)×(List Int)×Int):=
  (dy a0 a1).bind fun x1=>if(x1 != 0)=true then(some (([]:(List ba)),([]:(List Int)),x1))else((hX a1).bind fun x3=>(gH (a1.length:Int)).bind fun x4=>(fP (bW a0 a1 x3) (([]:(List ba)),([]:(List Int)),x4.nO,x4.fback)).bind fun o79=>match o79 with| .inl y80=>((da y80.2).bind fun x82=>some (y80.1,x82,0))| .inr r81=>(some r81))
def jB(x5:(List ac))(a0:ak)(a1:ap):(Int×(List ac)×(List al)×(List aA))->Option (gz (Int×(List ac)×(List al)×(List aA)) ((List ac)×(List al)×(List aA))):=fun(s6,s7,s8,s9)=>
  if(decide (s6<(x5.length:Int)))=true then((gy x5 s6).bind fun x15=>(cN a0 a1 x15).bind fun x16=>if x16.2.2=true then((qd s7 [x15] 104).bind fun x18=>(qd s8 [x16.1] 48).bind fun x19=>(qd s9 [x16.2.1] 80).bind fun x20=>some (.next ((IntKind.wrap .i64 (s6+1)),x18,x19,x20)))else(some (.next ((IntKind.wrap .i64 (s6+1)),s7,s8,s9))))else(some (.stop (s7,s8,s9)))
def ik(a0:ak)(a1:ap)(a2:(List ac)):Option (aV×Int):=
  (eH a0).bind fun x1=>if(x1 != 0)=true then(some ((aV.mk [] [] []),27))else((c9 a1).bind fun x3=>if(!x3)=true then(some ((aV.mk [] [] []),1))else((dH a2).bind fun x5=>(fP (jB x5 a0 a1) (0,([]:(List ac)),([]:(List al)),([]:(List aA)))).bind fun o22=>some ((aV.mk o22.1 o22.2.1 o22.2.2),0)))
def jo(a0:aV)(a1:ak):Option (ah×Int):=
  if((a0.dt.length:Int)==0)=true then(some ((ah.mk (ai.mk (aa.mk 0 0 0) (aa.mk 0 0 0)) (aF.mk 0 [] []) [] 0),24))else(if(decide ((a0.dt.length:Int)>64))=true then(some ((ah.mk (ai.mk (aa.mk 0 0 0) (aa.mk 0 0 0)) (aF.mk 0 [] []) [] 0),8))else((rE 8 a1.ag.bg.aK).bind fun x3=>(rE 8 a1.ag.bg.aG).bind fun x4=>some ((ah.mk a1.ag.aN (aF.mk a1.ag.bg.bo x3 x4) a0.dt a1.ag.cC),0)))
def nat_From_l9:(Int×(List Int))->Option (gz (Int×(List Int)) ((List Int))):=fun(s2,s3)=>
  if(decide (s2>0))=true then((wb s2 1073741824).bind fun x7=>(qd s3 [x7] 8).bind fun x8=>some (.next ((nG .i64 s2 30),x8)))else(some (.stop s3))
def rK(a0:Int):Option ((List Int)×Int):=
  if(decide (a0<0))=true then(some (([]:(List Int)),2))else((fP (nat_From_l9) (a0,([]:(List Int)))).bind fun o10=>some (o10,0))
def mU(a0:Int):Option (Bool):=
  if(decide (a0<0))=true then(some true)else(some (decide (a0>=1073741824)))
def gG(a0:(List Int)):Int->Option (gz (Int) ((Unit)⊕(Int))):=fun s1=>
  if(decide (s1<(a0.length:Int)))=true then((gy a0 s1).bind fun x4=>(mU x4).bind fun x5=>if x5=true then(some (.stop (.inr s1)))else(some (.next (IntKind.wrap .i64 (s1+1)))))else(some (.stop (.inl ())))
def fm(a0:(List Int)):Option (Int):=
  (fP (gG a0) 0).bind fun o8=>match o8 with| .inl _=>(some (-1))| .inr r10=>(some r10)
def cA(a0:(List Int)):Option (Bool):=
  (fm a0).bind fun x1=>some (decide (x1>=0))
def kk(a0:(List Int)):Option (Bool):=
  if(decide ((a0.length:Int)>64))=true then(some false)else(if(decide ((a0.length:Int)>0))=true then((gy a0 (IntKind.wrap .i64 ((a0.length:Int)-1))).bind fun x3=>if(x3==0)=true then(some false)else((cA a0).bind fun x5=>some (!x5)))else((cA a0).bind fun x6=>some (!x6)))
def pI(a0:(List Int))(a1:(List Int)):Option (Bool):=
  (kk a0).bind fun x1=>if x1=true then((kk a1).bind fun x3=>some x3)else(some false)
def mE(a0:(List Int))(a1:Int):Option (Int):=
  if(decide (a1>=(a0.length:Int)))=true then(some 0)else((gy a0 a1).bind fun x2=>some x2)
def nat_trim_l8:(List Int)->Option (gz ((List Int)) ((List Int))):=fun s1=>
  if(decide ((s1.length:Int)>0))=true then((gy s1 (IntKind.wrap .i64 ((s1.length:Int)-1))).bind fun x5=>if(x5==0)=true then((cutO s1 0 (IntKind.wrap .i64 ((s1.length:Int)-1))).bind fun x7=>some (.next x7))else(some (.stop s1)))else(some (.stop s1))
def pJ(a0:(List Int)):Option ((List Int)):=
  (fP (nat_trim_l8) a0).bind fun o9=>some o9
def nU(a1:(List Int))(s2:Int)(x7:Int):(Int×Int×(List Int))->Option (gz (Int×Int×(List Int)) (Int×(List Int))):=fun(s8,s9,s10)=>
  if(decide (s9<(IntKind.wrap .i64 ((a1.length:Int)+1))))=true then(if(decide ((IntKind.wrap .i64 (s2+s9))<(s10.length:Int)))=true then((inO s10 (IntKind.wrap .i64 (s2+s9))).bind fun _=>(gy s10 (IntKind.wrap .i64 (s2+s9))).bind fun x18=>(mE a1 s9).bind fun x19=>(wb (IntKind.wrap .i64 (s8+(IntKind.wrap .i64 (x18+(IntKind.wrap .i64 (x7*x19)))))) 1073741824).bind fun x20=>(inO s10 (IntKind.wrap .i64 (s2+s9))).bind fun _=>(sy s10 (IntKind.wrap .i64 (s2+s9)) x20).bind fun x23=>some (.next ((nG .i64 (IntKind.wrap .i64 (s8+(IntKind.wrap .i64 (x18+(IntKind.wrap .i64 (x7*x19)))))) 30),(IntKind.wrap .i64 (s9+1)),x23)))else(some (.next (s8,(IntKind.wrap .i64 (s9+1)),s10))))else(some (.stop (s2,s10)))
def nV(a0:(List Int))(a1:(List Int)):(Int×(List Int))->Option (gz (Int×(List Int)) ((List Int))):=fun(s2,s3)=>
  if(decide (s2<(a0.length:Int)))=true then((gy a0 s2).bind fun x7=>(fP (nU a1 s2 x7) (0,0,s3)).bind fun o25=>some (.next ((IntKind.wrap .i64 (o25.1+1)),o25.2)))else(some (.stop s3))
def jp(a0:(List Int))(a1:(List Int)):Option ((List Int)):=
  (mkO (IntKind.wrap .i64 ((a0.length:Int)+(a1.length:Int))) 0 8).bind fun x1=>(fP (nV a0 a1) (0,x1)).bind fun o27=>(pJ o27).bind fun x28=>some x28
def iR(a0:(List Int)):Option ((List Int)×Int):=
  (pJ a0).bind fun x1=>if(decide ((x1.length:Int)>64))=true then(some (([]:(List Int)),8))else(some (x1,0))
def nat_Mul(a0:(List Int))(a1:(List Int)):Option ((List Int)×Int):=
  (pI a0 a1).bind fun x1=>if(!x1)=true then(some (([]:(List Int)),1))else((jp a0 a1).bind fun x3=>(iR x3).bind fun x4=>some (x4.1,x4.2))
def dv(a0:Int):Option ((List Int)):=
  (rK (if(IntKind.wrap .i64 (0-a0))>a0 then(IntKind.wrap .i64 (0-a0))else a0)).bind fun x1=>(nat_Mul x1.1 x1.1).bind fun x2=>some x2.1
def nat_Add_l13(a1:(List Int))(a0:(List Int)):(Int×Int×(List Int))->Option (gz (Int×Int×(List Int)) ((List Int))):=fun(s3,s4,s5)=>
  if(decide (s4<(IntKind.wrap .i64 ((if(a1.length:Int)>(a0.length:Int)then(a1.length:Int)else(a0.length:Int))+1))))=true then((mE a0 s4).bind fun x9=>(mE a1 s4).bind fun x10=>(wb (IntKind.wrap .i64 (s3+(IntKind.wrap .i64 (x9+x10)))) 1073741824).bind fun x11=>(qd s5 [x11] 8).bind fun x12=>some (.next ((nG .i64 (IntKind.wrap .i64 (s3+(IntKind.wrap .i64 (x9+x10)))) 30),(IntKind.wrap .i64 (s4+1)),x12)))else(some (.stop s5))
def nat_Add(a0:(List Int))(a1:(List Int)):Option ((List Int)×Int):=
  (pI a0 a1).bind fun x1=>if(!x1)=true then(some (([]:(List Int)),1))else((fP (nat_Add_l13 a1 a0) (0,0,([]:(List Int)))).bind fun o14=>(iR o14).bind fun x15=>some (x15.1,x15.2))
def gA(a0:aT)(a1:Int)(a2:Int):Option ((List Int)):=
  (dv (IntKind.wrap .i64 ((IntKind.wrap .i64 ((IntKind.wrap .i64 (a0.a0*a2))*a2))-(IntKind.wrap .i64 ((IntKind.wrap .i64 (a0.a2*a1))*a1))))).bind fun x1=>(dv (IntKind.wrap .i64 ((IntKind.wrap .i64 (a0.a1*a1))*a2))).bind fun x2=>(nat_Add x1 x2).bind fun x3=>some x3.1
def lJ(a0:aH)(a1:Int)(a2:Int):Option (aQ×Bool):=
  if(a0.db==0)=true then((dv a0.bn.a0).bind fun x2=>(dv a0.bf.a0).bind fun x3=>some ((aQ.mk x2 x3),true))else(if(a0.db==1)=true then((gA a0.bn a1 a2).bind fun x5=>(gA a0.bf a1 a2).bind fun x6=>some ((aQ.mk x5 x6),(decide ((x6.length:Int)>0))))else((dO a0.cf).bind fun x7=>(dv x7).bind fun x8=>(xu .i64 1 a0.b8).bind fun x9=>(dv x9).bind fun x10=>some ((aQ.mk x8 x10),true)))
def fN(a0:aQ):Option (Bool):=
  (kk a0.bn).bind fun x1=>if x1=true then((kk a0.bf).bind fun x3=>if x3=true then(some (decide ((a0.bf.length:Int)>0)))else(some false))else(some false)
def qa(a0:aQ)(a1:aQ):Option (aQ×Int):=
  (fN a0).bind fun x1=>if(!x1)=true then(some ((aQ.mk [] []),1))else((fN a1).bind fun x3=>if(!x3)=true then(some ((aQ.mk [] []),1))else((jp a0.bn a1.bn).bind fun x5=>(iR x5).bind fun x6=>(jp a0.bf a1.bf).bind fun x7=>(iR x7).bind fun x8=>if(x6.2 != 0)=true then(some ((aQ.mk [] []),8))else(if(x8.2 != 0)=true then(some ((aQ.mk [] []),8))else(some ((aQ.mk x6.1 x8.1),0)))))
def nq(a0:aO)(a1:Int)(a2:Int):(Int×(List Int)×(List Int))->Option (gz (Int×(List Int)×(List Int)) (((List Int)×(List Int))⊕(aQ×Int))):=fun(s7,s8,s9)=>
  if(decide (s7<(a0.bq.length:Int)))=true then((gy a0.bq s7).bind fun x14=>(lJ x14 a1 a2).bind fun x15=>if(!x15.2)=true then(some (.stop (.inr ((aQ.mk [] []),11))))else((qa (aQ.mk s8 s9) x15.1).bind fun x17=>if(x17.2 != 0)=true then(some (.stop (.inr ((aQ.mk [] []),x17.2))))else(some (.next ((IntKind.wrap .i64 (s7+1)),x17.1.bn,x17.1.bf)))))else(some (.stop (.inl (s8,s9))))
def lI(a0:aO)(a1:Int)(a2:Int):Option (aQ×Int):=
  (fk a0).bind fun x1=>if(!x1)=true then(some ((aQ.mk [] []),1))else((bB a1 0 65536).bind fun x3=>if(!x3)=true then(some ((aQ.mk [] []),2))else((bB a2 1 65536).bind fun x5=>if(!x5)=true then(some ((aQ.mk [] []),2))else((fP (nq a0 a1 a2) (0,[1],[1])).bind fun o20=>match o20 with| .inl y21=>(some ((aQ.mk y21.1 y21.2),0))| .inr r22=>(some r22))))
def ej(a0:Int)(j15:Int)(j16:Int):Option (Int):=
  some (IntKind.wrap .i64 ((IntKind.wrap .i64 (256*a0))+j16))
def ek(a0:Int)(j13:Int)(j14:Int):Option (Int):=
  if(decide ((nG .i64 (IntKind.wrap .i64 (j13*j13)) 30)>=2147483648))=true then((rT .i64 (nG .i64 (IntKind.wrap .i64 (j13*j13)) 30) 2).bind fun x19=>ej a0 x19 (IntKind.wrap .i64 ((IntKind.wrap .i64 (j14*2))+1)))else(ej a0 (nG .i64 (IntKind.wrap .i64 (j13*j13)) 30) (IntKind.wrap .i64 (j14*2)))
def eo(a0:Int)(j11:Int)(j12:Int):Option (Int):=
  if(decide ((nG .i64 (IntKind.wrap .i64 (j11*j11)) 30)>=2147483648))=true then((rT .i64 (nG .i64 (IntKind.wrap .i64 (j11*j11)) 30) 2).bind fun x22=>ek a0 x22 (IntKind.wrap .i64 ((IntKind.wrap .i64 (j12*2))+1)))else(ek a0 (nG .i64 (IntKind.wrap .i64 (j11*j11)) 30) (IntKind.wrap .i64 (j12*2)))
def ep(a0:Int)(j9:Int)(j10:Int):Option (Int):=
  if(decide ((nG .i64 (IntKind.wrap .i64 (j9*j9)) 30)>=2147483648))=true then((rT .i64 (nG .i64 (IntKind.wrap .i64 (j9*j9)) 30) 2).bind fun x25=>eo a0 x25 (IntKind.wrap .i64 ((IntKind.wrap .i64 (j10*2))+1)))else(eo a0 (nG .i64 (IntKind.wrap .i64 (j9*j9)) 30) (IntKind.wrap .i64 (j10*2)))
def er(a0:Int)(j7:Int)(j8:Int):Option (Int):=
  if(decide ((nG .i64 (IntKind.wrap .i64 (j7*j7)) 30)>=2147483648))=true then((rT .i64 (nG .i64 (IntKind.wrap .i64 (j7*j7)) 30) 2).bind fun x28=>ep a0 x28 (IntKind.wrap .i64 ((IntKind.wrap .i64 (j8*2))+1)))else(ep a0 (nG .i64 (IntKind.wrap .i64 (j7*j7)) 30) (IntKind.wrap .i64 (j8*2)))
def et(a0:Int)(j5:Int)(j6:Int):Option (Int):=
  if(decide ((nG .i64 (IntKind.wrap .i64 (j5*j5)) 30)>=2147483648))=true then((rT .i64 (nG .i64 (IntKind.wrap .i64 (j5*j5)) 30) 2).bind fun x31=>er a0 x31 (IntKind.wrap .i64 ((IntKind.wrap .i64 (j6*2))+1)))else(er a0 (nG .i64 (IntKind.wrap .i64 (j5*j5)) 30) (IntKind.wrap .i64 (j6*2)))
def eu(a0:Int)(j3:Int)(j4:Int):Option (Int):=
  if(decide ((nG .i64 (IntKind.wrap .i64 (j3*j3)) 30)>=2147483648))=true then((rT .i64 (nG .i64 (IntKind.wrap .i64 (j3*j3)) 30) 2).bind fun x34=>et a0 x34 (IntKind.wrap .i64 ((IntKind.wrap .i64 (j4*2))+1)))else(et a0 (nG .i64 (IntKind.wrap .i64 (j3*j3)) 30) (IntKind.wrap .i64 (j4*2)))
def ev(a0:Int)(j1:Int)(j2:Int):Option (Int):=
  if(decide ((nG .i64 (IntKind.wrap .i64 (j1*j1)) 30)>=2147483648))=true then((rT .i64 (nG .i64 (IntKind.wrap .i64 (j1*j1)) 30) 2).bind fun x37=>eu a0 x37 (IntKind.wrap .i64 ((IntKind.wrap .i64 (j2*2))+1)))else(eu a0 (nG .i64 (IntKind.wrap .i64 (j1*j1)) 30) (IntKind.wrap .i64 (j2*2)))
def gw(a0:Int)(a1:Int):Option (Int):=
  if(decide ((nG .i64 (IntKind.wrap .i64 (a1*a1)) 30)>=2147483648))=true then((rT .i64 (nG .i64 (IntKind.wrap .i64 (a1*a1)) 30) 2).bind fun x40=>ev a0 x40 1)else(ev a0 (nG .i64 (IntKind.wrap .i64 (a1*a1)) 30) 0)
def ir(a0:Int):Option (Int×Int):=
  if(decide (a0<1))=true then(some (0,2))else((fD (IntKind.wrap .u64 a0)).bind fun x2=>if(decide ((IntKind.wrap .i64 (x2-1))<=30))=true then((xu .i64 a0 (IntKind.wrap .i64 (30-(IntKind.wrap .i64 (x2-1))))).bind fun x4=>(gw (IntKind.wrap .i64 (x2-1)) x4).bind fun x5=>some (x5,0))else((shrO .i64 a0 (IntKind.wrap .i64 ((IntKind.wrap .i64 (x2-1))-30))).bind fun x6=>(gw (IntKind.wrap .i64 (x2-1)) x6).bind fun x7=>some (x7,0)))
def gu(a0:(List Int)):Option (Int×Int):=
  (kk a0).bind fun x1=>if(!x1)=true then(some (0,1))else(if(decide ((IntKind.wrap .i64 ((a0.length:Int)-1))<0))=true then(some (0,2))else(if((IntKind.wrap .i64 ((a0.length:Int)-1))==0)=true then((gy a0 0).bind fun x5=>(ir x5).bind fun x6=>some (x6.1,x6.2))else((gy a0 (IntKind.wrap .i64 ((a0.length:Int)-1))).bind fun x7=>(gy a0 (IntKind.wrap .i64 ((IntKind.wrap .i64 ((a0.length:Int)-1))-1))).bind fun x8=>(ir (orI .i64 (shlI .i64 x7 30) x8)).bind fun x9=>some ((IntKind.wrap .i64 (x9.1+(IntKind.wrap .i64 (7680*(IntKind.wrap .i64 ((IntKind.wrap .i64 ((a0.length:Int)-1))-1)))))),x9.2))))
def jn(a0:bt)(a1:aO)(a2:Int):Option (Int×Int):=
  (lI a1 a0.bn a0.bf).bind fun x1=>if(x1.2 != 0)=true then(some (0,x1.2))else((gu x1.1.bn).bind fun x3=>if(x3.2 != 0)=true then(some (0,24))else((gu x1.1.bf).bind fun x5=>if(x5.2 != 0)=true then(some (0,x5.2))else((ir a2).bind fun x7=>some ((IntKind.wrap .i64 ((IntKind.wrap .i64 ((IntKind.wrap .i64 (2*x7.1))+x5.1))-x3.1)),x7.2))))
def iN(a0:Int):Option (Int):=
  some (nG .i64 a0 1)
def lm(a0:Int):Option (Int×Bool):=
  if(decide (a0>=(-16777216)))=true then(some ((IntKind.wrap .i64 (a0*30103)),(decide (a0<=16777216))))else(some ((IntKind.wrap .i64 (a0*30103)),false))
def ic(a0:Int):Option (Int):=
  (lm a0).bind fun x1=>if(!x1.2)=true then(some 0)else((rT .i64 x1.1 256000).bind fun x3=>(wb x1.1 256000).bind fun x4=>if(decide (x4<0))=true then(some (IntKind.wrap .i64 (x3-1)))else(some x3))
def kO(a0:Int):Option (Int):=
  (ic (IntKind.wrap .i64 (0-a0))).bind fun x1=>some (IntKind.wrap .i64 (0-x1))
def fK(a0:bt)(a1:aO)(a2:Int)(a3:Int)(a4:Int):Option (aD×Int):=
  (c6 a0).bind fun x1=>if(!x1)=true then(some ((aD.mk 0 0),27))else(if(decide (a2<1))=true then(some ((aD.mk 0 0),2))else(if(decide (a2>1073741823))=true then(some ((aD.mk 0 0),2))else((jn a0 a1 a2).bind fun x5=>if(x5.2 != 0)=true then(some ((aD.mk 0 0),x5.2))else((cb a0.bF a3 a4).bind fun x7=>if(x7.2.2 != 0)=true then(some ((aD.mk 0 0),x7.2.2))else((iN (IntKind.wrap .i64 (x5.1-2))).bind fun x9=>(ic x9).bind fun x10=>(iN (IntKind.wrap .i64 ((IntKind.wrap .i64 (0-x5.1))-6))).bind fun x11=>(kO (IntKind.wrap .i64 (0-x11))).bind fun x12=>some ((aD.mk (IntKind.wrap .i64 (x10+x7.1)) (IntKind.wrap .i64 (x12+x7.2.1))),0))))))
def dN(a0:aV)(a2:ai)(a1:ak):(Int×(List aD))->Option (gz (Int×(List aD)) ((List aD))):=fun(s1,s2)=>
  if(decide (s1<(a0.dt.length:Int)))=true then((gy a0.dt s1).bind fun x6=>(gy a0.jO s1).bind fun x7=>(gy a0.dJ s1).bind fun x8=>(e9 a2 x6.aM).bind fun x9=>(gK a2 x6.aM).bind fun x10=>(fK a1.cp x7.bC x8.aS x9 x10).bind fun x11=>if(x11.2==0)=true then((qd s2 [x11.1] 16).bind fun x13=>some (.next ((IntKind.wrap .i64 (s1+1)),x13)))else(some (.next ((IntKind.wrap .i64 (s1+1)),s2))))else(some (.stop s2))
def c7(a0:aV)(a1:ak)(a2:ai):Option ((List aD)):=
  (fP (dN a0 a2 a1) (0,([]:(List aD)))).bind fun o15=>some o15
def gR(a0:aD):Option (Bool):=
  some (decide (a0.aK>a0.aG))
def dK(a0:(List aD)):Int->Option (gz (Int) ((Unit)⊕(Int))):=fun s1=>
  if(decide (s1<(a0.length:Int)))=true then((gy a0 s1).bind fun x4=>(gR x4).bind fun x5=>if x5=true then(some (.stop (.inr s1)))else(some (.next (IntKind.wrap .i64 (s1+1)))))else(some (.stop (.inl ())))
def d5(a0:(List aD)):Option (Int):=
  (fP (dK a0) 0).bind fun o8=>match o8 with| .inl _=>(some (-1))| .inr r10=>(some r10)
def cM(a0:(List aD)):Option (Bool):=
  (d5 a0).bind fun x1=>some (decide (x1>=0))
def gT(a0:aD):Option (Int):=
  some a0.aK
def jI(a0:(List aD)):(Int×(List Int))->Option (gz (Int×(List Int)) ((List Int))):=fun(s1,s2)=>
  if(decide (s1<(a0.length:Int)))=true then((gy a0 s1).bind fun x6=>(gT x6).bind fun x7=>(qd s2 [x7] 8).bind fun x8=>some (.next ((IntKind.wrap .i64 (s1+1)),x8)))else(some (.stop s2))
def fr(a0:(List aD)):Option (Int):=
  (fP (jI a0) (0,([]:(List Int)))).bind fun o10=>(da o10).bind fun x11=>(rT .i64 (IntKind.wrap .i64 ((x11.length:Int)-1)) 2).bind fun x12=>(inO x11 x12).bind fun _=>(gy x11 x12).bind fun x15=>some x15
def gU(a0:aD):Option (Int):=
  some a0.aG
def jJ(a0:(List aD)):(Int×(List Int))->Option (gz (Int×(List Int)) ((List Int))):=fun(s1,s2)=>
  if(decide (s1<(a0.length:Int)))=true then((gy a0 s1).bind fun x6=>(gU x6).bind fun x7=>(qd s2 [x7] 8).bind fun x8=>some (.next ((IntKind.wrap .i64 (s1+1)),x8)))else(some (.stop s2))
def fu(a0:(List aD)):Option (Int):=
  (fP (jJ a0) (0,([]:(List Int)))).bind fun o10=>(da o10).bind fun x11=>(rT .i64 (IntKind.wrap .i64 ((x11.length:Int)-1)) 2).bind fun x12=>(inO x11 x12).bind fun _=>(gy x11 x12).bind fun x15=>some x15
def fJ(a0:(List aD)):Option (aD×Int):=
  if((a0.length:Int)==0)=true then(some ((aD.mk 0 0),24))else((cM a0).bind fun x2=>if x2=true then(some ((aD.mk 0 0),1))else((fr a0).bind fun x4=>(fu a0).bind fun x5=>some ((aD.mk x4 x5),0)))
def gE(a0:ak)(a1:ap)(a2:(List ac)):Option (bd×Int):=
  (ik a0 a1 a2).bind fun x1=>if(x1.2 != 0)=true then(some ((bd.mk [] (ar.mk (aa.mk 0 0 0) 0 0 0 (ai.mk (aa.mk 0 0 0) (aa.mk 0 0 0))) (aD.mk 0 0) 0),x1.2))else((jo x1.1 a0).bind fun x3=>if(x3.2 != 0)=true then(some ((bd.mk [] (ar.mk (aa.mk 0 0 0) 0 0 0 (ai.mk (aa.mk 0 0 0) (aa.mk 0 0 0))) (aD.mk 0 0) 0),x3.2))else((dp x3.1 a0.bv).bind fun x5=>if(x5.2 != 0)=true then(some ((bd.mk [] (ar.mk (aa.mk 0 0 0) 0 0 0 (ai.mk (aa.mk 0 0 0) (aa.mk 0 0 0))) (aD.mk 0 0) 0),x5.2))else((c7 x1.1 a0 x5.1.aX).bind fun x7=>if(decide ((x7.length:Int)>0))=true then((fJ x7).bind fun x9=>if(x9.2 != 0)=true then(some ((bd.mk [] (ar.mk (aa.mk 0 0 0) 0 0 0 (ai.mk (aa.mk 0 0 0) (aa.mk 0 0 0))) (aD.mk 0 0) 0),x9.2))else(some ((bd.mk x1.1.dJ x5.1 x9.1 (x7.length:Int)),0)))else(some ((bd.mk x1.1.dJ x5.1 (aD.mk 0 0) 0),0)))))
def ip(a0:ac)(a1:ac):Option (Int):=
  (bM a0.a8 a1.a8).bind fun x1=>(ca a0 a1).bind fun x2=>(cB [x1,x2]).bind fun x3=>some x3
def cm(a0:(List ac)):(Int×(List UInt8)×(List UInt8)×(List UInt8)×(List UInt8)×Int×Int×Int×Int×Int)->Option (gz (Int×(List UInt8)×(List UInt8)×(List UInt8)×(List UInt8)×Int×Int×Int×Int×Int) ((List UInt8)×(List UInt8)×(List UInt8)×(List UInt8)×Int×Int×Int×Int×Int)):=fun(s3,s4,s5,s6,s7,s8,s9,s10,s11,s12)=>
  if(decide (s3<(a0.length:Int)))=true then((gy a0 s3).bind fun x24=>(ip x24 (ac.mk (av.mk s4 s5 s6 s7) s8 s9 s10 s11 s12)).bind fun x25=>if(decide (x25<0))=true then((gy a0 s3).bind fun x27=>some (.next ((IntKind.wrap .i64 (s3+1)),x27.aC.aZ,x27.aC.aM,x27.aC.aj,x27.aC.a7,x27.a8,x27.aP,x27.bi,x27.aS,x27.aW)))else(some (.next ((IntKind.wrap .i64 (s3+1)),s4,s5,s6,s7,s8,s9,s10,s11,s12))))else(some (.stop (s4,s5,s6,s7,s8,s9,s10,s11,s12)))
def eY(a0:(List ac)):Option (ac):=
  if(decide ((a0.length:Int)<1))=true then(none)else((gy a0 0).bind fun x2=>(fP (cm a0) (1,x2.aC.aZ,x2.aC.aM,x2.aC.aj,x2.aC.a7,x2.a8,x2.aP,x2.bi,x2.aS,x2.aW)).bind fun o29=>some (ac.mk (av.mk o29.1 o29.2.1 o29.2.2.1 o29.2.2.2.1) o29.2.2.2.2.1 o29.2.2.2.2.2.1 o29.2.2.2.2.2.2.1 o29.2.2.2.2.2.2.2.1 o29.2.2.2.2.2.2.2.2))
def mJ(a0:(List ac)):Option (ac):=
  if((a0.length:Int)==0)=true then(some (ac.mk (av.mk [] [] [] []) 0 0 0 0 0))else((eY a0).bind fun x2=>some x2)
def jK(a0:e7)(a1:az)(a2:az):Option (Int):=
  (ip a1.bh a2.bh).bind fun x1=>some x1
def gd(a1:Int)(s1:Int):(Int×(List az))->Option (gz (Int×(List az)) (Int×(List az))):=fun(s5,s6)=>
  if(decide (s5>a1))=true then((inO s6 s5).bind fun _=>(gy s6 s5).bind fun x13=>(inO s6 (IntKind.wrap .i64 (s5-1))).bind fun _=>(gy s6 (IntKind.wrap .i64 (s5-1))).bind fun x16=>(jK (e7.mk ) x13 x16).bind fun x17=>if(decide (x17<0))=true then((inO s6 (IntKind.wrap .i64 (s5-1))).bind fun _=>(gy s6 (IntKind.wrap .i64 (s5-1))).bind fun x21=>(inO s6 s5).bind fun _=>(gy s6 s5).bind fun x24=>(inO s6 s5).bind fun _=>(sy s6 s5 x21).bind fun x27=>(inO x27 (IntKind.wrap .i64 (s5-1))).bind fun _=>(sy x27 (IntKind.wrap .i64 (s5-1)) x24).bind fun x30=>some (.next ((IntKind.wrap .i64 (s5-1)),x30)))else(some (.stop (s1,s6))))else(some (.stop (s1,s6)))
def ge(a2:Int)(a1:Int):(Int×(List az))->Option (gz (Int×(List az)) ((List az))):=fun(s1,s2)=>
  if(decide (s1<a2))=true then((fP (gd a1 s1) (s1,s2)).bind fun o32=>some (.next ((IntKind.wrap .i64 (o32.1+1)),o32.2)))else((some s2).bind fun z33=>some (.stop z33))
def cJ(a1:Int)(a2:Int)(d0:(List az)):Option ((List az)):=
  (fP (ge a2 a1) ((IntKind.wrap .i64 (a1+1)),d0)).bind fun o35=>some o35
def bV(a2:Int)(a1:Int)(d0:(List az))(a3:Int):Unit->Option (gz (Unit) ((List az))):=fun _=>
  if(decide ((IntKind.wrap .i64 (a2-a1))<=12))=true then((cJ a1 a2 d0).bind fun x3=>some (.stop x3))else(if(a3==0)=true then(none)else(none))
def eS:Nat->Int->Int->Int->(List az)->Option ((List az))
  |0,_,_,_,_=>none
  |nfu+1,a1,a2,a3,d0=>
  (fP (bV a2 a1 d0 a3) ()).bind fun o6=>some o6
def cz(a1:Int)(a2:Int)(a3:Int)(d0:(List az)):Option ((List az)):=recO fun n=>eS n a1 a2 a3 d0
def dl(d0:(List az)):Option ((List az)):=
  (fD (IntKind.wrap .u64 (d0.length:Int))).bind fun x1=>(cz 0 (d0.length:Int) x1 d0).bind fun x2=>some x2
def kG(x10:ba)(x1:(List ac)×(List al)×Int)(s5:Int)(s6:(List az)):(Int×(List ac))->Option (gz (Int×(List ac)) (Int×(List az)×(List ac))):=fun(s11,s12)=>
  if(decide (s11<(x10.cv.length:Int)))=true then((gy x10.cv s11).bind fun x18=>(gy x1.1 x18).bind fun x19=>(qd s12 [x19] 104).bind fun x20=>some (.next ((IntKind.wrap .i64 (s11+1)),x20)))else(some (.stop (s5,s6,s12)))
def kH(x3:(List ba)×(List Int)×Int)(x1:(List ac)×(List al)×Int)(a0:ak)(a1:ap):(Int×(List az))->Option (gz (Int×(List az)) (((List az))⊕((List az)×(List ac)×Int))):=fun(s5,s6)=>
  if(decide (s5<(x3.1.length:Int)))=true then((gy x3.1 s5).bind fun x10=>(fP (kG x10 x1 s5 s6) (0,([]:(List ac)))).bind fun o22=>(gE a0 a1 o22.2.2).bind fun x23=>if(x23.2 != 0)=true then(some (.stop (.inr (([]:(List az)),([]:(List ac)),x23.2))))else((mJ x23.1.bY).bind fun x25=>(qd o22.2.1 [(az.mk x25 x23.1)] 248).bind fun x26=>some (.next ((IntKind.wrap .i64 (o22.1+1)),x26))))else(some (.stop (.inl s6)))
def kI(x3:(List ba)×(List Int)×Int)(x1:(List ac)×(List al)×Int):(Int×(List ac))->Option (gz (Int×(List ac)) ((List ac))):=fun(s32,s33)=>
  if(decide (s32<(x3.2.1.length:Int)))=true then((gy x3.2.1 s32).bind fun x37=>(gy x1.1 x37).bind fun x38=>(qd s33 [x38] 104).bind fun x39=>some (.next ((IntKind.wrap .i64 (s32+1)),x39)))else(some (.stop s33))
def dz(a0:ak)(a1:ap)(a2:(List ac)):Option ((List az)×(List ac)×Int):=
  (kJ a0 a1 a2).bind fun x1=>if(x1.2.2 != 0)=true then(some (([]:(List az)),([]:(List ac)),x1.2.2))else((gf a0.ag x1.2.1).bind fun x3=>if(x3.2.2 != 0)=true then(some (([]:(List az)),([]:(List ac)),x3.2.2))else((fP (kH x3 x1 a0 a1) (0,([]:(List az)))).bind fun o28=>match o28 with| .inl y29=>((dl y29).bind fun x31=>(fP (kI x3 x1) (0,([]:(List ac)))).bind fun o41=>some (x31,o41,0))| .inr r30=>(some r30)))
def jZ(a0:(List ac))(a1:(List ac)):Int->Option (gz (Int) ((Unit)⊕(Bool))):=fun s2=>
  if(decide (s2<(a0.length:Int)))=true then((gy a0 s2).bind fun x5=>(gy a1 s2).bind fun x6=>if(!(((x5.aC.aZ==x6.aC.aZ)&&((x5.aC.aM==x6.aC.aM)&&((x5.aC.aj==x6.aC.aj)&&((x5.aC.a7==x6.aC.a7)&&true))))&&((x5.a8==x6.a8)&&((x5.aP==x6.aP)&&((x5.bi==x6.bi)&&((x5.aS==x6.aS)&&((x5.aW==x6.aW)&&true)))))))=true then(some (.stop (.inr false)))else(some (.next (IntKind.wrap .i64 (s2+1)))))else(some (.stop (.inl ())))
def eM(a0:(List ac))(a1:(List ac)):Option (Bool):=
  if((a0.length:Int) != (a1.length:Int))=true then(some false)else((fP (jZ a0 a1) 0).bind fun o9=>match o9 with| .inl _=>(some true)| .inr r11=>(some r11))
def oK(a0:bd)(a1:bd):Option (Bool):=
  (eM a0.bY a1.bY).bind fun x1=>if x1=true then(if(((a0.aj.aU.fX==a1.aj.aU.fX)&&((a0.aj.aU.fY==a1.aj.aU.fY)&&((a0.aj.aU.fZ==a1.aj.aU.fZ)&&true)))&&((a0.aj.a8==a1.aj.a8)&&((a0.aj.bj==a1.aj.bj)&&((a0.aj.dm==a1.aj.dm)&&((((a0.aj.aX.aK.fX==a1.aj.aX.aK.fX)&&((a0.aj.aX.aK.fY==a1.aj.aX.aK.fY)&&((a0.aj.aX.aK.fZ==a1.aj.aX.aK.fZ)&&true)))&&(((a0.aj.aX.aG.fX==a1.aj.aX.aG.fX)&&((a0.aj.aX.aG.fY==a1.aj.aX.aG.fY)&&((a0.aj.aX.aG.fZ==a1.aj.aX.aG.fZ)&&true)))&&true))&&true)))))=true then(if((a0.bp.aK==a1.bp.aK)&&((a0.bp.aG==a1.bp.aG)&&true))=true then(some (a0.eJ==a1.eJ))else(some false))else(some false))else(some false)
def iW(a0:(List az))(a1:(List az)):Int->Option (gz (Int) ((Unit)⊕(Bool))):=fun s2=>
  if(decide (s2<(a0.length:Int)))=true then((gy a0 s2).bind fun x5=>(gy a1 s2).bind fun x6=>if(!(((x5.bh.aC.aZ==x6.bh.aC.aZ)&&((x5.bh.aC.aM==x6.bh.aC.aM)&&((x5.bh.aC.aj==x6.bh.aC.aj)&&((x5.bh.aC.a7==x6.bh.aC.a7)&&true))))&&((x5.bh.a8==x6.bh.a8)&&((x5.bh.aP==x6.bh.aP)&&((x5.bh.bi==x6.bh.bi)&&((x5.bh.aS==x6.bh.aS)&&((x5.bh.aW==x6.bh.aW)&&true)))))))=true then(some (.stop (.inr false)))else((gy a0 s2).bind fun x8=>(gy a1 s2).bind fun x9=>(oK x8.aw x9.aw).bind fun x10=>if(!x10)=true then(some (.stop (.inr false)))else(some (.next (IntKind.wrap .i64 (s2+1))))))else(some (.stop (.inl ())))
def lw(a0:(List az))(a1:(List az)):Option (Bool):=
  if((a0.length:Int) != (a1.length:Int))=true then(some false)else((fP (iW a0 a1) 0).bind fun o13=>match o13 with| .inl _=>(some true)| .inr r15=>(some r15))
def la(a0:az)(d0:ac):Option (Bool):=
  some (((a0.bh.aC.aZ==d0.aC.aZ)&&((a0.bh.aC.aM==d0.aC.aM)&&((a0.bh.aC.aj==d0.aC.aj)&&((a0.bh.aC.a7==d0.aC.a7)&&true))))&&((a0.bh.a8==d0.a8)&&((a0.bh.aP==d0.aP)&&((a0.bh.bi==d0.bi)&&((a0.bh.aS==d0.aS)&&((a0.bh.aW==d0.aW)&&true))))))
def de(a0:(List az))(d0:ac):Int->Option (gz (Int) ((Unit)⊕(Int))):=fun s1=>
  if(decide (s1<(a0.length:Int)))=true then((gy a0 s1).bind fun x4=>(la x4 d0).bind fun x5=>if x5=true then(some (.stop (.inr s1)))else(some (.next (IntKind.wrap .i64 (s1+1)))))else(some (.stop (.inl ())))
def eW(a0:(List az))(d0:ac):Option (Int):=
  (fP (de a0 d0) 0).bind fun o8=>match o8 with| .inl _=>(some (-1))| .inr r10=>(some r10)
def iJ(a0:(List az))(a1:ac):Option (Int):=
  (eW a0 a1).bind fun x1=>some x1
def fI:Option (Bool):=
  (ib []).bind fun x1=>(cQ 2 x1).bind fun x2=>(eB 3 x2.2).bind fun x3=>(cW 1).bind fun x4=>(dz x2.1 x3.1 [(ac.mk x4 2500 2500 2500 11 0),(ac.mk x4 2500 2500 2500 10 0)]).bind fun x5=>(dz x2.1 x3.1 []).bind fun x6=>if(x5.2.2==0)=true then(if((x5.1.length:Int)==1)=true then(if((x5.2.1.length:Int)==0)=true then((gy x5.1 0).bind fun x10=>if(((x10.bh.aC.aZ==x4.aZ)&&((x10.bh.aC.aM==x4.aM)&&((x10.bh.aC.aj==x4.aj)&&((x10.bh.aC.a7==x4.a7)&&true))))&&((x10.bh.a8==2500)&&((x10.bh.aP==2500)&&((x10.bh.bi==2500)&&((x10.bh.aS==10)&&((x10.bh.aW==0)&&true))))))=true then((gy x5.1 0).bind fun x12=>if((x12.aw.bY.length:Int)==2)=true then(if(x6.2.2==0)=true then(if((x6.1.length:Int)==0)=true then((iJ x5.1 (ac.mk x4 2500 2500 2500 10 0)).bind fun x16=>if(x16==0)=true then((iJ x5.1 (ac.mk x4 2500 2500 2500 11 0)).bind fun x18=>some (x18==(-1)))else(some false))else(some false))else(some false))else(some false))else(some false))else(some false))else(some false))else(some false)
def iL(x5:(List ac))(a1:(List Int)):(Int×(List ac))->Option (gz (Int×(List ac)) ((List ac))):=fun(s6,s7)=>
  if(decide (s6<(x5.length:Int)))=true then(if(decide (s6<(a1.length:Int)))=true then((gy a1 s6).bind fun x12=>(mP x12 (s7.length:Int)).bind fun x13=>(inO s7 x13).bind fun _=>(gy s7 x13).bind fun x16=>(inO s7 s6).bind fun _=>(gy s7 s6).bind fun x19=>(inO s7 s6).bind fun _=>(sy s7 s6 x16).bind fun x22=>(inO x22 x13).bind fun _=>(sy x22 x13 x19).bind fun x25=>some (.next ((IntKind.wrap .i64 (s6+1)),x25)))else(some (.next ((IntKind.wrap .i64 (s6+1)),s7))))else(some (.stop s7))
def ei(x2:ak×ae)(x3:ap×ae)(x4:(List ac)×ae)(j28:(List ac)):Option (Bool):=
  (dz x2.1 x3.1 x4.1).bind fun x29=>(dz x2.1 x3.1 j28).bind fun x30=>if(x29.2.2==x30.2.2)=true then((lw x29.1 x30.1).bind fun x32=>if x32=true then((eM x29.2.1 x30.2.1).bind fun x34=>if x34=true then((fI ).bind fun x36=>some x36)else(some false))else(some false))else(some false)
def lj(a0:(List Int))(a1:(List Int)):Option (Bool):=
  (ib a0).bind fun x1=>(cQ 3 x1).bind fun x2=>(eB 6 x2.2).bind fun x3=>(k7 x2.1 x3.1 8 x3.2).bind fun x4=>(qd ([]:List ac) x4.1 104).bind fun x5=>(fP (iL x5 a1) (0,x5)).bind fun o27=>if(decide ((o27.length:Int)>0))=true then((cG (o27.length:Int) x4.2).bind fun x39=>(inO o27 x39.1).bind fun _=>(gy o27 x39.1).bind fun x42=>(qd o27 [x42] 104).bind fun x43=>ei x2 x3 x4 x43)else(ei x2 x3 x4 o27)
end
end Go.Dw.Et
