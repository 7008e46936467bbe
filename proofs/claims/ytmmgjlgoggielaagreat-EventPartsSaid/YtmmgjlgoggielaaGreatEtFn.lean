
import Derived.Test.YtmmgjlgoggielaaGreatDwNest
import Derived.Test.YtmmgjlgoggielaaGreatDwSortP

namespace Go.Dw.Et
open Go.Dw
noncomputable section
structure ae where
  fL:(List Int)
  fAt:Int
  deriving DecidableEq
def ae.pd(x:ae):PD:= .agg [.lst (x.fL.map (PD.int .i64)),.int .i64 x.fAt]
structure aa where
  fX:Int
  fY:Int
  fZ:Int
  deriving DecidableEq
def aa.pd(x:aa):PD:= .agg [.int .i64 x.fX,.int .i64 x.fY,.int .i64 x.fZ]
structure ai where
  aK:aa
  aG:aa
  deriving DecidableEq
def ai.pd(x:ai):PD:= .agg [.int .i64 x.aK.fX,.int .i64 x.aK.fY,.int .i64 x.aK.fZ,.int .i64 x.aG.fX,.int .i64 x.aG.fY,.int .i64 x.aG.fZ]
structure aF where
  bp:Int
  aK:(List Int)
  aG:(List Int)
  deriving DecidableEq
def aF.pd(x:aF):PD:= .agg [.int .i64 x.bp,.lst (x.aK.map (PD.int .i64)),.lst (x.aG.map (PD.int .i64))]
structure aJ where
  aN:ai
  bi:aF
  cJ:Int
  bw:Int
  dx:Int
  eN:Int
  cm:Int
  deriving DecidableEq
def aJ.pd(x:aJ):PD:= .agg [.int .i64 x.aN.aK.fX,.int .i64 x.aN.aK.fY,.int .i64 x.aN.aK.fZ,.int .i64 x.aN.aG.fX,.int .i64 x.aN.aG.fY,.int .i64 x.aN.aG.fZ,.int .i64 x.bi.bp,.lst (x.bi.aK.map (PD.int .i64)),.lst (x.bi.aG.map (PD.int .i64)),.int .i64 x.cJ,.int .i64 x.bw,.int .i64 x.dx,.int .i64 x.eN,.int .i64 x.cm]
structure bu where
  bG:aF
  bn:Int
  bg:Int
  deriving DecidableEq
def bu.pd(x:bu):PD:= .agg [.int .i64 x.bG.bp,.lst (x.bG.aK.map (PD.int .i64)),.lst (x.bG.aG.map (PD.int .i64)),.int .i64 x.bn,.int .i64 x.bg]
structure ak where
  ag:aJ
  cq:bu
  bw:Int
  deriving DecidableEq
def ak.pd(x:ak):PD:= .agg [.int .i64 x.ag.aN.aK.fX,.int .i64 x.ag.aN.aK.fY,.int .i64 x.ag.aN.aK.fZ,.int .i64 x.ag.aN.aG.fX,.int .i64 x.ag.aN.aG.fY,.int .i64 x.ag.aN.aG.fZ,.int .i64 x.ag.bi.bp,.lst (x.ag.bi.aK.map (PD.int .i64)),.lst (x.ag.bi.aG.map (PD.int .i64)),.int .i64 x.ag.cJ,.int .i64 x.ag.bw,.int .i64 x.ag.dx,.int .i64 x.ag.eN,.int .i64 x.ag.cm,.int .i64 x.cq.bG.bp,.lst (x.cq.bG.aK.map (PD.int .i64)),.lst (x.cq.bG.aG.map (PD.int .i64)),.int .i64 x.cq.bn,.int .i64 x.cq.bg,.int .i64 x.bw]
structure aw where
  aY:(List UInt8)
  aM:(List UInt8)
  aj:(List UInt8)
  a7:(List UInt8)
  deriving DecidableEq
def aw.pd(x:aw):PD:= .agg [.str x.aY,.str x.aM,.str x.aj,.str x.a7]
structure bv where
  bn:Int
  bg:Int
  deriving DecidableEq
def bv.pd(x:bv):PD:= .agg [.int .i64 x.bn,.int .i64 x.bg]
structure aU where
  a0:Int
  a1:Int
  a2:Int
  deriving DecidableEq
def aU.pd(x:aU):PD:= .agg [.int .i64 x.a0,.int .i64 x.a1,.int .i64 x.a2]
structure aH where
  db:Int
  bn:aU
  bg:aU
  ch:(List Int)
  bS:Int
  ca:Int
  deriving DecidableEq
def aH.pd(x:aH):PD:= .agg [.int .i64 x.db,.int .i64 x.bn.a0,.int .i64 x.bn.a1,.int .i64 x.bn.a2,.int .i64 x.bg.a0,.int .i64 x.bg.a1,.int .i64 x.bg.a2,.lst (x.ch.map (PD.int .i64)),.int .i64 x.bS,.int .i64 x.ca]
structure aO where
  bt:(List aH)
  deriving DecidableEq
def aO.pd(x:aO):PD:= .agg [.lst (x.bt.map aH.pd)]
structure aA where
  bB:Int
  fTo:Int
  dn:bv
  aZ:aa
  bD:aO
  deriving DecidableEq
def aA.pd(x:aA):PD:= .agg [.int .i64 x.bB,.int .i64 x.fTo,.int .i64 x.dn.bn,.int .i64 x.dn.bg,.int .i64 x.aZ.fX,.int .i64 x.aZ.fY,.int .i64 x.aZ.fZ,.lst (x.bD.bt.map aH.pd)]
structure ar where
  aC:aw
  bA:(List aA)
  deriving DecidableEq
def ar.pd(x:ar):PD:= .agg [.str x.aC.aY,.str x.aC.aM,.str x.aC.aj,.str x.aC.a7,.lst (x.bA.map aA.pd)]
structure aq where
  aI:(List ar)
  deriving DecidableEq
def aq.pd(x:aq):PD:= .agg [.lst (x.aI.map ar.pd)]
structure ac where
  aC:aw
  a8:Int
  aP:Int
  bh:Int
  aS:Int
  aT:Int
  deriving DecidableEq
def ac.pd(x:ac):PD:= .agg [.str x.aC.aY,.str x.aC.aM,.str x.aC.aj,.str x.aC.a7,.int .i64 x.a8,.int .i64 x.aP,.int .i64 x.bh,.int .i64 x.aS,.int .i64 x.aT]
structure au where
  aV:aa
  a8:Int
  bj:Int
  dm:Int
  aX:ai
  deriving DecidableEq
def au.pd(x:au):PD:= .agg [.int .i64 x.aV.fX,.int .i64 x.aV.fY,.int .i64 x.aV.fZ,.int .i64 x.a8,.int .i64 x.bj,.int .i64 x.dm,.int .i64 x.aX.aK.fX,.int .i64 x.aX.aK.fY,.int .i64 x.aX.aK.fZ,.int .i64 x.aX.aG.fX,.int .i64 x.aX.aG.fY,.int .i64 x.aX.aG.fZ]
structure aD where
  aK:Int
  aG:Int
  deriving DecidableEq
def aD.pd(x:aD):PD:= .agg [.int .i64 x.aK,.int .i64 x.aG]
structure bf where
  bo:(List ac)
  aj:au
  bq:aD
  eM:Int
  deriving DecidableEq
def bf.pd(x:bf):PD:= .agg [.lst (x.bo.map ac.pd),.int .i64 x.aj.aV.fX,.int .i64 x.aj.aV.fY,.int .i64 x.aj.aV.fZ,.int .i64 x.aj.a8,.int .i64 x.aj.bj,.int .i64 x.aj.dm,.int .i64 x.aj.aX.aK.fX,.int .i64 x.aj.aX.aK.fY,.int .i64 x.aj.aX.aK.fZ,.int .i64 x.aj.aX.aG.fX,.int .i64 x.aj.aX.aG.fY,.int .i64 x.aj.aX.aG.fZ,.int .i64 x.bq.aK,.int .i64 x.bq.aG,.int .i64 x.eM]
structure az where
  bd:ac
  ap:bf
  deriving DecidableEq
def az.pd(x:az):PD:= .agg [.str x.bd.aC.aY,.str x.bd.aC.aM,.str x.bd.aC.aj,.str x.bd.aC.a7,.int .i64 x.bd.a8,.int .i64 x.bd.aP,.int .i64 x.bd.bh,.int .i64 x.bd.aS,.int .i64 x.bd.aT,.lst (x.ap.bo.map ac.pd),.int .i64 x.ap.aj.aV.fX,.int .i64 x.ap.aj.aV.fY,.int .i64 x.ap.aj.aV.fZ,.int .i64 x.ap.aj.a8,.int .i64 x.ap.aj.bj,.int .i64 x.ap.aj.dm,.int .i64 x.ap.aj.aX.aK.fX,.int .i64 x.ap.aj.aX.aK.fY,.int .i64 x.ap.aj.aX.aK.fZ,.int .i64 x.ap.aj.aX.aG.fX,.int .i64 x.ap.aj.aX.aG.fY,.int .i64 x.ap.aj.aX.aG.fZ,.int .i64 x.ap.bq.aK,.int .i64 x.ap.bq.aG,.int .i64 x.ap.eM]
structure al where
  aM:aa
  aP:Int
  bh:Int
  bH:Int
  deriving DecidableEq
def al.pd(x:al):PD:= .agg [.int .i64 x.aM.fX,.int .i64 x.aM.fY,.int .i64 x.aM.fZ,.int .i64 x.aP,.int .i64 x.bh,.int .i64 x.bH]
structure aL where
  bB:Int
  fTo:Int
  deriving DecidableEq
def aL.pd(x:aL):PD:= .agg [.int .i64 x.bB,.int .i64 x.fTo]
structure ba where
  cw:(List Int)
  aV:aa
  a8:Int
  deriving DecidableEq
def ba.pd(x:ba):PD:= .agg [.lst (x.cw.map (PD.int .i64)),.int .i64 x.aV.fX,.int .i64 x.aV.fY,.int .i64 x.aV.fZ,.int .i64 x.a8]
structure bz where
  nZ:(List Int)
  fback:(List Int)
  deriving DecidableEq
def bz.pd(x:bz):PD:= .agg [.lst (x.nZ.map (PD.int .i64)),.lst (x.fback.map (PD.int .i64))]
structure ah where
  aN:ai
  bi:aF
  bc:(List al)
  cJ:Int
  deriving DecidableEq
def ah.pd(x:ah):PD:= .agg [.int .i64 x.aN.aK.fX,.int .i64 x.aN.aK.fY,.int .i64 x.aN.aK.fZ,.int .i64 x.aN.aG.fX,.int .i64 x.aN.aG.fY,.int .i64 x.aN.aG.fZ,.int .i64 x.bi.bp,.lst (x.bi.aK.map (PD.int .i64)),.lst (x.bi.aG.map (PD.int .i64)),.lst (x.bc.map al.pd),.int .i64 x.cJ]
structure av where
  kg:ai
  cr:Int
  gO:Int
  deriving DecidableEq
def av.pd(x:av):PD:= .agg [.int .i64 x.kg.aK.fX,.int .i64 x.kg.aK.fY,.int .i64 x.kg.aK.fZ,.int .i64 x.kg.aG.fX,.int .i64 x.kg.aG.fY,.int .i64 x.kg.aG.fZ,.int .i64 x.cr,.int .i64 x.gO]
structure bT where
  fp:ah
  kT:(List av)
  gO:Int
  ftaken:Int
  ffound:Bool
  bV:au
  deriving DecidableEq
def bT.pd(x:bT):PD:= .agg [.int .i64 x.fp.aN.aK.fX,.int .i64 x.fp.aN.aK.fY,.int .i64 x.fp.aN.aK.fZ,.int .i64 x.fp.aN.aG.fX,.int .i64 x.fp.aN.aG.fY,.int .i64 x.fp.aN.aG.fZ,.int .i64 x.fp.bi.bp,.lst (x.fp.bi.aK.map (PD.int .i64)),.lst (x.fp.bi.aG.map (PD.int .i64)),.lst (x.fp.bc.map al.pd),.int .i64 x.fp.cJ,.lst (x.kT.map av.pd),.int .i64 x.gO,.int .i64 x.ftaken,.bool x.ffound,.int .i64 x.bV.aV.fX,.int .i64 x.bV.aV.fY,.int .i64 x.bV.aV.fZ,.int .i64 x.bV.a8,.int .i64 x.bV.bj,.int .i64 x.bV.dm,.int .i64 x.bV.aX.aK.fX,.int .i64 x.bV.aX.aK.fY,.int .i64 x.bV.aX.aK.fZ,.int .i64 x.bV.aX.aG.fX,.int .i64 x.bV.aX.aG.fY,.int .i64 x.bV.aX.aG.fZ]
structure aW where
  dK:(List ac)
  dt:(List al)
  jV:(List aA)
  deriving DecidableEq
def aW.pd(x:aW):PD:= .agg [.lst (x.dK.map ac.pd),.lst (x.dt.map al.pd),.lst (x.jV.map aA.pd)]
structure aQ where
  bn:(List Int)
  bg:(List Int)
  deriving DecidableEq
def aQ.pd(x:aQ):PD:= .agg [.lst (x.bn.map (PD.int .i64)),.lst (x.bg.map (PD.int .i64))]
structure e9 where
  deriving DecidableEq
def e9.pd(x:e9):PD:= .agg []
structure A4_Int where
  a0:Int
  a1:Int
  a2:Int
  a3:Int
  deriving DecidableEq
def A4_Int.pd(x:A4_Int):PD:= .agg [.int .i64 x.a0,.int .i64 x.a1,.int .i64 x.a2,.int .i64 x.a3]
structure bY where
  deriving DecidableEq
def bY.pd(x:bY):PD:= .agg []
structure bL where
  a0:Int
  a1:Int
  deriving DecidableEq
def bL.pd(x:bL):PD:= .agg [.int .i64 x.a0,.int .i64 x.a1]
structure dS where
  a0:bL
  a1:bL
  a2:bL
  a3:bL
  a4:bL
  deriving DecidableEq
def dS.pd(x:dS):PD:= .agg [.int .i64 x.a0.a0,.int .i64 x.a0.a1,.int .i64 x.a1.a0,.int .i64 x.a1.a1,.int .i64 x.a2.a0,.int .i64 x.a2.a1,.int .i64 x.a3.a0,.int .i64 x.a3.a1,.int .i64 x.a4.a0,.int .i64 x.a4.a1]
def rO(a b:ac):Bool:=(((a.aC.aY==b.aC.aY)&&((a.aC.aM==b.aC.aM)&&((a.aC.aj==b.aC.aj)&&((a.aC.a7==b.aC.a7)&&true))))&&((a.a8==b.a8)&&((a.aP==b.aP)&&((a.bh==b.bh)&&((a.aS==b.aS)&&((a.aT==b.aT)&&true))))))
def im(a0:(List Int)):Option (ae):=
  (cutO a0 0 (if 2000<(a0.length:Int)then 2000 else(a0.length:Int))).bind fun x1=>some (ae.mk x1 0)
def Src_Raw(d0:ae):Option (Int×ae):=
  if(decide (d0.fAt>=(d0.fL.length:Int)))=true then(some (0,d0))else((fV d0.fL (IntKind.wrap .i64 ((IntKind.wrap .i64 (d0.fAt+1))-1))).bind fun x2=>some (x2,(ae.mk d0.fL (IntKind.wrap .i64 (d0.fAt+1)))))
def mZ(a0:Int)(a1:Int):Option (Int):=
  if(decide (a1<1))=true then(some 0)else((wu a0 a1).bind fun x2=>if(decide (x2<0))=true then(some (IntKind.wrap .i64 (x2+a1)))else(some x2))
def cK(a1:Int)(d0:ae):Option (Int×ae):=
  (Src_Raw d0).bind fun x1=>(mZ x1.1 a1).bind fun x2=>some (x2,x1.2)
def ks(a1:Int)(d0:ae):Option (aa×ae):=
  (cK (IntKind.wrap .i64 ((IntKind.wrap .i64 (2*a1))+1)) d0).bind fun x1=>(cK (IntKind.wrap .i64 ((IntKind.wrap .i64 (2*a1))+1)) x1.2).bind fun x2=>(cK (IntKind.wrap .i64 (a1+1)) x2.2).bind fun x3=>some ((aa.mk (IntKind.wrap .i64 (x1.1-a1)) (IntKind.wrap .i64 (x2.1-a1)) x3.1),x3.2)
def ot(a1:Int)(a2:Int)(d0:ae):Option (ai×ae):=
  (ks a1 d0).bind fun x1=>(cK (IntKind.wrap .i64 (a2+1)) x1.2).bind fun x2=>(cK (IntKind.wrap .i64 (a2+1)) x2.2).bind fun x3=>(cK (IntKind.wrap .i64 (a2+1)) x3.2).bind fun x4=>some ((ai.mk x1.1 (aa.mk (IntKind.wrap .i64 (x1.1.fX+x2.1)) (IntKind.wrap .i64 (x1.1.fY+x3.1)) (IntKind.wrap .i64 (x1.1.fZ+x4.1)))),x4.2)
def dE(a1:(List Int))(d0:ae):Option (Int×ae):=
  (cK (a1.length:Int) d0).bind fun x1=>(fV a1 x1.1).bind fun x2=>some (x2,x1.2)
def jL(x1:Int×ae):(Int×Int×Int×(List Int)×Int×(List Int)×(List Int))->Option (gD (Int×Int×Int×(List Int)×Int×(List Int)×(List Int)) ((List Int)×Int×(List Int)×(List Int))):=fun(s3,s4,s5,s6,s7,s8,s9)=>
  (sl .i64 400 x1.1).bind fun x15=>(cK 3 (ae.mk s6 s7)).bind fun x16=>if(decide (s5<=(IntKind.wrap .i64 (x15+x16.1))))=true then((qt s8 [s3] 8).bind fun x18=>(qt s9 [s4] 8).bind fun x19=>(dE [0,10,20,35] x16.2).bind fun x20=>(sl .i64 x1.1 4).bind fun x21=>(dE [0,0,5,30] x20.2).bind fun x22=>some (.next ((IntKind.wrap .i64 (s3+(IntKind.wrap .i64 (x20.1+x21)))),(IntKind.wrap .i64 ((if(IntKind.wrap .i64 (s3+(IntKind.wrap .i64 (x20.1+x21))))>s4 then(IntKind.wrap .i64 (s3+(IntKind.wrap .i64 (x20.1+x21))))else s4)+x22.1)),(IntKind.wrap .i64 (s5+1)),x22.2.fL,x22.2.fAt,x18,x19)))else(some (.stop (x16.2.fL,x16.2.fAt,s8,s9)))
def jp(d0:ae):Option (aF×ae):=
  (dE [20,25,40,100] d0).bind fun x1=>(cK 3 x1.2).bind fun x2=>(eO (jL x1) (0,x2.1,0,x2.2.fL,x2.2.fAt,([]:(List Int)),([]:(List Int)))).bind fun o24=>some ((aF.mk x1.1 o24.2.2.1 o24.2.2.2),(ae.mk o24.1 o24.2.1))
def dV(a1:Int)(d0:ae):Option (aJ×ae):=
  (ot 20 a1 d0).bind fun x1=>(jp x1.2).bind fun x2=>(dE [10,50,200] x2.2).bind fun x3=>(dE [0,0,10,40] x3.2).bind fun x4=>(dE [0,50,200,400] x4.2).bind fun x5=>(dE [0,5,20] x5.2).bind fun x6=>(cK 2 x6.2).bind fun x7=>some ((aJ.mk x1.1 x2.1 x3.1 x4.1 x5.1 x6.1 (IntKind.wrap .i64 (2+x7.1))),x7.2)
def lM(x1:aF×ae):(Int×(List Int)×(List Int))->Option (gD (Int×(List Int)×(List Int)) ((List Int)×(List Int))):=fun(s4,s5,s6)=>
  if(decide (s4<(x1.1.aK.length:Int)))=true then((inO s5 s4).bind fun _=>(fV s5 s4).bind fun x13=>(sl .i64 x13 3).bind fun x14=>(inO s6 s4).bind fun _=>(fV s6 s4).bind fun x17=>(sl .i64 x17 3).bind fun x18=>(inO s5 s4).bind fun _=>(ta s5 s4 x14).bind fun x21=>(inO s6 s4).bind fun _=>(ta s6 s4 x18).bind fun x24=>some (.next ((IntKind.wrap .i64 (s4+1)),x21,x24)))else(some (.stop (s5,s6)))
def ku(d0:ae):Option (bu×ae):=
  (jp d0).bind fun x1=>(cK 20 x1.2).bind fun x2=>(cK 9 x2.2).bind fun x3=>(eO (lM x1) (0,x1.1.aK,x1.1.aG)).bind fun o26=>some ((bu.mk (aF.mk x1.1.bp o26.1 o26.2) x2.1 (IntKind.wrap .i64 (1+x3.1))),x3.2)
def cU(a1:Int)(d0:ae):Option (ak×ae):=
  (dV a1 d0).bind fun x1=>(ku x1.2).bind fun x2=>(dE [0,0,10,40] x2.2).bind fun x3=>some ((ak.mk x1.1 x2.1 x3.1),x3.2)
def jo:(Int×(List Int)×Int×(List aH))->Option (gD (Int×(List Int)×Int×(List aH)) ((List Int)×Int×(List aH))):=fun(s2,s3,s4,s5)=>
  if(decide (s2>0))=true then((cK 3 (ae.mk s3 s4)).bind fun x11=>if(x11.1==0)=true then((dE [0,1,9,99,1048575] x11.2).bind fun x13=>(dE [0,0,2,9,999] x13.2).bind fun x14=>(qt s5 [(aH.mk x11.1 (aU.mk (IntKind.wrap .i64 (1+x13.1)) 0 0) (aU.mk (IntKind.wrap .i64 (1+x14.1)) 0 0) [] 0 0)] 96).bind fun x15=>some (.next ((IntKind.wrap .i64 (s2-1)),x14.2.fL,x14.2.fAt,x15)))else(if(x11.1==1)=true then((cK 5 x11.2).bind fun x17=>(cK 7 x17.2).bind fun x18=>(cK 3 x18.2).bind fun x19=>(cK 5 x19.2).bind fun x20=>(cK 7 x20.2).bind fun x21=>(cK 3 x21.2).bind fun x22=>(qt s5 [(aH.mk x11.1 (aU.mk x17.1 (IntKind.wrap .i64 (x18.1-3)) (IntKind.wrap .i64 (x19.1-1))) (aU.mk (IntKind.wrap .i64 (1+x20.1)) x21.1 x22.1) [] 0 0)] 96).bind fun x23=>some (.next ((IntKind.wrap .i64 (s2-1)),x22.2.fL,x22.2.fAt,x23)))else((cK 3 x11.2).bind fun x24=>(cK 4 x24.2).bind fun x25=>(qt s5 [(aH.mk x11.1 (aU.mk 0 0 0) (aU.mk 0 0 0) [(IntKind.wrap .i64 (1+x24.1)),2,1] 1 x25.1)] 96).bind fun x26=>some (.next ((IntKind.wrap .i64 (s2-1)),x25.2.fL,x25.2.fAt,x26)))))else(some (.stop (s3,s4,s5)))
def eV(d0:ae):Option (aO×ae):=
  (cK 4 d0).bind fun x1=>(eO (jo) (x1.1,x1.2.fL,x1.2.fAt,([]:(List aH)))).bind fun o28=>some ((aO.mk o28.2.2),(ae.mk o28.1 o28.2.1))
def c6(a0:Int):Option (aw):=
  (mZ a0 6).bind fun x1=>(fV [[83,49],[83,50],[83,51],[83,52],[83,53],[83,54]] x1).bind fun x2=>some (aw.mk [65,66] x2 [48,48] [66,72,90])
def jK(a1:Int):(Int×(List Int)×Int×(List ar))->Option (gD (Int×(List Int)×Int×(List ar)) ((List Int)×Int×(List ar))):=fun(s1,s2,s3,s4)=>
  if(decide (s1<a1))=true then(if(decide (s1<6))=true then((ks 60 (ae.mk s2 s3)).bind fun x11=>(eV x11.2).bind fun x12=>(c6 s1).bind fun x13=>(cK 6 x12.2).bind fun x14=>if(x14.1==0)=true then((cK 500 x14.2).bind fun x16=>(ks 60 x16.2).bind fun x17=>(eV x17.2).bind fun x18=>(inO [(aA.mk 0 100000 (bv.mk 100 1) x11.1 x12.1)] 0).bind fun _=>(modO [(aA.mk 0 100000 (bv.mk 100 1) x11.1 x12.1)] 0 (fun(z22:aA)=>(aA.mk z22.bB (IntKind.wrap .i64 (1500+x16.1)) z22.dn z22.aZ z22.bD))).bind fun x21=>(qt x21 [(aA.mk (IntKind.wrap .i64 (1500+x16.1)) 100000 (bv.mk 100 1) x17.1 x18.1)] 80).bind fun x23=>(qt s4 [(ar.mk x13 x23)] 88).bind fun x24=>some (.next ((IntKind.wrap .i64 (s1+1)),x18.2.fL,x18.2.fAt,x24)))else(if(x14.1==1)=true then((cK 1500 x14.2).bind fun x26=>(inO [(aA.mk 0 100000 (bv.mk 100 1) x11.1 x12.1)] 0).bind fun _=>(modO [(aA.mk 0 100000 (bv.mk 100 1) x11.1 x12.1)] 0 (fun(z30:aA)=>(aA.mk x26.1 z30.fTo z30.dn z30.aZ z30.bD))).bind fun x29=>(qt s4 [(ar.mk x13 x29)] 88).bind fun x31=>some (.next ((IntKind.wrap .i64 (s1+1)),x26.2.fL,x26.2.fAt,x31)))else((qt s4 [(ar.mk x13 [(aA.mk 0 100000 (bv.mk 100 1) x11.1 x12.1)])] 88).bind fun x32=>some (.next ((IntKind.wrap .i64 (s1+1)),x14.2.fL,x14.2.fAt,x32)))))else(some (.stop (s2,s3,s4))))else(some (.stop (s2,s3,s4)))
def eD(a1:Int)(d0:ae):Option (aq×ae):=
  (eO (jK a1) (0,d0.fL,d0.fAt,([]:(List ar)))).bind fun o34=>some ((aq.mk o34.2.2),(ae.mk o34.1 o34.2.1))
def mM(a1:Int)(a2:Int)(d0:ae):Option (Int×ae):=
  (cK (IntKind.wrap .i64 ((IntKind.wrap .i64 (a2-a1))+1)) d0).bind fun x1=>some ((IntKind.wrap .i64 (a1+x1.1)),x1.2)
def mK(a1:ai)(d0:ae):Option (aa×ae):=
  (mM a1.aK.fX a1.aG.fX d0).bind fun x1=>(mM a1.aK.fY a1.aG.fY x1.2).bind fun x2=>(mM a1.aK.fZ a1.aG.fZ x2.2).bind fun x3=>some ((aa.mk x1.1 x2.1 x3.1),x3.2)
def pH(x4:ar)(a1:aw)(a2:Int)(s1:Int):Int->Option (gD (Int) ((Int)⊕(aa×Bool))):=fun s5=>
  if(decide (s5<(x4.bA.length:Int)))=true then((fV x4.bA s5).bind fun x9=>if((x4.aC.aY==a1.aY)&&((x4.aC.aM==a1.aM)&&((x4.aC.aj==a1.aj)&&((x4.aC.a7==a1.a7)&&true))))=true then(if(decide (x9.bB<=a2))=true then(if(decide (a2<x9.fTo))=true then(some (.stop (.inr (x9.aZ,true))))else(some (.next (IntKind.wrap .i64 (s5+1)))))else(some (.next (IntKind.wrap .i64 (s5+1)))))else(some (.next (IntKind.wrap .i64 (s5+1)))))else(some (.stop (.inl s1)))
def pI(a0:aq)(a1:aw)(a2:Int):Int->Option (gD (Int) ((Unit)⊕(aa×Bool))):=fun s1=>
  if(decide (s1<(a0.aI.length:Int)))=true then((fV a0.aI s1).bind fun x4=>(eO (pH x4 a1 a2 s1) 0).bind fun o14=>match o14 with| .inl y15=>(some (.next (IntKind.wrap .i64 (y15+1))))| .inr r16=>(some (.stop (.inr r16))))else(some (.stop (.inl ())))
def oK(a0:aq)(a1:aw)(a2:Int):Option (aa×Bool):=
  (eO (pI a0 a1 a2) 0).bind fun o18=>match o18 with| .inl _=>(some ((aa.mk 0 0 0),false))| .inr r20=>(some r20)
def qi(a0:Int):Option (Int):=
  some (IntKind.wrap .i64 (a0*a0))
def ge(x18:aw)(x19:Int×ae)(x20:Int×ae)(j22:Int)(j23:Int)(j24:(List Int))(j25:Int)(j26:(List ac))(j27:Int)(j28:Int)(j29:Int)(j30:Int):Option (gD (Int×Int×(List Int)×Int×(List ac)×Int×Int×Int) ((List ac)×(List Int)×Int)):=
  (cK 5 (ae.mk j24 j25)).bind fun x31=>(cK 5 x31.2).bind fun x32=>(qt j26 [(ac.mk x18 (IntKind.wrap .i64 (j30+x31.1)) j30 (IntKind.wrap .i64 ((IntKind.wrap .i64 (j30+x31.1))+x32.1)) x19.1 (IntKind.wrap .i64 (x20.1-1)))] 104).bind fun x33=>some (.next (j22,(IntKind.wrap .i64 (j23-1)),x32.2.fL,x32.2.fAt,x33,j27,j28,j29))
def nK(x40:aa×Bool)(s9:Int)(s10:Int)(s11:Int)(s4:Int)(s5:Int)(s8:(List ac)):Int->Option (gD (Int) (Int×Int×Int×(List ac)×Int×Int×Int)):=fun s42=>
  (qi (IntKind.wrap .i64 (x40.1.fX-s9))).bind fun x51=>(qi (IntKind.wrap .i64 (x40.1.fY-s10))).bind fun x52=>(qi (IntKind.wrap .i64 (x40.1.fZ-s11))).bind fun x53=>if(decide ((IntKind.wrap .i64 (s42*s42))<(IntKind.wrap .i64 ((IntKind.wrap .i64 (x51+x52))+x53))))=true then(some (.next (IntKind.wrap .i64 (s42+1))))else(some (.stop (s4,s5,s42,s8,s9,s10,s11)))
def qJ(a1:ak)(a2:aq):(Int×Int×(List Int)×Int×(List ac)×Int×Int×Int)->Option (gD (Int×Int×(List Int)×Int×(List ac)×Int×Int×Int) ((List ac)×(List Int)×Int)):=fun(s4,s5,s6,s7,s8,s9,s10,s11)=>
  if(decide (s5>0))=true then((cK 6 (ae.mk s6 s7)).bind fun x17=>(c6 x17.1).bind fun x18=>(dE [0,1,50,1000,1048576] x17.2).bind fun x19=>(cK 3 x19.2).bind fun x20=>(cK 2000 x20.2).bind fun x21=>(cK 6 x21.2).bind fun x35=>if(x35.1==0)=true then((mK a1.ag.aN x35.2).bind fun x37=>(cK 900 x37.2).bind fun x38=>ge x18 x19 x20 (IntKind.wrap .i64 (s4+x38.1)) s5 x38.2.fL x38.2.fAt s8 x37.1.fX x37.1.fY x37.1.fZ (IntKind.wrap .i64 (1000+x21.1)))else(if(x35.1==1)=true then(ge x18 x19 x20 s4 s5 x35.2.fL x35.2.fAt s8 s9 s10 s11 (IntKind.wrap .i64 (1000+x21.1)))else((oK a2 x18 s4).bind fun x40=>if x40.2=true then((eO (nK x40 s9 s10 s11 s4 s5 s8) 0).bind fun o56=>(sl .i64 o56.2.2.1 a1.ag.bi.bp).bind fun x57=>(fV a1.ag.bi.aK (if(IntKind.wrap .i64 ((a1.ag.bi.aK.length:Int)-1))<x57 then(IntKind.wrap .i64 ((a1.ag.bi.aK.length:Int)-1))else x57)).bind fun x58=>(cK 6 x35.2).bind fun x59=>ge x18 x19 x20 o56.1 o56.2.1 x59.2.fL x59.2.fAt o56.2.2.2.1 o56.2.2.2.2.1 o56.2.2.2.2.2.1 o56.2.2.2.2.2.2 (IntKind.wrap .i64 ((IntKind.wrap .i64 (o56.1+x58))+x59.1)))else(ge x18 x19 x20 s4 s5 x35.2.fL x35.2.fAt s8 s9 s10 s11 (IntKind.wrap .i64 (1000+x21.1))))))else(some (.stop (s8,s6,s7)))
def lk(a1:ak)(a2:aq)(a3:Int)(d0:ae):Option ((List ac)×ae):=
  (mK a1.ag.aN d0).bind fun x1=>(cK 500 x1.2).bind fun x2=>(cK (IntKind.wrap .i64 (a3+1)) x2.2).bind fun x3=>(eO (qJ a1 a2) ((IntKind.wrap .i64 (1000+x2.1)),x3.1,x3.2.fL,x3.2.fAt,([]:(List ac)),x1.1.fX,x1.1.fY,x1.1.fZ)).bind fun o61=>some (o61.1,(ae.mk o61.2.1 o61.2.2))
def bF(a0:aa):Option (aU):=
  some (aU.mk a0.fX a0.fY a0.fZ)
def cW(a0:aa):Option (Bool):=
  (bF a0).bind fun x1=>if(decide (x1.a0<(-1048576)))=true then(some false)else(if(decide (x1.a0>1048576))=true then(some false)else(if(decide (x1.a1<(-1048576)))=true then(some false)else(if(decide (x1.a1>1048576))=true then(some false)else(if(decide (x1.a2<(-16384)))=true then(some false)else(if(decide (x1.a2>1048576))=true then(some false)else(some true))))))
def bI(a0:ai):Option (Bool):=
  (cW a0.aK).bind fun x1=>if(!x1)=true then(some false)else((cW a0.aG).bind fun x3=>if(!x3)=true then(some false)else((bF a0.aG).bind fun x5=>(bF a0.aK).bind fun x6=>if(decide (x6.a0>x5.a0))=true then(some false)else(if(decide (x6.a1>x5.a1))=true then(some false)else(if(decide (x6.a2>x5.a2))=true then(some false)else(some true)))))
def jJ(a0:aF):(Int×Int×Int)->Option (gD (Int×Int×Int) ((Unit)⊕(Int))):=fun(s6,s7,s8)=>
  if(decide (s8<(a0.aK.length:Int)))=true then((fV a0.aK s8).bind fun x11=>if(decide (x11<s6))=true then(some (.stop (.inr 21)))else((fV a0.aG s8).bind fun x13=>if(decide (x13<s7))=true then(some (.stop (.inr 21)))else((fV a0.aK s8).bind fun x15=>(fV a0.aG s8).bind fun x16=>if(decide (x15>x16))=true then(some (.stop (.inr 21)))else((fV a0.aG s8).bind fun x18=>if(decide (x18>1099511627776))=true then(some (.stop (.inr 21)))else((fV a0.aK s8).bind fun x20=>(fV a0.aG s8).bind fun x21=>some (.next (x20,x21,(IntKind.wrap .i64 (s8+1)))))))))else(some (.stop (.inl ())))
def cN(a0:aF):Option (Int):=
  if(decide (a0.bp<1))=true then(some 21)else(if(decide (a0.bp>1048576))=true then(some 21)else(if((a0.aK.length:Int) != (a0.aG.length:Int))=true then(some 21)else(if(decide ((a0.aK.length:Int)<2))=true then(some 21)else(if(decide ((a0.aK.length:Int)>256))=true then(some 21)else((eO (jJ a0) (0,0,0)).bind fun o23=>match o23 with| .inl _=>(some 0)| .inr r25=>(some r25))))))
def d9(a0:Int)(a1:Int)(a2:Int):Option (Bool):=
  if(decide (a0>=a1))=true then(some (decide (a0<=a2)))else(some false)
def dX(a0:al):Option (Bool):=
  (cW a0.aM).bind fun x1=>if x1=true then(if(decide (a0.aP>=0))=true then(if(decide (a0.aP<=a0.bh))=true then(if(decide (a0.bh<=18014398509481984))=true then(if(decide (a0.bH>=1))=true then(some (decide (a0.bH<=100)))else(some false))else(some false))else(some false))else(some false))else(some false)
def fg(a0:Int)(a1:Int)(a2:Int):Option (Int):=
  some (if 0>(if(IntKind.wrap .i64 (a0-a2))>(IntKind.wrap .i64 (a1-a0))then(IntKind.wrap .i64 (a0-a2))else(IntKind.wrap .i64 (a1-a0)))then 0 else(if(IntKind.wrap .i64 (a0-a2))>(IntKind.wrap .i64 (a1-a0))then(IntKind.wrap .i64 (a0-a2))else(IntKind.wrap .i64 (a1-a0))))
def gR(a0:ai)(a1:aa):Option (Int):=
  (bI a0).bind fun x1=>if(!x1)=true then(some 0)else((cW a1).bind fun x3=>if(!x3)=true then(some 0)else((bF a0.aK).bind fun x5=>(bF a0.aG).bind fun x6=>(bF a1).bind fun x7=>(fg x7.a0 x5.a0 x6.a0).bind fun x8=>(fg x7.a1 x5.a1 x6.a1).bind fun x9=>(fg x7.a2 x5.a2 x6.a2).bind fun x10=>some (IntKind.wrap .i64 ((IntKind.wrap .i64 ((IntKind.wrap .i64 (0+(IntKind.wrap .i64 (x8*x8))))+(IntKind.wrap .i64 (x9*x9))))+(IntKind.wrap .i64 (x10*x10))))))
def fc(a0:ai)(a1:aa):Option (Int):=
  (gR a0 a1).bind fun x1=>some x1
def eH(a0:Int)(a1:Int)(a2:Int):Option (Int):=
  some (if(IntKind.wrap .i64 (a0-a1))>(IntKind.wrap .i64 (a2-a0))then(IntKind.wrap .i64 (a0-a1))else(IntKind.wrap .i64 (a2-a0)))
def gu(a0:ai)(a1:aa):Option (Int):=
  (bI a0).bind fun x1=>if(!x1)=true then(some 0)else((cW a1).bind fun x3=>if(!x3)=true then(some 0)else((bF a0.aK).bind fun x5=>(bF a0.aG).bind fun x6=>(bF a1).bind fun x7=>(eH x7.a0 x5.a0 x6.a0).bind fun x8=>(eH x7.a1 x5.a1 x6.a1).bind fun x9=>(eH x7.a2 x5.a2 x6.a2).bind fun x10=>some (IntKind.wrap .i64 ((IntKind.wrap .i64 ((IntKind.wrap .i64 (0+(IntKind.wrap .i64 (x8*x8))))+(IntKind.wrap .i64 (x9*x9))))+(IntKind.wrap .i64 (x10*x10))))))
def gP(a0:ai)(a1:aa):Option (Int):=
  (gu a0 a1).bind fun x1=>some x1
def jM(a0:aF)(a1:ai)(a2:aa):Option (aF×Int×Int):=
  (fc a1 a2).bind fun x1=>(gP a1 a2).bind fun x2=>some (a0,x1,x2)
def iw(j3:Int)(j4:Int):Option (Int):=
  if(decide (j3>=256))=true then((wb [0,1,2,2,3,3,3,3,4,4,4,4,4,4,4,4,5,5,5,5,5,5,5,5,5,5,5,5,5,5,5,5,6,6,6,6,6,6,6,6,6,6,6,6,6,6,6,6,6,6,6,6,6,6,6,6,6,6,6,6,6,6,6,6,7,7,7,7,7,7,7,7,7,7,7,7,7,7,7,7,7,7,7,7,7,7,7,7,7,7,7,7,7,7,7,7,7,7,7,7,7,7,7,7,7,7,7,7,7,7,7,7,7,7,7,7,7,7,7,7,7,7,7,7,7,7,7,7,8,8,8,8,8,8,8,8,8,8,8,8,8,8,8,8,8,8,8,8,8,8,8,8,8,8,8,8,8,8,8,8,8,8,8,8,8,8,8,8,8,8,8,8,8,8,8,8,8,8,8,8,8,8,8,8,8,8,8,8,8,8,8,8,8,8,8,8,8,8,8,8,8,8,8,8,8,8,8,8,8,8,8,8,8,8,8,8,8,8,8,8,8,8,8,8,8,8,8,8,8,8,8,8,8,8,8,8,8,8,8,8,8,8,8,8,8,8,8,8,8,8,8,8,8,8,8,8] (IntKind.wrap .u8 (mu .u64 j3 8))).bind fun x6=>some (IntKind.wrap .i64 ((IntKind.wrap .i64 (j4+8))+(IntKind.wrap .i64 x6))))else((wb [0,1,2,2,3,3,3,3,4,4,4,4,4,4,4,4,5,5,5,5,5,5,5,5,5,5,5,5,5,5,5,5,6,6,6,6,6,6,6,6,6,6,6,6,6,6,6,6,6,6,6,6,6,6,6,6,6,6,6,6,6,6,6,6,7,7,7,7,7,7,7,7,7,7,7,7,7,7,7,7,7,7,7,7,7,7,7,7,7,7,7,7,7,7,7,7,7,7,7,7,7,7,7,7,7,7,7,7,7,7,7,7,7,7,7,7,7,7,7,7,7,7,7,7,7,7,7,7,8,8,8,8,8,8,8,8,8,8,8,8,8,8,8,8,8,8,8,8,8,8,8,8,8,8,8,8,8,8,8,8,8,8,8,8,8,8,8,8,8,8,8,8,8,8,8,8,8,8,8,8,8,8,8,8,8,8,8,8,8,8,8,8,8,8,8,8,8,8,8,8,8,8,8,8,8,8,8,8,8,8,8,8,8,8,8,8,8,8,8,8,8,8,8,8,8,8,8,8,8,8,8,8,8,8,8,8,8,8,8,8,8,8,8,8,8,8,8,8,8,8,8,8,8,8,8,8] (IntKind.wrap .u8 j3)).bind fun x7=>some (IntKind.wrap .i64 (j4+(IntKind.wrap .i64 x7))))
def gp(j1:Int)(j2:Int):Option (Int):=
  if(decide (j1>=65536))=true then(iw (mu .u64 j1 16) (IntKind.wrap .i64 (j2+16)))else(iw j1 j2)
def mT(a0:Int):Option (Int):=
  if(decide (a0>=4294967296))=true then(gp (mu .u64 a0 32) 32)else(gp a0 0)
def fG(a0:Int):Option (Int):=
  (mT a0).bind fun x1=>some x1
def gQ(a0:Int):(Int×Int)->Option (gD (Int×Int) (Int)):=fun(s5,s6)=>
  if(decide (s6>0))=true then((sl .i64 a0 (orI .i64 s5 s6)).bind fun x10=>if(decide ((orI .i64 s5 s6)<=x10))=true then(some (.next ((orI .i64 s5 s6),(mu .i64 s6 1))))else(some (.next (s5,(mu .i64 s6 1)))))else(some (.stop s5))
def fk(a0:Int):Option (Int):=
  if(decide (a0<=0))=true then(some 0)else((fG (IntKind.wrap .u64 a0)).bind fun x2=>(sl .i64 (IntKind.wrap .i64 (x2-1)) 2).bind fun x3=>(xC .i64 1 x3).bind fun x4=>(eO (gQ a0) (0,x4)).bind fun o13=>some o13)
def iA(a0:Int):Option (Int):=
  (fk a0).bind fun x1=>if(decide ((IntKind.wrap .i64 (x1*x1))<a0))=true then(some (IntKind.wrap .i64 (x1+1)))else(some x1)
def lf(a0:aF):Option (Int):=
  some (IntKind.wrap .i64 (a0.bp*(IntKind.wrap .i64 ((a0.aK.length:Int)-1))))
def gm(a0:Int)(d0:aF)(d1:Int):Option (Bool):=
  some (decide ((IntKind.wrap .i64 (a0*d0.bp))>=d1))
def gl(d0:aF)(d1:Int):(Int×Int)->Option (gD (Int×Int) (Int)):=fun(s1,s2)=>
  if(decide (s1<s2))=true then((gm (IntKind.wrap .i64 (mu .u64 (IntKind.wrap .u64 (IntKind.wrap .i64 (s1+s2))) 1)) d0 d1).bind fun x6=>if(!x6)=true then(some (.next ((IntKind.wrap .i64 ((IntKind.wrap .i64 (mu .u64 (IntKind.wrap .u64 (IntKind.wrap .i64 (s1+s2))) 1))+1)),s2)))else(some (.next (s1,(IntKind.wrap .i64 (mu .u64 (IntKind.wrap .u64 (IntKind.wrap .i64 (s1+s2))) 1))))))else(some (.stop s1))
def dJ(a0:Int)(d0:aF)(d1:Int):Option (Int):=
  (eO (gl d0 d1) (0,a0)).bind fun o9=>some o9
def cf(a0:aF)(a1:Int)(a2:Int):Option (Int×Int×Int):=
  (cN a0).bind fun x1=>if(x1 != 0)=true then(some (0,0,21))else(if(decide (a1<0))=true then(some (0,0,2))else(if(decide (a1>a2))=true then(some (0,0,2))else((iA a2).bind fun x5=>(lf a0).bind fun x6=>if(decide (x5>x6))=true then(some (0,0,22))else((dJ (a0.aG.length:Int) a0 x5).bind fun x8=>(fk a1).bind fun x9=>(sl .i64 x9 a0.bp).bind fun x10=>(fV a0.aK x10).bind fun x11=>(fV a0.aG x8).bind fun x12=>some (x11,x12,0)))))
def gq(a0:aF)(a1:ai)(a2:aa):Option (Int×Int×Int):=
  (cN a0).bind fun x1=>if(x1 != 0)=true then(some (0,0,x1))else((bI a1).bind fun x3=>if(!x3)=true then(some (0,0,20))else((cW a2).bind fun x5=>if(!x5)=true then(some (0,0,20))else((jM a0 a1 a2).bind fun x7=>(cf x7.1 x7.2.1 x7.2.2).bind fun x8=>some (x8.1,x8.2.1,x8.2.2))))
def dN(a0:aF)(a1:ai)(a2:al):Option (aL×Int):=
  (cN a0).bind fun x1=>if(x1 != 0)=true then(some ((aL.mk 0 0),x1))else((bI a1).bind fun x3=>if(!x3)=true then(some ((aL.mk 0 0),20))else((dX a2).bind fun x5=>if(!x5)=true then(some ((aL.mk 0 0),23))else((gq a0 a1 a2.aM).bind fun x7=>if(x7.2.2 != 0)=true then(some ((aL.mk 0 0),x7.2.2))else(some ((aL.mk (IntKind.wrap .i64 (a2.aP-x7.2.1)) (IntKind.wrap .i64 (a2.bh-x7.1))),0)))))
def dc(a1:(List al))(a0:aJ):Int->Option (gD (Int) ((Unit)⊕(Int))):=fun s16=>
  if(decide (s16<(a1.length:Int)))=true then((fV a1 s16).bind fun x19=>(dN a0.bi a0.aN x19).bind fun x20=>if(x20.2 != 0)=true then(some (.stop (.inr x20.2)))else(some (.next (IntKind.wrap .i64 (s16+1)))))else(some (.stop (.inl ())))
def dy(a0:aJ)(a1:(List al)):Option (Int):=
  (bI a0.aN).bind fun x1=>if(!x1)=true then(some 27)else((cN a0.bi).bind fun x3=>if(x3 != 0)=true then(some 27)else((d9 a0.cJ 1 1099511627776).bind fun x5=>if(!x5)=true then(some 27)else((d9 a0.bw 0 1099511627776).bind fun x7=>if(!x7)=true then(some 27)else((d9 a0.eN 0 1099511627776).bind fun x9=>if(!x9)=true then(some 27)else((d9 a0.dx 0 1099511627776).bind fun x11=>if(!x11)=true then(some 27)else((d9 a0.cm 2 16).bind fun x13=>if(!x13)=true then(some 27)else(if(decide ((a1.length:Int)>256))=true then(some 8)else((eO (dc a1 a0) 0).bind fun o23=>match o23 with| .inl _=>(some 0)| .inr r25=>(some r25)))))))))
def c7(a0:bu):Option (Bool):=
  (cN a0.bG).bind fun x1=>if(x1==0)=true then(if(decide (a0.bn>=0))=true then(if(decide (a0.bn<=65536))=true then(if(decide (a0.bg>=1))=true then(some (decide (a0.bg<=65536)))else(some false))else(some false))else(some false))else(some false)
def eJ(a0:ak):Option (Int):=
  (dy a0.ag []).bind fun x1=>if(x1 != 0)=true then(some 27)else((c7 a0.cq).bind fun x3=>if(!x3)=true then(some 27)else(if(decide (a0.bw<0))=true then(some 27)else(if(decide (a0.bw>1099511627776))=true then(some 27)else(some 0))))
def mI(a0:Int):Option (Bool):=
  if(decide (a0>=65))=true then(if(decide (a0<=90))=true then(some true)else(if(decide (a0>=48))=true then(some (decide (a0<=57)))else(some false)))else(if(decide (a0>=48))=true then(some (decide (a0<=57)))else(some false))
def jn(a0:(List UInt8)):Int->Option (gD (Int) ((Unit)⊕(Bool))):=fun s1=>
  if(decide (s1<(a0.length:Int)))=true then((wb a0 s1).bind fun x4=>(mI x4).bind fun x5=>if(!x5)=true then(some (.stop (.inr false)))else(some (.next (IntKind.wrap .i64 (s1+1)))))else(some (.stop (.inl ())))
def f9(a0:(List UInt8))(a1:Int)(a2:Int):Option (Bool):=
  (eO (jn a0) 0).bind fun o8=>match o8 with| .inl _=>(if(decide ((a0.length:Int)>=a1))=true then(some (decide ((a0.length:Int)<=a2)))else(some false))| .inr r10=>(some r10)
def ie(a0:aw):Option (Bool):=
  (f9 a0.aY 1 2).bind fun x1=>if x1=true then((f9 a0.aM 1 5).bind fun x3=>if x3=true then((f9 a0.aj 0 2).bind fun x5=>if x5=true then(if((a0.aj.length:Int) != 1)=true then((f9 a0.a7 3 3).bind fun x8=>some x8)else(some false))else(some false))else(some false))else(some false)
def qm(a0:Int)(a1:Int)(a2:Int):Option (Bool):=
  if(decide (a0>=a1))=true then(some (decide (a0<=a2)))else(some false)
def rate_gcd_l7:(Int×Int)->Option (gD (Int×Int) (Int)):=fun(s1,s2)=>
  if(s2 != 0)=true then((wu s1 s2).bind fun x6=>some (.next (s2,x6)))else(some (.stop s1))
def pV(a0:Int)(a1:Int):Option (Int):=
  (eO (rate_gcd_l7) (a0,a1)).bind fun o8=>some o8
def lC(a0:bv):Option (Bool):=
  (qm a0.bn 1 4096).bind fun x1=>if x1=true then((qm a0.bg 1 4096).bind fun x3=>if x3=true then((pV a0.bn a0.bg).bind fun x5=>some (x5==1))else(some false))else(some false)
def bC(a0:Int)(a1:Int)(a2:Int):Option (Bool):=
  if(decide (a0>=a1))=true then(some (decide (a0<=a2)))else(some false)
def jH(a0:Int):Option (Bool):=
  (bC a0 (-1048576) 1048576).bind fun x1=>some (!x1)
def dw(a0:(List Int)):Int->Option (gD (Int) ((Unit)⊕(Int))):=fun s1=>
  if(decide (s1<(a0.length:Int)))=true then((fV a0 s1).bind fun x4=>(jH x4).bind fun x5=>if x5=true then(some (.stop (.inr s1)))else(some (.next (IntKind.wrap .i64 (s1+1)))))else(some (.stop (.inl ())))
def dh(a0:(List Int)):Option (Int):=
  (eO (dw a0) 0).bind fun o8=>match o8 with| .inl _=>(some (-1))| .inr r10=>(some r10)
def cL(a0:(List Int)):Option (Bool):=
  (dh a0).bind fun x1=>some (decide (x1>=0))
def cx(a0:(List Int)):Option (Bool):=
  (cL a0).bind fun x1=>some (!x1)
def mi(a0:(List Int)):(Int×Int)->Option (gD (Int×Int) (Int)):=fun(s1,s2)=>
  if(decide (s2<(a0.length:Int)))=true then((fV a0 s2).bind fun x6=>some (.next ((IntKind.wrap .i64 (s1+x6)),(IntKind.wrap .i64 (s2+1)))))else(some (.stop s1))
def dP(a0:(List Int)):Option (Int):=
  (eO (mi a0) (0,0)).bind fun o8=>some o8
def cS(a0:aH):Option (Bool):=
  if((a0.ch.length:Int)==0)=true then(if(a0.bS==0)=true then(if(a0.db==0)=true then(if(a0.ca==0)=true then(if((a0.bn.a0==a0.bn.a0)&&((a0.bn.a1==0)&&((a0.bn.a2==0)&&true)))=true then(if((a0.bg.a0==a0.bg.a0)&&((a0.bg.a1==0)&&((a0.bg.a2==0)&&true)))=true then((bC a0.bn.a0 1 1048576).bind fun x7=>if x7=true then((bC a0.bg.a0 1 1048576).bind fun x9=>some x9)else(some false))else(some false))else(some false))else(some false))else(if(a0.db==1)=true then(if(a0.ca==0)=true then((cx [a0.bn.a0,a0.bn.a1,a0.bn.a2]).bind fun x12=>if x12=true then((cx [a0.bg.a0,a0.bg.a1,a0.bg.a2]).bind fun x14=>if x14=true then(some (a0.bg.a0 != 0))else(some false))else(some false))else(some false))else(if(a0.db==2)=true then(if((a0.bn.a0==0)&&((a0.bn.a1==0)&&((a0.bn.a2==0)&&true)))=true then(if((a0.bg.a0==0)&&((a0.bg.a1==0)&&((a0.bg.a2==0)&&true)))=true then((bC (a0.ch.length:Int) 1 128).bind fun x19=>if x19=true then((cx a0.ch).bind fun x21=>if x21=true then((dP a0.ch).bind fun x23=>if(x23 != 0)=true then((bC a0.bS 1 64).bind fun x25=>if x25=true then((bC a0.ca 0 40).bind fun x27=>some x27)else(some false))else(some false))else(some false))else(some false))else(some false))else(some false))else(some false))))else(if(a0.db==0)=true then(some false)else(if(a0.db==1)=true then(some false)else(if(a0.db==2)=true then(if((a0.bn.a0==0)&&((a0.bn.a1==0)&&((a0.bn.a2==0)&&true)))=true then(if((a0.bg.a0==0)&&((a0.bg.a1==0)&&((a0.bg.a2==0)&&true)))=true then((bC (a0.ch.length:Int) 1 128).bind fun x33=>if x33=true then((cx a0.ch).bind fun x35=>if x35=true then((dP a0.ch).bind fun x37=>if(x37 != 0)=true then((bC a0.bS 1 64).bind fun x39=>if x39=true then((bC a0.ca 0 40).bind fun x41=>some x41)else(some false))else(some false))else(some false))else(some false))else(some false))else(some false))else(some false)))))else(if(a0.db==0)=true then(some false)else(if(a0.db==1)=true then(some false)else(if(a0.db==2)=true then(if((a0.bn.a0==0)&&((a0.bn.a1==0)&&((a0.bn.a2==0)&&true)))=true then(if((a0.bg.a0==0)&&((a0.bg.a1==0)&&((a0.bg.a2==0)&&true)))=true then((bC (a0.ch.length:Int) 1 128).bind fun x47=>if x47=true then((cx a0.ch).bind fun x49=>if x49=true then((dP a0.ch).bind fun x51=>if(x51 != 0)=true then((bC a0.bS 1 64).bind fun x53=>if x53=true then((bC a0.ca 0 40).bind fun x55=>some x55)else(some false))else(some false))else(some false))else(some false))else(some false))else(some false))else(some false))))
def eR(a0:aH):Option (Bool):=
  (cS a0).bind fun x1=>some (!x1)
def cy(a0:(List aH)):Int->Option (gD (Int) ((Unit)⊕(Int))):=fun s1=>
  if(decide (s1<(a0.length:Int)))=true then((fV a0 s1).bind fun x4=>(eR x4).bind fun x5=>if x5=true then(some (.stop (.inr s1)))else(some (.next (IntKind.wrap .i64 (s1+1)))))else(some (.stop (.inl ())))
def cV(a0:(List aH)):Option (Int):=
  (eO (cy a0) 0).bind fun o8=>match o8 with| .inl _=>(some (-1))| .inr r10=>(some r10)
def cb(a0:(List aH)):Option (Bool):=
  (cV a0).bind fun x1=>some (decide (x1>=0))
def ib(a0:(List aH)):(Int×Int)->Option (gD (Int×Int) ((Int)⊕(Int))):=fun(s1,s2)=>
  if(decide (s2<(a0.length:Int)))=true then((fV a0 s2).bind fun x6=>if(x6.db != 2)=true then(some (.next (s1,(IntKind.wrap .i64 (s2+1)))))else(if(decide ((IntKind.wrap .i64 (s1*x6.bS))>64))=true then(some (.stop (.inr 0)))else(some (.next ((IntKind.wrap .i64 (s1*x6.bS)),(IntKind.wrap .i64 (s2+1)))))))else(some (.stop (.inl s1)))
def fC(a0:(List aH)):Option (Int):=
  (eO (ib a0) (1,0)).bind fun o10=>match o10 with| .inl y11=>(some y11)| .inr r12=>(some r12)
def fo(a0:aO):Option (Bool):=
  if(decide ((a0.bt.length:Int)>8))=true then(some false)else((cb a0.bt).bind fun x2=>if x2=true then(some false)else((fC a0.bt).bind fun x4=>some (decide (x4>0))))
def du(a0:Int)(a1:Int)(a2:Int):Option (Bool):=
  if(decide (a0>=a1))=true then(some (decide (a0<=a2)))else(some false)
def dH(a0:aA):Option (Bool):=
  if(decide (a0.bB>=0))=true then(if(decide (a0.bB<a0.fTo))=true then(if(decide (a0.fTo<=9007199254740992))=true then((lC a0.dn).bind fun x4=>if x4=true then((fo a0.bD).bind fun x6=>if x6=true then((du a0.aZ.fX (-1048576) 1048576).bind fun x8=>if x8=true then((du a0.aZ.fY (-1048576) 1048576).bind fun x10=>if x10=true then((du a0.aZ.fZ (-16384) 1048576).bind fun x12=>some x12)else(some false))else(some false))else(some false))else(some false))else(some false))else(some false))else(some false)
def ej(a0:(List aA)):Int->Option (gD (Int) ((Unit)⊕(Bool))):=fun s1=>
  if(decide (s1<(a0.length:Int)))=true then((fV a0 s1).bind fun x4=>(dH x4).bind fun x5=>if(!x5)=true then(some (.stop (.inr false)))else(if(decide (s1>0))=true then((fV a0 (IntKind.wrap .i64 (s1-1))).bind fun x8=>if(decide (x4.bB<x8.fTo))=true then(some (.stop (.inr false)))else(some (.next (IntKind.wrap .i64 (s1+1)))))else(some (.next (IntKind.wrap .i64 (s1+1))))))else(some (.stop (.inl ())))
def fi(a0:(List aA)):Option (Bool):=
  (eO (ej a0) 0).bind fun o11=>match o11 with| .inl _=>((du (a0.length:Int) 1 32).bind fun x14=>some x14)| .inr r13=>(some r13)
def gt(a0:(List UInt8)):Option (Bool):=
  some (!(a0==a0))
def b7(a0:(List UInt8))(a1:(List UInt8)):Option (Int):=
  (gt a0).bind fun x1=>(gt a1).bind fun x2=>if x1=true then(if x2=true then(some 0)else(some (-1)))else(if x2=true then(some 1)else(if(Op.bytesLess a0 a1)=true then(some (-1))else(if(!(Op.bytesLess a0 a1||a0==a1))=true then(some 1)else(some 0))))
def dM(a0:(List Int)):Int->Option (gD (Int) ((Unit)⊕(Int))):=fun s1=>
  if(decide (s1<(a0.length:Int)))=true then((fV a0 s1).bind fun x4=>if(x4 != 0)=true then(some (.stop (.inr x4)))else(some (.next (IntKind.wrap .i64 (s1+1)))))else(some (.stop (.inl ())))
def cH(a0:(List Int)):Option (Int):=
  (eO (dM a0) 0).bind fun o7=>match o7 with| .inl _=>(some 0)| .inr r9=>(some r9)
def eC(a0:aw)(a1:aw):Option (Int):=
  (b7 a0.aY a1.aY).bind fun x1=>(b7 a0.aM a1.aM).bind fun x2=>(b7 a0.aj a1.aj).bind fun x3=>(b7 a0.a7 a1.a7).bind fun x4=>(cH [x1,x2,x3,x4]).bind fun x5=>some x5
def eQ(a0:aq):Int->Option (gD (Int) ((Unit)⊕(Bool))):=fun s1=>
  if(decide (s1<(a0.aI.length:Int)))=true then((fV a0.aI s1).bind fun x4=>(ie x4.aC).bind fun x5=>if(!x5)=true then(some (.stop (.inr false)))else((fi x4.bA).bind fun x7=>if(!x7)=true then(some (.stop (.inr false)))else(if(decide (s1>0))=true then((fV a0.aI (IntKind.wrap .i64 (s1-1))).bind fun x10=>(eC x10.aC x4.aC).bind fun x11=>if(decide (x11>=0))=true then(some (.stop (.inr false)))else(some (.next (IntKind.wrap .i64 (s1+1)))))else(some (.next (IntKind.wrap .i64 (s1+1)))))))else(some (.stop (.inl ())))
def c9(a0:aq):Option (Bool):=
  (eO (eQ a0) 0).bind fun o14=>match o14 with| .inl _=>(some (decide ((a0.aI.length:Int)<=128)))| .inr r16=>(some r16)
def ec(a0:Int):Option (Bool):=
  some (a0 != a0)
def bN(a0:Int)(a1:Int):Option (Int):=
  (ec a0).bind fun x1=>(ec a1).bind fun x2=>if x1=true then(if x2=true then(some 0)else(some (-1)))else(if x2=true then(some 1)else(if(decide (a0<a1))=true then(some (-1))else(if(decide (a0>a1))=true then(some 1)else(some 0))))
def ce(a0:ac)(a1:ac):Option (Int):=
  (eC a0.aC a1.aC).bind fun x1=>(bN a0.a8 a1.a8).bind fun x2=>(bN a0.aP a1.aP).bind fun x3=>(bN a0.bh a1.bh).bind fun x4=>(bN a0.aS a1.aS).bind fun x5=>(bN a0.aT a1.aT).bind fun x6=>(cH [x1,x2,x3,x4,x5,x6]).bind fun x7=>some x7
def gG(s2:Int)(d0:(List ac)):(Int×Int×(List ac))->Option (gD (Int×Int×(List ac)) (Int×(List ac))):=fun(s13,s14,s15)=>
  (lenV s15.length (0+(s2:Int).toNat) (0+((d0.length:Int):Int).toNat)).bind fun x19=>if(decide (s14<x19))=true then((inV s15.length (0+(s2:Int).toNat) (0+((d0.length:Int):Int).toNat) s14).bind fun _=>(fV s15 (((0+(s2:Int).toNat)+(s14:Int).toNat:Nat):Int)).bind fun x22=>(inV s15.length (0+(s2:Int).toNat) (0+((d0.length:Int):Int).toNat) (IntKind.wrap .i64 (s14-1))).bind fun _=>(fV s15 (((0+(s2:Int).toNat)+((IntKind.wrap .i64 (s14-1)):Int).toNat:Nat):Int)).bind fun x24=>if(!(((x22.aC.aY==x24.aC.aY)&&((x22.aC.aM==x24.aC.aM)&&((x22.aC.aj==x24.aC.aj)&&((x22.aC.a7==x24.aC.a7)&&true))))&&((x22.a8==x24.a8)&&((x22.aP==x24.aP)&&((x22.bh==x24.bh)&&((x22.aS==x24.aS)&&((x22.aT==x24.aT)&&true)))))))=true then((inV s15.length (0+(s2:Int).toNat) (0+((d0.length:Int):Int).toNat) s14).bind fun _=>(fV s15 (((0+(s2:Int).toNat)+(s14:Int).toNat:Nat):Int)).bind fun x27=>(inO s15 s13).bind fun _=>(ta s15 s13 x27).bind fun x30=>some (.next ((IntKind.wrap .i64 (s13+1)),(IntKind.wrap .i64 (s14+1)),x30)))else(some (.next (s13,(IntKind.wrap .i64 (s14+1)),s15))))else(some (.stop (s13,s15)))
def gH(d0:(List ac)):Int->Option (gD (Int) ((Unit)⊕((List ac)))):=fun s2=>
  if(decide (s2<(d0.length:Int)))=true then((inO d0 s2).bind fun _=>(fV d0 s2).bind fun x7=>(inO d0 (IntKind.wrap .i64 (s2-1))).bind fun _=>(fV d0 (IntKind.wrap .i64 (s2-1))).bind fun x10=>if(((x7.aC.aY==x10.aC.aY)&&((x7.aC.aM==x10.aC.aM)&&((x7.aC.aj==x10.aC.aj)&&((x7.aC.a7==x10.aC.a7)&&true))))&&((x7.a8==x10.a8)&&((x7.aP==x10.aP)&&((x7.bh==x10.bh)&&((x7.aS==x10.aS)&&((x7.aT==x10.aT)&&true))))))=true then((wv d0.length s2 (d0.length:Int)).bind fun _=>(eO (gG s2 d0) (s2,1,d0)).bind fun o32=>(wv o32.2.length o32.1 (o32.2.length:Int)).bind fun _=>(yw o32.2.length (0+(o32.1:Int).toNat) (0+((o32.2.length:Int):Int).toNat)).bind fun _=>(wv (uu o32.2 (0+(o32.1:Int).toNat) ((0+((o32.2.length:Int):Int).toNat)-(0+(o32.1:Int).toNat)) (ac.mk (aw.mk [] [] [] []) 0 0 0 0 0)).length 0 o32.1).bind fun _=>(wo (uu o32.2 (0+(o32.1:Int).toNat) ((0+((o32.2.length:Int):Int).toNat)-(0+(o32.1:Int).toNat)) (ac.mk (aw.mk [] [] [] []) 0 0 0 0 0)) (0+(0:Int).toNat) (0+(o32.1:Int).toNat)).bind fun x37=>some (.stop (.inr x37)))else(some (.next (IntKind.wrap .i64 (s2+1)))))else(some (.stop (.inl ())))
def eS(d0:(List ac)):Option ((List ac)):=
  if(decide ((d0.length:Int)<2))=true then(some d0)else((eO (gH d0) 1).bind fun o39=>match o39 with| .inl _=>(some d0)| .inr r41=>(some r41))
def dI(a0:(List ac)):Option ((List ac)):=
  (sf 104 a0).bind fun x1=>(wO ce x1).bind fun x2=>(eS x2).bind fun x3=>some x3
def jz(a0:Int)(a1:Int)(a2:Int):Option (Bool):=
  if(decide (a0>=a1))=true then(some (decide (a0<=a2)))else(some false)
def fj(a0:ac):Option (Bool):=
  (ie a0.aC).bind fun x1=>if x1=true then(if(decide (a0.aP>=0))=true then(if(decide (a0.aP<=a0.a8))=true then(if(decide (a0.a8<=a0.bh))=true then(if(decide (a0.bh<=18014398509481984))=true then((jz a0.aS 0 1073741823).bind fun x7=>if x7=true then((jz a0.aT (-1) 1).bind fun x9=>some x9)else(some false))else(some false))else(some false))else(some false))else(some false))else(some false)
def eI(x1:(List aH)):(Int×(List aH))->Option (gD (Int×(List aH)) ((List aH))):=fun(s2,s3)=>
  if(decide (s2<(x1.length:Int)))=true then((inO s3 s2).bind fun _=>(fV s3 s2).bind fun x9=>(sf 8 x9.ch).bind fun x10=>(inO s3 s2).bind fun _=>(modO s3 s2 (fun(z14:aH)=>(aH.mk z14.db z14.bn z14.bg x10 z14.bS z14.ca))).bind fun x13=>some (.next ((IntKind.wrap .i64 (s2+1)),x13)))else(some (.stop s3))
def dU(a0:aA):Option (aA):=
  (sf 96 a0.bD.bt).bind fun x1=>(eO (eI x1) (0,x1)).bind fun o16=>some (aA.mk a0.bB a0.fTo a0.dn a0.aZ (aO.mk o16))
def ei(x1:(List aA)):(Int×(List aA))->Option (gD (Int×(List aA)) ((List aA))):=fun(s2,s3)=>
  if(decide (s2<(x1.length:Int)))=true then((inO s3 s2).bind fun _=>(fV s3 s2).bind fun x9=>(dU x9).bind fun x10=>(inO s3 s2).bind fun _=>(ta s3 s2 x10).bind fun x13=>some (.next ((IntKind.wrap .i64 (s2+1)),x13)))else(some (.stop s3))
def fh(a0:ar):Option (ar):=
  (sf 80 a0.bA).bind fun x1=>(eO (ei x1) (0,x1)).bind fun o15=>some (ar.mk a0.aC o15)
def fJ(a0:aq)(a1:aw):Int->Option (gD (Int) ((Unit)⊕(ar×Bool))):=fun s1=>
  if(decide (s1<(a0.aI.length:Int)))=true then((fV a0.aI s1).bind fun x4=>if((x4.aC.aY==a1.aY)&&((x4.aC.aM==a1.aM)&&((x4.aC.aj==a1.aj)&&((x4.aC.a7==a1.a7)&&true))))=true then((fh x4).bind fun x6=>some (.stop (.inr (x6,true))))else(some (.next (IntKind.wrap .i64 (s1+1)))))else(some (.stop (.inl ())))
def gw(a0:aq)(a1:aw):Option (ar×Bool):=
  (eO (fJ a0 a1) 0).bind fun o8=>match o8 with| .inl _=>(some ((ar.mk (aw.mk [] [] [] []) []),false))| .inr r10=>(some r10)
def jY(a0:ar)(a1:Int):Int->Option (gD (Int) ((Unit)⊕(aA×Bool))):=fun s1=>
  if(decide (s1<(a0.bA.length:Int)))=true then((fV a0.bA s1).bind fun x4=>if(decide (x4.bB<=a1))=true then(if(decide (a1<x4.fTo))=true then(some (.stop (.inr (x4,true))))else(some (.next (IntKind.wrap .i64 (s1+1)))))else(some (.next (IntKind.wrap .i64 (s1+1)))))else(some (.stop (.inl ())))
def jv(a0:ar)(a1:Int):Option (aA×Bool):=
  (eO (jY a0 a1) 0).bind fun o8=>match o8 with| .inl _=>(some ((aA.mk 0 0 (bv.mk 0 0) (aa.mk 0 0 0) (aO.mk [])),false))| .inr r10=>(some r10)
def ju(a0:aq)(a1:aw)(a2:Int):Option (aA×Int):=
  (c9 a0).bind fun x1=>if(!x1)=true then(some ((aA.mk 0 0 (bv.mk 0 0) (aa.mk 0 0 0) (aO.mk [])),1))else((gw a0 a1).bind fun x3=>(jv x3.1 a2).bind fun x4=>if(!x4.2)=true then(some ((aA.mk 0 0 (bv.mk 0 0) (aa.mk 0 0 0) (aO.mk [])),6))else(some (x4.1,0)))
def cQ(a0:ak)(a1:aq)(a2:ac):Option (al×aA×Bool):=
  (fj a2).bind fun x1=>if(!x1)=true then(some ((al.mk (aa.mk 0 0 0) 0 0 0),(aA.mk 0 0 (bv.mk 0 0) (aa.mk 0 0 0) (aO.mk [])),false))else((ju a1 a2.aC a2.a8).bind fun x3=>if(x3.2 != 0)=true then(some ((al.mk (aa.mk 0 0 0) 0 0 0),(aA.mk 0 0 (bv.mk 0 0) (aa.mk 0 0 0) (aO.mk [])),false))else((dN a0.ag.bi a0.ag.aN (al.mk x3.1.aZ a2.aP a2.bh 1)).bind fun x5=>if(x5.2 != 0)=true then(some ((al.mk (aa.mk 0 0 0) 0 0 0),(aA.mk 0 0 (bv.mk 0 0) (aa.mk 0 0 0) (aO.mk [])),false))else(some ((al.mk x3.1.aZ a2.aP a2.bh 1),x3.1,true))))
def ir(a0:ak)(a1:aq)(a2:ac):Option (al×Bool):=
  (eJ a0).bind fun x1=>if(x1 != 0)=true then(some ((al.mk (aa.mk 0 0 0) 0 0 0),false))else((c9 a1).bind fun x3=>if(!x3)=true then(some ((al.mk (aa.mk 0 0 0) 0 0 0),false))else((cQ a0 a1 a2).bind fun x5=>some (x5.1,x5.2.2)))
def lr(x5:(List ac))(a0:ak)(a1:aq):(Int×(List ac)×(List al))->Option (gD (Int×(List ac)×(List al)) ((List ac)×(List al))):=fun(s6,s7,s8)=>
  if(decide (s6<(x5.length:Int)))=true then((fV x5 s6).bind fun x13=>(ir a0 a1 x13).bind fun x14=>if x14.2=true then((qt s7 [x13] 104).bind fun x16=>(qt s8 [x14.1] 48).bind fun x17=>some (.next ((IntKind.wrap .i64 (s6+1)),x16,x17)))else(some (.next ((IntKind.wrap .i64 (s6+1)),s7,s8))))else(some (.stop (s7,s8)))
def kS(a0:ak)(a1:aq)(a2:(List ac)):Option ((List ac)×(List al)×Int):=
  (eJ a0).bind fun x1=>if(x1 != 0)=true then(some (([]:(List ac)),([]:(List al)),27))else((c9 a1).bind fun x3=>if(!x3)=true then(some (([]:(List ac)),([]:(List al)),1))else((dI a2).bind fun x5=>(eO (lr x5 a0 a1) (0,([]:(List ac)),([]:(List al)))).bind fun o19=>if(decide ((o19.1.length:Int)>256))=true then(some (([]:(List ac)),([]:(List al)),8))else(some (o19.1,o19.2,0))))
def dY(a0:aa)(a1:aa):Option (Int):=
  (bN a0.fX a1.fX).bind fun x1=>(bN a0.fY a1.fY).bind fun x2=>(bN a0.fZ a1.fZ).bind fun x3=>(cH [x1,x2,x3]).bind fun x4=>some x4
def iM(a0:al)(a1:al):Option (Int):=
  (bN a0.aP a1.aP).bind fun x1=>(bN a0.bh a1.bh).bind fun x2=>(dY a0.aM a1.aM).bind fun x3=>(bN a0.bH a1.bH).bind fun x4=>(cH [x1,x2,x3,x4]).bind fun x5=>some x5
def fF(a0:Int)(a1:Int)(d0:(List al)):Option (Int):=
  (fV d0 a0).bind fun x1=>(fV d0 a1).bind fun x2=>(iM x1 x2).bind fun x3=>some x3
def iK(a0:Int)(d1:(List al))(s1:Int):(Int×(List Int))->Option (gD (Int×(List Int)) (Int×(List Int))):=fun(s5,s6)=>
  if(decide (s5>a0))=true then((inO s6 s5).bind fun _=>(fV s6 s5).bind fun x13=>(inO s6 (IntKind.wrap .i64 (s5-1))).bind fun _=>(fV s6 (IntKind.wrap .i64 (s5-1))).bind fun x16=>(fF x13 x16 d1).bind fun x17=>if(decide (x17<0))=true then((inO s6 (IntKind.wrap .i64 (s5-1))).bind fun _=>(fV s6 (IntKind.wrap .i64 (s5-1))).bind fun x21=>(inO s6 s5).bind fun _=>(fV s6 s5).bind fun x24=>(inO s6 s5).bind fun _=>(ta s6 s5 x21).bind fun x27=>(inO x27 (IntKind.wrap .i64 (s5-1))).bind fun _=>(ta x27 (IntKind.wrap .i64 (s5-1)) x24).bind fun x30=>some (.next ((IntKind.wrap .i64 (s5-1)),x30)))else(some (.stop (s1,s6))))else(some (.stop (s1,s6)))
def iL(a1:Int)(a0:Int)(d1:(List al)):(Int×(List Int))->Option (gD (Int×(List Int)) ((List Int))):=fun(s1,s2)=>
  if(decide (s1<a1))=true then((eO (iK a0 d1 s1) (s1,s2)).bind fun o32=>some (.next ((IntKind.wrap .i64 (o32.1+1)),o32.2)))else((some s2).bind fun z33=>some (.stop z33))
def ct(a0:Int)(a1:Int)(d0:(List Int))(d1:(List al)):Option ((List Int)):=
  (eO (iL a1 a0 d1) ((IntKind.wrap .i64 (a0+1)),d0)).bind fun o35=>some o35
def f5(a0:Int)(d1:(List al)):(Int×Int×(List Int))->Option (gD (Int×Int×(List Int)) (Int×(List Int))):=fun(s1,s2,s3)=>
  if(decide (s2<=a0))=true then((ct s1 s2 s3 d1).bind fun x8=>some (.next (s2,(IntKind.wrap .i64 (s2+20)),x8)))else(some (.stop (s1,s3)))
def kH(s12:Int)(a0:Int):Unit->Option (gD (Unit) (Int)):=fun _=>
  if(decide ((IntKind.wrap .i64 (2*s12))<=a0))=true then(none)else(some (.stop s12))
def fx(a0:Int)(x11:(List Int)):Int->Option (gD (Int) ((List Int))):=fun s12=>
  if(decide (s12<a0))=true then((eO (kH s12 a0) ()).bind fun o19=>if(decide ((IntKind.wrap .i64 (0+o19))<a0))=true then(none)else(some (.next (IntKind.wrap .i64 (o19*2)))))else((some x11).bind fun z21=>some (.stop z21))
def eB(a0:Int)(d0:(List Int))(d1:(List al)):Option ((List Int)):=
  (eO (f5 a0 d1) (0,20,d0)).bind fun o10=>(ct o10.1 a0 o10.2 d1).bind fun x11=>(eO (fx a0 x11) 20).bind fun o23=>some o23
def df(d0:(List Int))(d1:(List al)):Option ((List Int)):=
  (eB (d0.length:Int) d0 d1).bind fun x1=>some x1
def mo(x1:(List Int)):(Int×(List Int))->Option (gD (Int×(List Int)) ((List Int))):=fun(s2,s3)=>
  if(decide (s2<(x1.length:Int)))=true then((inO s3 s2).bind fun _=>(ta s3 s2 s2).bind fun x9=>some (.next ((IntKind.wrap .i64 (s2+1)),x9)))else(some (.stop s3))
def ij(a0:(List al)):Option ((List Int)):=
  (mkO (a0.length:Int) 0 8).bind fun x1=>(eO (mo x1) (0,x1)).bind fun o11=>(df o11 a0).bind fun x12=>some x12
def kM(a0:Int):(Int×(List Int)×(List Int))->Option (gD (Int×(List Int)×(List Int)) ((List Int)×(List Int))):=fun(s3,s4,s5)=>
  if(decide (s3<(IntKind.wrap .i64 (a0+1))))=true then((wu (IntKind.wrap .i64 (s3+1)) (IntKind.wrap .i64 (a0+1))).bind fun x10=>(wu (IntKind.wrap .i64 (s3+1)) (IntKind.wrap .i64 (a0+1))).bind fun x11=>(inO s4 s3).bind fun _=>(ta s4 s3 x11).bind fun x14=>(inO s5 x10).bind fun _=>(ta s5 x10 s3).bind fun x17=>some (.next ((IntKind.wrap .i64 (s3+1)),x14,x17)))else(some (.stop (s4,s5)))
def gM(a0:Int):Option (bz):=
  (mkO (IntKind.wrap .i64 (a0+1)) 0 8).bind fun x1=>(mkO (IntKind.wrap .i64 (a0+1)) 0 8).bind fun x2=>(eO (kM a0) (0,x1,x2)).bind fun o19=>some (bz.mk o19.1 o19.2)
def jq(a0:bz):Option (Int):=
  some (IntKind.wrap .i64 ((a0.nZ.length:Int)-1))
def cA(d0:(List Int))(d1:(List Int))(a3:(List Int))(a2:(List al))(x4:Int)(a1:aJ):(Int×(List Int))->Option (gD (Int×(List Int)) ((List Int))):=fun(s5,s6)=>
  (jq (bz.mk d0 d1)).bind fun x9=>if(s5 != x9)=true then(if(decide ((s6.length:Int)<16))=true then((fV a3 s5).bind fun x12=>(fV a2 x12).bind fun x13=>(fV a3 x4).bind fun x14=>(fV a2 x14).bind fun x15=>if(decide ((IntKind.wrap .i64 (x13.aP-x15.aP))<=a1.dx))=true then((qt s6 [s5] 8).bind fun x17=>(inO d0 s5).bind fun _=>(fV d0 s5).bind fun x20=>some (.next (x20,x17)))else(some (.stop s6)))else(some (.stop s6)))else(some (.stop s6))
def lO(a1:aJ)(a2:(List al))(a3:(List Int))(d0:(List Int))(d1:(List Int)):Option ((List Int)×(List Int)×(List Int)):=
  (jq (bz.mk d0 d1)).bind fun x1=>(inO d0 x1).bind fun _=>(fV d0 x1).bind fun x4=>(eO (cA d0 d1 a3 a2 x4 a1) (x4,([]:(List Int)))).bind fun o22=>some (o22,d0,d1)
def eE(a0:aJ)(a1:(List al)):Option (ah):=
  some (ah.mk a0.aN a0.bi a1 a0.cJ)
def mz(a0:ah):Int->Option (gD (Int) ((Unit)⊕(Int))):=fun s9=>
  if(decide (s9<(a0.bc.length:Int)))=true then((fV a0.bc s9).bind fun x12=>(dN a0.bi a0.aN x12).bind fun x13=>if(x13.2 != 0)=true then(some (.stop (.inr x13.2)))else(some (.next (IntKind.wrap .i64 (s9+1)))))else(some (.stop (.inl ())))
def ip(a0:ah):Option (Int):=
  (bI a0.aN).bind fun x1=>if(!x1)=true then(some 20)else((cN a0.bi).bind fun x3=>if(x3 != 0)=true then(some x3)else(if((a0.bc.length:Int)==0)=true then(some 24)else(if(decide ((a0.bc.length:Int)>64))=true then(some 8)else(if(decide (a0.cJ<1))=true then(some 2)else(if(decide (a0.cJ>1099511627776))=true then(some 2)else((eO (mz a0) 0).bind fun o16=>match o16 with| .inl _=>(some 0)| .inr r18=>(some r18)))))))
def fI(a0:ai)(a1:aa):Option (Bool):=
  (bI a0).bind fun x1=>if x1=true then((cW a1).bind fun x3=>if x3=true then((fc a0 a1).bind fun x5=>some (x5==0))else(some false))else(some false)
def jX(a0:ai)(a1:ai):Option (Bool):=
  (bI a0).bind fun x1=>if x1=true then((fI a1 a0.aK).bind fun x3=>if x3=true then((fI a1 a0.aG).bind fun x5=>some x5)else(some false))else(some false)
def lA(a0:ah)(a1:ai):(Int×(List aL))->Option (gD (Int×(List aL)) (((List aL))⊕((List aL)×Int))):=fun(s2,s3)=>
  if(decide (s2<(a0.bc.length:Int)))=true then((fV a0.bc s2).bind fun x7=>(dN a0.bi a1 x7).bind fun x8=>if(x8.2 != 0)=true then(some (.stop (.inr (([]:(List aL)),x8.2))))else((qt s3 [x8.1] 16).bind fun x10=>some (.next ((IntKind.wrap .i64 (s2+1)),x10))))else(some (.stop (.inl s3)))
def mG(a0:ah)(a1:ai):Option ((List aL)×Int):=
  (mkCO 0 (a0.bc.length:Int) (aL.mk 0 0) 16).bind fun x1=>(eO (lA a0 a1) (0,x1)).bind fun o12=>match o12 with| .inl y13=>(some (y13,0))| .inr r14=>(some r14)
def fQ(a0:ah)(a1:ai):Option ((List aL)×Int):=
  (ip a0).bind fun x1=>if(x1 != 0)=true then(some (([]:(List aL)),x1))else((jX a1 a0.aN).bind fun x3=>if(!x3)=true then(some (([]:(List aL)),20))else((mG a0 a1).bind fun x5=>some (x5.1,x5.2)))
def fA(a0:aL)(a1:Int):Option (Int):=
  some (if 0>(if(IntKind.wrap .i64 (a1-a0.fTo))>(IntKind.wrap .i64 (a0.bB-a1))then(IntKind.wrap .i64 (a1-a0.fTo))else(IntKind.wrap .i64 (a0.bB-a1)))then 0 else(if(IntKind.wrap .i64 (a1-a0.fTo))>(IntKind.wrap .i64 (a0.bB-a1))then(IntKind.wrap .i64 (a1-a0.fTo))else(IntKind.wrap .i64 (a0.bB-a1))))
def me(a0:ah)(a1:(List aL))(a2:Int):(Int×Int)->Option (gD (Int×Int) (Int)):=fun(s1,s2)=>
  if(decide (s2<(a0.bc.length:Int)))=true then((fV a0.bc s2).bind fun x6=>if(decide (s2<(a1.length:Int)))=true then((fV a1 s2).bind fun x8=>(fA x8 a2).bind fun x9=>some (.next ((IntKind.wrap .i64 (s1+(IntKind.wrap .i64 (x6.bH*(if x9<a0.cJ then x9 else a0.cJ))))),(IntKind.wrap .i64 (s2+1)))))else(some (.next (s1,(IntKind.wrap .i64 (s2+1))))))else(some (.stop s1))
def iY(a0:ah)(a1:(List aL))(a2:Int):Option (Int):=
  (eO (me a0 a1 a2) (0,0)).bind fun o11=>some o11
def m6(a1:(List aL)):(Int×(List Int))->Option (gD (Int×(List Int)) ((List Int))):=fun(s2,s3)=>
  if(decide (s2<(a1.length:Int)))=true then((fV a1 s2).bind fun x7=>(qt s3 [x7.bB,x7.fTo] 8).bind fun x8=>some (.next ((IntKind.wrap .i64 (s2+1)),x8)))else(some (.stop s3))
def md(x20:Int)(o10:(List Int))(a0:ah)(a1:(List aL)):(Int×Int×Int)->Option (gD (Int×Int×Int) (Int×Int)):=fun(s21,s22,s23)=>
  if(decide (s23<x20))=true then((inV o10.length (0+(1:Int).toNat) (0+((o10.length:Int):Int).toNat) s23).bind fun _=>(fV o10 (((0+(1:Int).toNat)+(s23:Int).toNat:Nat):Int)).bind fun x29=>(iY a0 a1 x29).bind fun x30=>if(decide (x30<s22))=true then(some (.next (x29,x30,(IntKind.wrap .i64 (s23+1)))))else(if(x30==s22)=true then(if(decide (x29<s21))=true then(some (.next (x29,x30,(IntKind.wrap .i64 (s23+1)))))else(some (.next (s21,s22,(IntKind.wrap .i64 (s23+1))))))else(some (.next (s21,s22,(IntKind.wrap .i64 (s23+1)))))))else(some (.stop (s21,s22)))
def iX(a0:ah)(a1:(List aL)):Option (Int×Int):=
  (mkCO 0 (IntKind.wrap .i64 (2*(a1.length:Int))) 0 8).bind fun x1=>(eO (m6 a1) (0,x1)).bind fun o10=>if((o10.length:Int)==0)=true then(some (0,0))else((inO o10 0).bind fun _=>(fV o10 0).bind fun x14=>(inO o10 0).bind fun _=>(fV o10 0).bind fun x17=>(iY a0 a1 x17).bind fun x18=>(wv o10.length 1 (o10.length:Int)).bind fun _=>(lenV o10.length (0+(1:Int).toNat) (0+((o10.length:Int):Int).toNat)).bind fun x20=>(eO (md x20 o10 a0 a1) (x14,x18,0)).bind fun o35=>some (o35.1,o35.2))
def eX(a0:ah)(a1:ai):Option (Int×Int):=
  (fQ a0 a1).bind fun x1=>if(x1.2 != 0)=true then(some (0,x1.2))else((iX a0 x1.1).bind fun x3=>some (x3.2,0))
def oO(a0:av)(e1:ah)(e2:Int)(e3:Int)(e4:Bool)(e5:au):Option ((List av)):=
  (qt ([]:List av) [a0] 64).bind fun x1=>some x1
def iD(a0:(List av)):Option (Int):=
  some (a0.length:Int)
def jb(a0:(List av))(a1:Int)(a2:Int):Option (Bool):=
  (fV a0 a1).bind fun x1=>(fV a0 a2).bind fun x2=>(bN x1.cr x2.cr).bind fun x3=>(fV a0 a1).bind fun x4=>(fV a0 a2).bind fun x5=>(bN x4.gO x5.gO).bind fun x6=>(cH [x3,x6]).bind fun x7=>some (decide (x7<0))
def jc(a1:Int)(a2:Int)(d0:(List av)):Option ((List av)):=
  (inO d0 a2).bind fun _=>(fV d0 a2).bind fun x3=>(inO d0 a1).bind fun _=>(fV d0 a1).bind fun x6=>(inO d0 a1).bind fun _=>(ta d0 a1 x3).bind fun x9=>(inO x9 a2).bind fun _=>(ta x9 a2 x6).bind fun x12=>some x12
def nz:(Int×(List av))->Option (gD (Int×(List av)) ((List av))):=fun(s1,s2)=>
  (sl .i64 (IntKind.wrap .i64 (s1-1)) 2).bind fun x4=>if(x4==s1)=true then((some s2).bind fun z6=>some (.stop z6))else((jb s2 s1 x4).bind fun x7=>if(!x7)=true then((some s2).bind fun z9=>some (.stop z9))else((jc x4 s1 s2).bind fun x10=>some (.next (x4,x10))))
def oG(a0:Int)(e1:ah)(e2:Int)(e3:Int)(e4:Bool)(e5:au)(d1:(List av)):Option ((List av)):=
  (eO (nz) (a0,d1)).bind fun o12=>some o12
def mN(a0:av)(e1:ah)(e2:Int)(e3:Int)(e4:Bool)(e5:au):Option ((List av)):=
  (oO a0 e1 e2 e3 e4 e5).bind fun x1=>(iD x1).bind fun x2=>(oG (IntKind.wrap .i64 (x2-1)) e1 e2 e3 e4 e5 x1).bind fun x3=>some x3
def jT(x1:Int×Int)(j2:Int)(j3:(List av)):Option (Int×(List av)×Int):=
  some (x1.2,j3,j2)
def lG(a0:ai)(e1:ah)(e2:Int)(e3:Int)(e4:Bool)(e5:au):Option (Int×(List av)×Int):=
  (eX e1 a0).bind fun x1=>if(x1.2==0)=true then((mN (av.mk a0 x1.1 e2) e1 e2 e3 e4 e5).bind fun x6=>jT x1 (IntKind.wrap .i64 (e2+1)) x6)else(jT x1 e2 ([]:List av))
def jC(a0:Int)(e1:ah)(e2:Int)(e3:Int)(e4:Bool)(e5:au)(d1:(List av)):Option (Bool):=
  if((d1.length:Int)==0)=true then(some true)else(if e4=true then((inO d1 0).bind fun _=>(fV d1 0).bind fun x5=>some (decide ((IntKind.wrap .i64 (e5.bj-x5.cr))<=a0)))else(some false))
def fd(s2:(List av))(s1:Int)(j8:Int):Option (gD (Int×(List av)) (Int×(List av))):=
  (jb s2 j8 s1).bind fun x9=>if(!x9)=true then(some (.stop (s1,s2)))else((jc s1 j8 s2).bind fun x11=>some (.next (j8,x11)))
def nO(a1:Int):(Int×(List av))->Option (gD (Int×(List av)) (Int×(List av))):=fun(s1,s2)=>
  if(decide ((IntKind.wrap .i64 ((IntKind.wrap .i64 (2*s1))+1))>=a1))=true then(some (.stop (s1,s2)))else(if(decide ((IntKind.wrap .i64 ((IntKind.wrap .i64 (2*s1))+1))<0))=true then(some (.stop (s1,s2)))else(if(decide ((IntKind.wrap .i64 ((IntKind.wrap .i64 ((IntKind.wrap .i64 (2*s1))+1))+1))<a1))=true then((jb s2 (IntKind.wrap .i64 ((IntKind.wrap .i64 ((IntKind.wrap .i64 (2*s1))+1))+1)) (IntKind.wrap .i64 ((IntKind.wrap .i64 (2*s1))+1))).bind fun x14=>if x14=true then(fd s2 s1 (IntKind.wrap .i64 ((IntKind.wrap .i64 ((IntKind.wrap .i64 (2*s1))+1))+1)))else(fd s2 s1 (IntKind.wrap .i64 ((IntKind.wrap .i64 (2*s1))+1))))else(fd s2 s1 (IntKind.wrap .i64 ((IntKind.wrap .i64 (2*s1))+1)))))
def mO(a0:Int)(a1:Int)(e2:ah)(e3:Int)(e4:Int)(e5:Bool)(e6:au)(d1:(List av)):Option (Bool×(List av)):=
  (eO (nO a1) (a0,d1)).bind fun o17=>some ((decide (o17.1>a0)),o17.2)
def ql(e0:ah)(e1:Int)(e2:Int)(e3:Bool)(e4:au)(d1:(List av)):Option (av×(List av)):=
  (inO d1 (IntKind.wrap .i64 ((d1.length:Int)-1))).bind fun _=>(fV d1 (IntKind.wrap .i64 ((d1.length:Int)-1))).bind fun x3=>(wv d1.length 0 (IntKind.wrap .i64 ((d1.length:Int)-1))).bind fun _=>some (x3,(d1.take ((IntKind.wrap .i64 ((d1.length:Int)-1)):Int).toNat))
def n4(e0:ah)(e1:Int)(e2:Int)(e3:Bool)(e4:au)(d1:(List av)):Option (av×(List av)):=
  (iD d1).bind fun x1=>(jc 0 (IntKind.wrap .i64 (x1-1)) d1).bind fun x2=>(mO 0 (IntKind.wrap .i64 (x1-1)) e0 e1 e2 e3 e4 x2).bind fun x3=>(ql e0 e1 e2 e3 e4 x3.2).bind fun x4=>some (x4.1,x4.2)
def bU(a0:Int)(a1:Int):Option (Int):=
  (sl .i64 (IntKind.wrap .i64 (a1-a0)) 2).bind fun x1=>some (IntKind.wrap .i64 (a0+x1))
def bK(a0:aU):Option (aa):=
  some (aa.mk a0.a0 a0.a1 a0.a2)
def fy(a0:ai):Option (aa):=
  (bI a0).bind fun x1=>if(!x1)=true then(some (aa.mk 0 0 0))else((bF a0.aK).bind fun x3=>(bF a0.aG).bind fun x4=>(bU x3.a0 x4.a0).bind fun x5=>(bU x3.a1 x4.a1).bind fun x6=>(bU x3.a2 x4.a2).bind fun x7=>(bK (aU.mk x5 x6 x7)).bind fun x8=>some x8)
def iC(a0:ah)(a1:aa):Option (Int×Int×Int):=
  (fQ a0 (ai.mk a1 a1)).bind fun x1=>if(x1.2 != 0)=true then(some (0,0,x1.2))else((iX a0 x1.1).bind fun x3=>some (x3.1,x3.2,0))
def kC(a0:ai)(e1:ah)(e2:Int)(e3:Int)(e4:Bool)(e5:au)(d1:(List av)):Option (Int×Bool×au):=
  (fy a0).bind fun x1=>(iC e1 x1).bind fun x2=>if(x2.2.2 != 0)=true then(some (x2.2.2,e4,e5))else(if(!e4)=true then(some (0,true,(au.mk x1 x2.1 x2.2.1 0 (ai.mk (aa.mk 0 0 0) (aa.mk 0 0 0)))))else(if(decide (x2.2.1<e5.bj))=true then(some (0,true,(au.mk x1 x2.1 x2.2.1 0 (ai.mk (aa.mk 0 0 0) (aa.mk 0 0 0)))))else(if(x2.2.1==e5.bj)=true then((dY x1 e5.aV).bind fun x7=>if(decide (x7<0))=true then(some (0,true,(au.mk x1 x2.1 x2.2.1 0 (ai.mk (aa.mk 0 0 0) (aa.mk 0 0 0)))))else(some (0,e4,e5)))else(some (0,e4,e5)))))
def jW(a0:ai):Option (Int):=
  (bI a0).bind fun x1=>if(!x1)=true then(some 0)else((bF a0.aG).bind fun x3=>(bF a0.aK).bind fun x4=>some (IntKind.wrap .i64 ((IntKind.wrap .i64 ((IntKind.wrap .i64 (1*(IntKind.wrap .i64 ((IntKind.wrap .i64 (x3.a0-x4.a0))+1))))*(IntKind.wrap .i64 ((IntKind.wrap .i64 (x3.a1-x4.a1))+1))))*(IntKind.wrap .i64 ((IntKind.wrap .i64 (x3.a2-x4.a2))+1)))))
def fm(a0:ai):Option (ai×ai×Bool):=
  (jW a0).bind fun x1=>if(decide (x1<2))=true then(some ((ai.mk (aa.mk 0 0 0) (aa.mk 0 0 0)),(ai.mk (aa.mk 0 0 0) (aa.mk 0 0 0)),false))else((bF a0.aK).bind fun x3=>(bF a0.aG).bind fun x4=>if(decide ((IntKind.wrap .i64 (x4.a1-x3.a1))>(IntKind.wrap .i64 (x4.a0-x3.a0))))=true then(if(decide ((IntKind.wrap .i64 (x4.a2-x3.a2))>(IntKind.wrap .i64 (x4.a1-x3.a1))))=true then((bU x3.a2 x4.a2).bind fun x7=>(bK (aU.mk x4.a0 x4.a1 x7)).bind fun x8=>(bK (aU.mk x3.a0 x3.a1 (IntKind.wrap .i64 (x7+1)))).bind fun x9=>some ((ai.mk a0.aK x8),(ai.mk x9 a0.aG),true))else((bU x3.a1 x4.a1).bind fun x10=>(bK (aU.mk x4.a0 x10 x4.a2)).bind fun x11=>(bK (aU.mk x3.a0 (IntKind.wrap .i64 (x10+1)) x3.a2)).bind fun x12=>some ((ai.mk a0.aK x11),(ai.mk x12 a0.aG),true)))else(if(decide ((IntKind.wrap .i64 (x4.a2-x3.a2))>(IntKind.wrap .i64 (x4.a0-x3.a0))))=true then((bU x3.a2 x4.a2).bind fun x14=>(bK (aU.mk x4.a0 x4.a1 x14)).bind fun x15=>(bK (aU.mk x3.a0 x3.a1 (IntKind.wrap .i64 (x14+1)))).bind fun x16=>some ((ai.mk a0.aK x15),(ai.mk x16 a0.aG),true))else((bU x3.a0 x4.a0).bind fun x17=>(bK (aU.mk x17 x4.a1 x4.a2)).bind fun x18=>(bK (aU.mk (IntKind.wrap .i64 (x17+1)) x3.a1 x3.a2)).bind fun x19=>some ((ai.mk a0.aK x18),(ai.mk x19 a0.aG),true))))
def nD(a0:av)(e1:ah)(e2:Int)(e3:Int)(e4:Bool)(e5:au)(d1:(List av)):Option ((List av)):=
  (qt d1 [a0] 64).bind fun x1=>some x1
def lv(a0:av)(e1:ah)(e2:Int)(e3:Int)(e4:Bool)(e5:au)(d1:(List av)):Option ((List av)):=
  (nD a0 e1 e2 e3 e4 e5 d1).bind fun x1=>(iD x1).bind fun x2=>(oG (IntKind.wrap .i64 (x2-1)) e1 e2 e3 e4 e5 x1).bind fun x3=>some x3
def ji(x1:Int×Int)(j2:Int)(j3:(List av)):Option (Int×Int×(List av)):=
  some (x1.2,j2,j3)
def jh(a0:ai)(e1:ah)(e2:Int)(e3:Int)(e4:Bool)(e5:au)(d1:(List av)):Option (Int×Int×(List av)):=
  (eX e1 a0).bind fun x1=>if(x1.2==0)=true then((lv (av.mk a0 x1.1 e2) e1 e2 e3 e4 e5 d1).bind fun x6=>ji x1 (IntKind.wrap .i64 (e2+1)) x6)else(ji x1 e2 d1)
def kD(e0:ah)(e1:Int)(e2:Int)(e3:Bool)(e4:au)(d1:(List av)):Option (Int×Int×Int×Bool×au×(List av)):=
  if(e2==3000)=true then(some (25,e1,e2,e3,e4,d1))else((inO d1 0).bind fun _=>(fV d1 0).bind fun x4=>(n4 e0 e1 e2 e3 e4 d1).bind fun x5=>(kC x4.kg e0 e1 (IntKind.wrap .i64 (e2+1)) e3 e4 x5.2).bind fun x6=>if(x6.1 != 0)=true then(some (x6.1,e1,(IntKind.wrap .i64 (e2+1)),x6.2.1,x6.2.2,x5.2))else((fm x4.kg).bind fun x8=>if(!x8.2.2)=true then(some (0,e1,(IntKind.wrap .i64 (e2+1)),x6.2.1,x6.2.2,x5.2))else((jh x8.1 e0 e1 (IntKind.wrap .i64 (e2+1)) x6.2.1 x6.2.2 x5.2).bind fun x10=>if(x10.1 != 0)=true then(some (x10.1,x10.2.1,(IntKind.wrap .i64 (e2+1)),x6.2.1,x6.2.2,x10.2.2))else((jh x8.2.1 e0 x10.2.1 (IntKind.wrap .i64 (e2+1)) x6.2.1 x6.2.2 x10.2.2).bind fun x12=>some (x12.1,x12.2.1,(IntKind.wrap .i64 (e2+1)),x6.2.1,x6.2.2,x12.2.2)))))
def kW(a1:Int)(a0:ah):(Int×Int×Bool×au×(List av))->Option (gD (Int×Int×Bool×au×(List av)) (((List av)×Int×Int×Bool×au)⊕((Option bT)×Int))):=fun(s6,s7,s8,s9,s10)=>
  (jC a1 a0 s6 s7 s8 s9 s10).bind fun x17=>if(!x17)=true then((kD a0 s6 s7 s8 s9 s10).bind fun x19=>if(x19.1 != 0)=true then(some (.stop (.inr (none,x19.1))))else(some (.next (x19.2.1,x19.2.2.1,x19.2.2.2.1,x19.2.2.2.2.1,x19.2.2.2.2.2))))else(some (.stop (.inl (s10,s6,s7,s8,s9))))
def iV(a0:ah)(a1:Int):Option ((Option bT)×Int):=
  (ip a0).bind fun x1=>if(x1 != 0)=true then(some (none,x1))else(if(decide (a1<0))=true then(some (none,2))else((lG a0.aN a0 0 0 false (au.mk (aa.mk 0 0 0) 0 0 0 (ai.mk (aa.mk 0 0 0) (aa.mk 0 0 0)))).bind fun x4=>if(x4.1 != 0)=true then(some (none,x4.1))else((eO (kW a1 a0) (x4.2.2,0,false,(au.mk (aa.mk 0 0 0) 0 0 0 (ai.mk (aa.mk 0 0 0) (aa.mk 0 0 0))),x4.2.1)).bind fun o22=>match o22 with| .inl y23=>(some ((some (bT.mk a0 y23.1 y23.2.1 y23.2.2.1 y23.2.2.2.1 (au.mk (aa.mk y23.2.2.2.2.aV.fX y23.2.2.2.2.aV.fY y23.2.2.2.2.aV.fZ) y23.2.2.2.2.a8 y23.2.2.2.2.bj y23.2.2.2.2.dm (ai.mk (aa.mk y23.2.2.2.2.aX.aK.fX y23.2.2.2.2.aX.aK.fY y23.2.2.2.2.aX.aK.fZ) (aa.mk y23.2.2.2.2.aX.aG.fX y23.2.2.2.2.aX.aG.fY y23.2.2.2.2.aX.aG.fZ))))),0))| .inr r24=>(some r24))))
def lP(a0:ai)(a1:ai):Option (ai):=
  (bI a0).bind fun x1=>if(!x1)=true then(some (ai.mk (aa.mk 0 0 0) (aa.mk 0 0 0)))else((bI a1).bind fun x3=>if(!x3)=true then(some (ai.mk (aa.mk 0 0 0) (aa.mk 0 0 0)))else((bF a0.aK).bind fun x5=>(bF a0.aG).bind fun x6=>(bF a1.aK).bind fun x7=>(bF a1.aG).bind fun x8=>(bK (aU.mk (if x7.a0<x5.a0 then x7.a0 else x5.a0) (if x7.a1<x5.a1 then x7.a1 else x5.a1) (if x7.a2<x5.a2 then x7.a2 else x5.a2))).bind fun x9=>(bK (aU.mk (if x8.a0>x6.a0 then x8.a0 else x6.a0) (if x8.a1>x6.a1 then x8.a1 else x6.a1) (if x8.a2>x6.a2 then x8.a2 else x6.a2))).bind fun x10=>some (ai.mk x9 x10)))
def kV(y2:bT):(Int×Int×ai)->Option (gD (Int×Int×ai) (Int×ai)):=fun(s5,s6,s7)=>
  if(decide (s5<(y2.kT.length:Int)))=true then((fV y2.kT s5).bind fun x12=>if(decide (x12.cr<y2.bV.bj))=true then((lP s7 x12.kg).bind fun x14=>some (.next ((IntKind.wrap .i64 (s5+1)),(if x12.cr<s6 then x12.cr else s6),x14)))else(some (.next ((IntKind.wrap .i64 (s5+1)),(if x12.cr<s6 then x12.cr else s6),s7))))else(some (.stop (s6,s7)))
def dp(a0:ah)(a1:Int):Option (au×Int):=
  (iV a0 a1).bind fun x1=>optC x1.1 (if(x1.2 != 0)=true then(some ((au.mk (aa.mk 0 0 0) 0 0 0 (ai.mk (aa.mk 0 0 0) (aa.mk 0 0 0))),x1.2))else(none)) (fun y2=>if(x1.2 != 0)=true then(some ((au.mk (aa.mk 0 0 0) 0 0 0 (ai.mk (aa.mk 0 0 0) (aa.mk 0 0 0))),x1.2))else((eO (kV y2) (0,y2.bV.bj,(ai.mk y2.bV.aV y2.bV.aV))).bind fun o16=>some ((au.mk y2.bV.aV y2.bV.a8 y2.bV.bj o16.1 (ai.mk (aa.mk o16.2.aK.fX o16.2.aK.fY o16.2.aK.fZ) (aa.mk o16.2.aG.fX o16.2.aG.fY o16.2.aG.fZ))),0)))
def iZ(x1:(List aL)×Int)(a2:Int):(Int×(List Int))->Option (gD (Int×(List Int)) ((List Int))):=fun(s6,s7)=>
  if(decide (s6<(x1.1.length:Int)))=true then((fV x1.1 s6).bind fun x11=>(fA x11 a2).bind fun x12=>(qt s7 [x12] 8).bind fun x13=>some (.next ((IntKind.wrap .i64 (s6+1)),x13)))else(some (.stop s7))
def gB(a0:ah)(a1:aa)(a2:Int):Option ((List Int)×Int):=
  (fQ a0 (ai.mk a1 a1)).bind fun x1=>if(x1.2 != 0)=true then(some (([]:(List Int)),x1.2))else(if(decide (a2<(-18014398509481984)))=true then(some (([]:(List Int)),2))else(if(decide (a2>18014398509481984))=true then(some (([]:(List Int)),2))else((mkCO 0 (x1.1.length:Int) 0 8).bind fun x5=>(eO (iZ x1 a2) (0,x5)).bind fun o15=>some (o15,0))))
def kN(a1:Int)(d0:(List Int))(d1:(List Int)):Option ((List Int)×(List Int)):=
  (inO d1 a1).bind fun _=>(fV d1 a1).bind fun x3=>(inO d0 a1).bind fun _=>(fV d0 a1).bind fun x6=>(inO d0 a1).bind fun _=>(fV d0 a1).bind fun x9=>(inO d1 a1).bind fun _=>(fV d1 a1).bind fun x12=>(inO d0 x3).bind fun _=>(ta d0 x3 x9).bind fun x15=>(inO d1 x6).bind fun _=>(ta d1 x6 x12).bind fun x18=>some (x15,x18)
def gN(a0:Int)(a1:Int):Option (Bool):=
  (ec a0).bind fun x1=>if x1=true then((ec a1).bind fun x3=>if(!x3)=true then(some true)else(some (decide (a0<a1))))else(some (decide (a0<a1)))
def dq(a1:Int)(s1:Int):(Int×(List Int))->Option (gD (Int×(List Int)) (Int×(List Int))):=fun(s5,s6)=>
  if(decide (s5>a1))=true then((inO s6 s5).bind fun _=>(fV s6 s5).bind fun x13=>(inO s6 (IntKind.wrap .i64 (s5-1))).bind fun _=>(fV s6 (IntKind.wrap .i64 (s5-1))).bind fun x16=>(gN x13 x16).bind fun x17=>if x17=true then((inO s6 (IntKind.wrap .i64 (s5-1))).bind fun _=>(fV s6 (IntKind.wrap .i64 (s5-1))).bind fun x21=>(inO s6 s5).bind fun _=>(fV s6 s5).bind fun x24=>(inO s6 s5).bind fun _=>(ta s6 s5 x21).bind fun x27=>(inO x27 (IntKind.wrap .i64 (s5-1))).bind fun _=>(ta x27 (IntKind.wrap .i64 (s5-1)) x24).bind fun x30=>some (.next ((IntKind.wrap .i64 (s5-1)),x30)))else(some (.stop (s1,s6))))else(some (.stop (s1,s6)))
def ff(a2:Int)(a1:Int):(Int×(List Int))->Option (gD (Int×(List Int)) ((List Int))):=fun(s1,s2)=>
  if(decide (s1<a2))=true then((eO (dq a1 s1) (s1,s2)).bind fun o32=>some (.next ((IntKind.wrap .i64 (o32.1+1)),o32.2)))else((some s2).bind fun z33=>some (.stop z33))
def cp(a1:Int)(a2:Int)(d0:(List Int)):Option ((List Int)):=
  (eO (ff a2 a1) ((IntKind.wrap .i64 (a1+1)),d0)).bind fun o35=>some o35
def bQ(a2:Int)(a1:Int)(d0:(List Int))(a3:Int):Unit->Option (gD (Unit) ((List Int))):=fun _=>
  if(decide ((IntKind.wrap .i64 (a2-a1))<=12))=true then((cp a1 a2 d0).bind fun x3=>some (.stop x3))else(if(a3==0)=true then(none)else(none))
def jk:Nat->Int->Int->Int->(List Int)->Option ((List Int))
  |0,_,_,_,_=>none
  |nfu+1,a1,a2,a3,d0=>
  (eO (bQ a2 a1 d0 a3) ()).bind fun o6=>some o6
def di(a1:Int)(a2:Int)(a3:Int)(d0:(List Int)):Option ((List Int)):=recO fun n=>jk n a1 a2 a3 d0
def da(d0:(List Int)):Option ((List Int)):=
  (fG (IntKind.wrap .u64 (d0.length:Int))).bind fun x1=>(di 0 (d0.length:Int) x1 d0).bind fun x2=>some x2
def cu(x18:(List Int)×(List Int)×(List Int))(x3:(List Int))(j19:(List ba))(j20:(List Int)):Option (gD ((List ba)×(List Int)×(List Int)×(List Int)) (((List ba)×(List Int))⊕((List ba)×(List Int)×Int))):=
  (fV x18.1 0).bind fun x21=>(fV x3 x21).bind fun x22=>(qt j20 [x22] 8).bind fun x23=>(fV x18.1 0).bind fun x24=>(kN x24 x18.2.1 x18.2.2).bind fun x25=>some (.next (j19,x23,x25.1,x25.2))
def dF(x18:(List Int)×(List Int)×(List Int))(x3:(List Int))(a1:(List al))(s5:(List ba))(s6:(List Int)):(Int×(List al))->Option (gD (Int×(List al)) ((List al)×(List ba)×(List Int))):=fun(s28,s29)=>
  if(decide (s28<(x18.1.length:Int)))=true then((fV x18.1 s28).bind fun x35=>(fV x3 x35).bind fun x36=>(fV a1 x36).bind fun x37=>(qt s29 [x37] 48).bind fun x38=>some (.next ((IntKind.wrap .i64 (s28+1)),x38)))else(some (.stop (s29,s5,s6)))
def dG(x18:(List Int)×(List Int)×(List Int))(x45:(List Int)×Int)(a0:aJ):(Int×(List Int))->Option (gD (Int×(List Int)) ((List Int))):=fun(s47,s48)=>
  if(decide (s47<(x18.1.length:Int)))=true then((fV x18.1 s47).bind fun x52=>(fV x45.1 s47).bind fun x53=>if(decide (x53<=a0.eN))=true then((qt s48 [x52] 8).bind fun x55=>some (.next ((IntKind.wrap .i64 (s47+1)),x55)))else(some (.next ((IntKind.wrap .i64 (s47+1)),s48))))else(some (.stop s48))
def cv(o57:(List Int))(x3:(List Int)):(Int×(List Int)×(List Int)×(List Int))->Option (gD (Int×(List Int)×(List Int)×(List Int)) ((List Int)×(List Int)×(List Int))):=fun(s59,s60,s61,s62)=>
  if(decide (s59<(o57.length:Int)))=true then((inO o57 s59).bind fun _=>(fV o57 s59).bind fun x70=>(kN x70 s60 s61).bind fun x71=>(fV x3 x70).bind fun x72=>(qt s62 [x72] 8).bind fun x73=>some (.next ((IntKind.wrap .i64 (s59+1)),x71.1,x71.2,x73)))else(some (.stop (s60,s61,s62)))
def bZ(a0:aJ)(a1:(List al))(x3:(List Int)):((List ba)×(List Int)×(List Int)×(List Int))->Option (gD ((List ba)×(List Int)×(List Int)×(List Int)) (((List ba)×(List Int))⊕((List ba)×(List Int)×Int))):=fun(s5,s6,s7,s8)=>
  (jq (bz.mk s7 s8)).bind fun x12=>(inO s7 x12).bind fun _=>(fV s7 x12).bind fun x15=>(jq (bz.mk s7 s8)).bind fun x16=>if(x15 != x16)=true then((lO a0 a1 x3 s7 s8).bind fun x18=>if(decide ((x18.1.length:Int)>=a0.cm))=true then((eO (dF x18 x3 a1 s5 s6) (0,([]:(List al)))).bind fun o40=>(eE a0 o40.1).bind fun x41=>(dp x41 a0.bw).bind fun x42=>if(x42.2 != 0)=true then(some (.stop (.inr (([]:(List ba)),([]:(List Int)),x42.2))))else((eE a0 o40.1).bind fun x44=>(gB x44 x42.1.aV x42.1.a8).bind fun x45=>if(x45.2 != 0)=true then(some (.stop (.inr (([]:(List ba)),([]:(List Int)),x45.2))))else((eO (dG x18 x45 a0) (0,([]:(List Int)))).bind fun o57=>if(decide ((o57.length:Int)>=a0.cm))=true then((eO (cv o57 x3) (0,x18.2.1,x18.2.2,([]:(List Int)))).bind fun o75=>(da o75.2.2).bind fun x76=>(qt o40.2.1 [(ba.mk x76 x42.1.aV x42.1.a8)] 56).bind fun x77=>some (.next (x77,o40.2.2,o75.1,o75.2.1)))else(cu x18 x3 o40.2.1 o40.2.2))))else(cu x18 x3 s5 s6))else(some (.stop (.inl (s5,s6))))
def gj(a0:aJ)(a1:(List al)):Option ((List ba)×(List Int)×Int):=
  (dy a0 a1).bind fun x1=>if(x1 != 0)=true then(some (([]:(List ba)),([]:(List Int)),x1))else((ij a1).bind fun x3=>(gM (a1.length:Int)).bind fun x4=>(eO (bZ a0 a1 x3) (([]:(List ba)),([]:(List Int)),x4.nZ,x4.fback)).bind fun o79=>match o79 with| .inl y80=>((da y80.2).bind fun x82=>some (y80.1,x82,0))| .inr r81=>(some r81))
def jI(x5:(List ac))(a0:ak)(a1:aq):(Int×(List ac)×(List al)×(List aA))->Option (gD (Int×(List ac)×(List al)×(List aA)) ((List ac)×(List al)×(List aA))):=fun(s6,s7,s8,s9)=>
  if(decide (s6<(x5.length:Int)))=true then((fV x5 s6).bind fun x15=>(cQ a0 a1 x15).bind fun x16=>if x16.2.2=true then((qt s7 [x15] 104).bind fun x18=>(qt s8 [x16.1] 48).bind fun x19=>(qt s9 [x16.2.1] 80).bind fun x20=>some (.next ((IntKind.wrap .i64 (s6+1)),x18,x19,x20)))else(some (.next ((IntKind.wrap .i64 (s6+1)),s7,s8,s9))))else(some (.stop (s7,s8,s9)))
def iu(a0:ak)(a1:aq)(a2:(List ac)):Option (aW×Int):=
  (eJ a0).bind fun x1=>if(x1 != 0)=true then(some ((aW.mk [] [] []),27))else((c9 a1).bind fun x3=>if(!x3)=true then(some ((aW.mk [] [] []),1))else((dI a2).bind fun x5=>(eO (jI x5 a0 a1) (0,([]:(List ac)),([]:(List al)),([]:(List aA)))).bind fun o22=>some ((aW.mk o22.1 o22.2.1 o22.2.2),0)))
def jx(a0:aW)(a1:ak):Option (ah×Int):=
  if((a0.dt.length:Int)==0)=true then(some ((ah.mk (ai.mk (aa.mk 0 0 0) (aa.mk 0 0 0)) (aF.mk 0 [] []) [] 0),24))else(if(decide ((a0.dt.length:Int)>64))=true then(some ((ah.mk (ai.mk (aa.mk 0 0 0) (aa.mk 0 0 0)) (aF.mk 0 [] []) [] 0),8))else((sf 8 a1.ag.bi.aK).bind fun x3=>(sf 8 a1.ag.bi.aG).bind fun x4=>some ((ah.mk a1.ag.aN (aF.mk a1.ag.bi.bp x3 x4) a0.dt a1.ag.cJ),0)))
def nat_From_l9:(Int×(List Int))->Option (gD (Int×(List Int)) ((List Int))):=fun(s2,s3)=>
  if(decide (s2>0))=true then((wu s2 1073741824).bind fun x7=>(qt s3 [x7] 8).bind fun x8=>some (.next ((mu .i64 s2 30),x8)))else(some (.stop s3))
def rX(a0:Int):Option ((List Int)×Int):=
  if(decide (a0<0))=true then(some (([]:(List Int)),2))else((eO (nat_From_l9) (a0,([]:(List Int)))).bind fun o10=>some (o10,0))
def m9(a0:Int):Option (Bool):=
  if(decide (a0<0))=true then(some true)else(some (decide (a0>=1073741824)))
def gL(a0:(List Int)):Int->Option (gD (Int) ((Unit)⊕(Int))):=fun s1=>
  if(decide (s1<(a0.length:Int)))=true then((fV a0 s1).bind fun x4=>(m9 x4).bind fun x5=>if x5=true then(some (.stop (.inr s1)))else(some (.next (IntKind.wrap .i64 (s1+1)))))else(some (.stop (.inl ())))
def fq(a0:(List Int)):Option (Int):=
  (eO (gL a0) 0).bind fun o8=>match o8 with| .inl _=>(some (-1))| .inr r10=>(some r10)
def cC(a0:(List Int)):Option (Bool):=
  (fq a0).bind fun x1=>some (decide (x1>=0))
def kz(a0:(List Int)):Option (Bool):=
  if(decide ((a0.length:Int)>64))=true then(some false)else(if(decide ((a0.length:Int)>0))=true then((fV a0 (IntKind.wrap .i64 ((a0.length:Int)-1))).bind fun x3=>if(x3==0)=true then(some false)else((cC a0).bind fun x5=>some (!x5)))else((cC a0).bind fun x6=>some (!x6)))
def pR(a0:(List Int))(a1:(List Int)):Option (Bool):=
  (kz a0).bind fun x1=>if x1=true then((kz a1).bind fun x3=>some x3)else(some false)
def mQ(a0:(List Int))(a1:Int):Option (Int):=
  if(decide (a1>=(a0.length:Int)))=true then(some 0)else((fV a0 a1).bind fun x2=>some x2)
def nat_trim_l8:(List Int)->Option (gD ((List Int)) ((List Int))):=fun s1=>
  if(decide ((s1.length:Int)>0))=true then((fV s1 (IntKind.wrap .i64 ((s1.length:Int)-1))).bind fun x5=>if(x5==0)=true then((cutO s1 0 (IntKind.wrap .i64 ((s1.length:Int)-1))).bind fun x7=>some (.next x7))else(some (.stop s1)))else(some (.stop s1))
def pS(a0:(List Int)):Option ((List Int)):=
  (eO (nat_trim_l8) a0).bind fun o9=>some o9
def oa(a1:(List Int))(s2:Int)(x7:Int):(Int×Int×(List Int))->Option (gD (Int×Int×(List Int)) (Int×(List Int))):=fun(s8,s9,s10)=>
  if(decide (s9<(IntKind.wrap .i64 ((a1.length:Int)+1))))=true then(if(decide ((IntKind.wrap .i64 (s2+s9))<(s10.length:Int)))=true then((inO s10 (IntKind.wrap .i64 (s2+s9))).bind fun _=>(fV s10 (IntKind.wrap .i64 (s2+s9))).bind fun x18=>(mQ a1 s9).bind fun x19=>(wu (IntKind.wrap .i64 (s8+(IntKind.wrap .i64 (x18+(IntKind.wrap .i64 (x7*x19)))))) 1073741824).bind fun x20=>(inO s10 (IntKind.wrap .i64 (s2+s9))).bind fun _=>(ta s10 (IntKind.wrap .i64 (s2+s9)) x20).bind fun x23=>some (.next ((mu .i64 (IntKind.wrap .i64 (s8+(IntKind.wrap .i64 (x18+(IntKind.wrap .i64 (x7*x19)))))) 30),(IntKind.wrap .i64 (s9+1)),x23)))else(some (.next (s8,(IntKind.wrap .i64 (s9+1)),s10))))else(some (.stop (s2,s10)))
def oc(a0:(List Int))(a1:(List Int)):(Int×(List Int))->Option (gD (Int×(List Int)) ((List Int))):=fun(s2,s3)=>
  if(decide (s2<(a0.length:Int)))=true then((fV a0 s2).bind fun x7=>(eO (oa a1 s2 x7) (0,0,s3)).bind fun o25=>some (.next ((IntKind.wrap .i64 (o25.1+1)),o25.2)))else(some (.stop s3))
def jy(a0:(List Int))(a1:(List Int)):Option ((List Int)):=
  (mkO (IntKind.wrap .i64 ((a0.length:Int)+(a1.length:Int))) 0 8).bind fun x1=>(eO (oc a0 a1) (0,x1)).bind fun o27=>(pS o27).bind fun x28=>some x28
def ja(a0:(List Int)):Option ((List Int)×Int):=
  (pS a0).bind fun x1=>if(decide ((x1.length:Int)>64))=true then(some (([]:(List Int)),8))else(some (x1,0))
def nat_Mul(a0:(List Int))(a1:(List Int)):Option ((List Int)×Int):=
  (pR a0 a1).bind fun x1=>if(!x1)=true then(some (([]:(List Int)),1))else((jy a0 a1).bind fun x3=>(ja x3).bind fun x4=>some (x4.1,x4.2))
def dv(a0:Int):Option ((List Int)):=
  (rX (if(IntKind.wrap .i64 (0-a0))>a0 then(IntKind.wrap .i64 (0-a0))else a0)).bind fun x1=>(nat_Mul x1.1 x1.1).bind fun x2=>some x2.1
def nat_Add_l13(a1:(List Int))(a0:(List Int)):(Int×Int×(List Int))->Option (gD (Int×Int×(List Int)) ((List Int))):=fun(s3,s4,s5)=>
  if(decide (s4<(IntKind.wrap .i64 ((if(a1.length:Int)>(a0.length:Int)then(a1.length:Int)else(a0.length:Int))+1))))=true then((mQ a0 s4).bind fun x9=>(mQ a1 s4).bind fun x10=>(wu (IntKind.wrap .i64 (s3+(IntKind.wrap .i64 (x9+x10)))) 1073741824).bind fun x11=>(qt s5 [x11] 8).bind fun x12=>some (.next ((mu .i64 (IntKind.wrap .i64 (s3+(IntKind.wrap .i64 (x9+x10)))) 30),(IntKind.wrap .i64 (s4+1)),x12)))else(some (.stop s5))
def nat_Add(a0:(List Int))(a1:(List Int)):Option ((List Int)×Int):=
  (pR a0 a1).bind fun x1=>if(!x1)=true then(some (([]:(List Int)),1))else((eO (nat_Add_l13 a1 a0) (0,0,([]:(List Int)))).bind fun o14=>(ja o14).bind fun x15=>some (x15.1,x15.2))
def gF(a0:aU)(a1:Int)(a2:Int):Option ((List Int)):=
  (dv (IntKind.wrap .i64 ((IntKind.wrap .i64 ((IntKind.wrap .i64 (a0.a0*a2))*a2))-(IntKind.wrap .i64 ((IntKind.wrap .i64 (a0.a2*a1))*a1))))).bind fun x1=>(dv (IntKind.wrap .i64 ((IntKind.wrap .i64 (a0.a1*a1))*a2))).bind fun x2=>(nat_Add x1 x2).bind fun x3=>some x3.1
def lR(a0:aH)(a1:Int)(a2:Int):Option (aQ×Bool):=
  if(a0.db==0)=true then((dv a0.bn.a0).bind fun x2=>(dv a0.bg.a0).bind fun x3=>some ((aQ.mk x2 x3),true))else(if(a0.db==1)=true then((gF a0.bn a1 a2).bind fun x5=>(gF a0.bg a1 a2).bind fun x6=>some ((aQ.mk x5 x6),(decide ((x6.length:Int)>0))))else((dP a0.ch).bind fun x7=>(dv x7).bind fun x8=>(xC .i64 1 a0.ca).bind fun x9=>(dv x9).bind fun x10=>some ((aQ.mk x8 x10),true)))
def fS(a0:aQ):Option (Bool):=
  (kz a0.bn).bind fun x1=>if x1=true then((kz a0.bg).bind fun x3=>if x3=true then(some (decide ((a0.bg.length:Int)>0)))else(some false))else(some false)
def qk(a0:aQ)(a1:aQ):Option (aQ×Int):=
  (fS a0).bind fun x1=>if(!x1)=true then(some ((aQ.mk [] []),1))else((fS a1).bind fun x3=>if(!x3)=true then(some ((aQ.mk [] []),1))else((jy a0.bn a1.bn).bind fun x5=>(ja x5).bind fun x6=>(jy a0.bg a1.bg).bind fun x7=>(ja x7).bind fun x8=>if(x6.2 != 0)=true then(some ((aQ.mk [] []),8))else(if(x8.2 != 0)=true then(some ((aQ.mk [] []),8))else(some ((aQ.mk x6.1 x8.1),0)))))
def nF(a0:aO)(a1:Int)(a2:Int):(Int×(List Int)×(List Int))->Option (gD (Int×(List Int)×(List Int)) (((List Int)×(List Int))⊕(aQ×Int))):=fun(s7,s8,s9)=>
  if(decide (s7<(a0.bt.length:Int)))=true then((fV a0.bt s7).bind fun x14=>(lR x14 a1 a2).bind fun x15=>if(!x15.2)=true then(some (.stop (.inr ((aQ.mk [] []),11))))else((qk (aQ.mk s8 s9) x15.1).bind fun x17=>if(x17.2 != 0)=true then(some (.stop (.inr ((aQ.mk [] []),x17.2))))else(some (.next ((IntKind.wrap .i64 (s7+1)),x17.1.bn,x17.1.bg)))))else(some (.stop (.inl (s8,s9))))
def lQ(a0:aO)(a1:Int)(a2:Int):Option (aQ×Int):=
  (fo a0).bind fun x1=>if(!x1)=true then(some ((aQ.mk [] []),1))else((bC a1 0 65536).bind fun x3=>if(!x3)=true then(some ((aQ.mk [] []),2))else((bC a2 1 65536).bind fun x5=>if(!x5)=true then(some ((aQ.mk [] []),2))else((eO (nF a0 a1 a2) (0,[1],[1])).bind fun o20=>match o20 with| .inl y21=>(some ((aQ.mk y21.1 y21.2),0))| .inr r22=>(some r22))))
def eo(a0:Int)(j15:Int)(j16:Int):Option (Int):=
  some (IntKind.wrap .i64 ((IntKind.wrap .i64 (256*a0))+j16))
def ep(a0:Int)(j13:Int)(j14:Int):Option (Int):=
  if(decide ((mu .i64 (IntKind.wrap .i64 (j13*j13)) 30)>=2147483648))=true then((sl .i64 (mu .i64 (IntKind.wrap .i64 (j13*j13)) 30) 2).bind fun x19=>eo a0 x19 (IntKind.wrap .i64 ((IntKind.wrap .i64 (j14*2))+1)))else(eo a0 (mu .i64 (IntKind.wrap .i64 (j13*j13)) 30) (IntKind.wrap .i64 (j14*2)))
def er(a0:Int)(j11:Int)(j12:Int):Option (Int):=
  if(decide ((mu .i64 (IntKind.wrap .i64 (j11*j11)) 30)>=2147483648))=true then((sl .i64 (mu .i64 (IntKind.wrap .i64 (j11*j11)) 30) 2).bind fun x22=>ep a0 x22 (IntKind.wrap .i64 ((IntKind.wrap .i64 (j12*2))+1)))else(ep a0 (mu .i64 (IntKind.wrap .i64 (j11*j11)) 30) (IntKind.wrap .i64 (j12*2)))
def et(a0:Int)(j9:Int)(j10:Int):Option (Int):=
  if(decide ((mu .i64 (IntKind.wrap .i64 (j9*j9)) 30)>=2147483648))=true then((sl .i64 (mu .i64 (IntKind.wrap .i64 (j9*j9)) 30) 2).bind fun x25=>er a0 x25 (IntKind.wrap .i64 ((IntKind.wrap .i64 (j10*2))+1)))else(er a0 (mu .i64 (IntKind.wrap .i64 (j9*j9)) 30) (IntKind.wrap .i64 (j10*2)))
def eu(a0:Int)(j7:Int)(j8:Int):Option (Int):=
  if(decide ((mu .i64 (IntKind.wrap .i64 (j7*j7)) 30)>=2147483648))=true then((sl .i64 (mu .i64 (IntKind.wrap .i64 (j7*j7)) 30) 2).bind fun x28=>et a0 x28 (IntKind.wrap .i64 ((IntKind.wrap .i64 (j8*2))+1)))else(et a0 (mu .i64 (IntKind.wrap .i64 (j7*j7)) 30) (IntKind.wrap .i64 (j8*2)))
def ev(a0:Int)(j5:Int)(j6:Int):Option (Int):=
  if(decide ((mu .i64 (IntKind.wrap .i64 (j5*j5)) 30)>=2147483648))=true then((sl .i64 (mu .i64 (IntKind.wrap .i64 (j5*j5)) 30) 2).bind fun x31=>eu a0 x31 (IntKind.wrap .i64 ((IntKind.wrap .i64 (j6*2))+1)))else(eu a0 (mu .i64 (IntKind.wrap .i64 (j5*j5)) 30) (IntKind.wrap .i64 (j6*2)))
def ew(a0:Int)(j3:Int)(j4:Int):Option (Int):=
  if(decide ((mu .i64 (IntKind.wrap .i64 (j3*j3)) 30)>=2147483648))=true then((sl .i64 (mu .i64 (IntKind.wrap .i64 (j3*j3)) 30) 2).bind fun x34=>ev a0 x34 (IntKind.wrap .i64 ((IntKind.wrap .i64 (j4*2))+1)))else(ev a0 (mu .i64 (IntKind.wrap .i64 (j3*j3)) 30) (IntKind.wrap .i64 (j4*2)))
def ex(a0:Int)(j1:Int)(j2:Int):Option (Int):=
  if(decide ((mu .i64 (IntKind.wrap .i64 (j1*j1)) 30)>=2147483648))=true then((sl .i64 (mu .i64 (IntKind.wrap .i64 (j1*j1)) 30) 2).bind fun x37=>ew a0 x37 (IntKind.wrap .i64 ((IntKind.wrap .i64 (j2*2))+1)))else(ew a0 (mu .i64 (IntKind.wrap .i64 (j1*j1)) 30) (IntKind.wrap .i64 (j2*2)))
def gA(a0:Int)(a1:Int):Option (Int):=
  if(decide ((mu .i64 (IntKind.wrap .i64 (a1*a1)) 30)>=2147483648))=true then((sl .i64 (mu .i64 (IntKind.wrap .i64 (a1*a1)) 30) 2).bind fun x40=>ex a0 x40 1)else(ex a0 (mu .i64 (IntKind.wrap .i64 (a1*a1)) 30) 0)
def iB(a0:Int):Option (Int×Int):=
  if(decide (a0<1))=true then(some (0,2))else((fG (IntKind.wrap .u64 a0)).bind fun x2=>if(decide ((IntKind.wrap .i64 (x2-1))<=30))=true then((xC .i64 a0 (IntKind.wrap .i64 (30-(IntKind.wrap .i64 (x2-1))))).bind fun x4=>(gA (IntKind.wrap .i64 (x2-1)) x4).bind fun x5=>some (x5,0))else((shrO .i64 a0 (IntKind.wrap .i64 ((IntKind.wrap .i64 (x2-1))-30))).bind fun x6=>(gA (IntKind.wrap .i64 (x2-1)) x6).bind fun x7=>some (x7,0)))
def gz(a0:(List Int)):Option (Int×Int):=
  (kz a0).bind fun x1=>if(!x1)=true then(some (0,1))else(if(decide ((IntKind.wrap .i64 ((a0.length:Int)-1))<0))=true then(some (0,2))else(if((IntKind.wrap .i64 ((a0.length:Int)-1))==0)=true then((fV a0 0).bind fun x5=>(iB x5).bind fun x6=>some (x6.1,x6.2))else((fV a0 (IntKind.wrap .i64 ((a0.length:Int)-1))).bind fun x7=>(fV a0 (IntKind.wrap .i64 ((IntKind.wrap .i64 ((a0.length:Int)-1))-1))).bind fun x8=>(iB (orI .i64 (shlI .i64 x7 30) x8)).bind fun x9=>some ((IntKind.wrap .i64 (x9.1+(IntKind.wrap .i64 (7680*(IntKind.wrap .i64 ((IntKind.wrap .i64 ((a0.length:Int)-1))-1)))))),x9.2))))
def jw(a0:bu)(a1:aO)(a2:Int):Option (Int×Int):=
  (lQ a1 a0.bn a0.bg).bind fun x1=>if(x1.2 != 0)=true then(some (0,x1.2))else((gz x1.1.bn).bind fun x3=>if(x3.2 != 0)=true then(some (0,24))else((gz x1.1.bg).bind fun x5=>if(x5.2 != 0)=true then(some (0,x5.2))else((iB a2).bind fun x7=>some ((IntKind.wrap .i64 ((IntKind.wrap .i64 ((IntKind.wrap .i64 (2*x7.1))+x5.1))-x3.1)),x7.2))))
def iW(a0:Int):Option (Int):=
  some (mu .i64 a0 1)
def lz(a0:Int):Option (Int×Bool):=
  if(decide (a0>=(-16777216)))=true then(some ((IntKind.wrap .i64 (a0*30103)),(decide (a0<=16777216))))else(some ((IntKind.wrap .i64 (a0*30103)),false))
def io(a0:Int):Option (Int):=
  (lz a0).bind fun x1=>if(!x1.2)=true then(some 0)else((sl .i64 x1.1 256000).bind fun x3=>(wu x1.1 256000).bind fun x4=>if(decide (x4<0))=true then(some (IntKind.wrap .i64 (x3-1)))else(some x3))
def kX(a0:Int):Option (Int):=
  (io (IntKind.wrap .i64 (0-a0))).bind fun x1=>some (IntKind.wrap .i64 (0-x1))
def fP(a0:bu)(a1:aO)(a2:Int)(a3:Int)(a4:Int):Option (aD×Int):=
  (c7 a0).bind fun x1=>if(!x1)=true then(some ((aD.mk 0 0),27))else(if(decide (a2<1))=true then(some ((aD.mk 0 0),2))else(if(decide (a2>1073741823))=true then(some ((aD.mk 0 0),2))else((jw a0 a1 a2).bind fun x5=>if(x5.2 != 0)=true then(some ((aD.mk 0 0),x5.2))else((cf a0.bG a3 a4).bind fun x7=>if(x7.2.2 != 0)=true then(some ((aD.mk 0 0),x7.2.2))else((iW (IntKind.wrap .i64 (x5.1-2))).bind fun x9=>(io x9).bind fun x10=>(iW (IntKind.wrap .i64 ((IntKind.wrap .i64 (0-x5.1))-6))).bind fun x11=>(kX (IntKind.wrap .i64 (0-x11))).bind fun x12=>some ((aD.mk (IntKind.wrap .i64 (x10+x7.1)) (IntKind.wrap .i64 (x12+x7.2.1))),0))))))
def dO(a0:aW)(a2:ai)(a1:ak):(Int×(List aD))->Option (gD (Int×(List aD)) ((List aD))):=fun(s1,s2)=>
  if(decide (s1<(a0.dt.length:Int)))=true then((fV a0.dt s1).bind fun x6=>(fV a0.jV s1).bind fun x7=>(fV a0.dK s1).bind fun x8=>(fc a2 x6.aM).bind fun x9=>(gP a2 x6.aM).bind fun x10=>(fP a1.cq x7.bD x8.aS x9 x10).bind fun x11=>if(x11.2==0)=true then((qt s2 [x11.1] 16).bind fun x13=>some (.next ((IntKind.wrap .i64 (s1+1)),x13)))else(some (.next ((IntKind.wrap .i64 (s1+1)),s2))))else(some (.stop s2))
def c8(a0:aW)(a1:ak)(a2:ai):Option ((List aD)):=
  (eO (dO a0 a2 a1) (0,([]:(List aD)))).bind fun o15=>some o15
def gX(a0:aD):Option (Bool):=
  some (decide (a0.aK>a0.aG))
def dL(a0:(List aD)):Int->Option (gD (Int) ((Unit)⊕(Int))):=fun s1=>
  if(decide (s1<(a0.length:Int)))=true then((fV a0 s1).bind fun x4=>(gX x4).bind fun x5=>if x5=true then(some (.stop (.inr s1)))else(some (.next (IntKind.wrap .i64 (s1+1)))))else(some (.stop (.inl ())))
def d6(a0:(List aD)):Option (Int):=
  (eO (dL a0) 0).bind fun o8=>match o8 with| .inl _=>(some (-1))| .inr r10=>(some r10)
def cO(a0:(List aD)):Option (Bool):=
  (d6 a0).bind fun x1=>some (decide (x1>=0))
def gY(a0:aD):Option (Int):=
  some a0.aK
def jO(a0:(List aD)):(Int×(List Int))->Option (gD (Int×(List Int)) ((List Int))):=fun(s1,s2)=>
  if(decide (s1<(a0.length:Int)))=true then((fV a0 s1).bind fun x6=>(gY x6).bind fun x7=>(qt s2 [x7] 8).bind fun x8=>some (.next ((IntKind.wrap .i64 (s1+1)),x8)))else(some (.stop s2))
def fu(a0:(List aD)):Option (Int):=
  (eO (jO a0) (0,([]:(List Int)))).bind fun o10=>(da o10).bind fun x11=>(sl .i64 (IntKind.wrap .i64 ((x11.length:Int)-1)) 2).bind fun x12=>(inO x11 x12).bind fun _=>(fV x11 x12).bind fun x15=>some x15
def gZ(a0:aD):Option (Int):=
  some a0.aG
def jP(a0:(List aD)):(Int×(List Int))->Option (gD (Int×(List Int)) ((List Int))):=fun(s1,s2)=>
  if(decide (s1<(a0.length:Int)))=true then((fV a0 s1).bind fun x6=>(gZ x6).bind fun x7=>(qt s2 [x7] 8).bind fun x8=>some (.next ((IntKind.wrap .i64 (s1+1)),x8)))else(some (.stop s2))
def fw(a0:(List aD)):Option (Int):=
  (eO (jP a0) (0,([]:(List Int)))).bind fun o10=>(da o10).bind fun x11=>(sl .i64 (IntKind.wrap .i64 ((x11.length:Int)-1)) 2).bind fun x12=>(inO x11 x12).bind fun _=>(fV x11 x12).bind fun x15=>some x15
def fO(a0:(List aD)):Option (aD×Int):=
  if((a0.length:Int)==0)=true then(some ((aD.mk 0 0),24))else((cO a0).bind fun x2=>if x2=true then(some ((aD.mk 0 0),1))else((fu a0).bind fun x4=>(fw a0).bind fun x5=>some ((aD.mk x4 x5),0)))
def gJ(a0:ak)(a1:aq)(a2:(List ac)):Option (bf×Int):=
  (iu a0 a1 a2).bind fun x1=>if(x1.2 != 0)=true then(some ((bf.mk [] (au.mk (aa.mk 0 0 0) 0 0 0 (ai.mk (aa.mk 0 0 0) (aa.mk 0 0 0))) (aD.mk 0 0) 0),x1.2))else((jx x1.1 a0).bind fun x3=>if(x3.2 != 0)=true then(some ((bf.mk [] (au.mk (aa.mk 0 0 0) 0 0 0 (ai.mk (aa.mk 0 0 0) (aa.mk 0 0 0))) (aD.mk 0 0) 0),x3.2))else((dp x3.1 a0.bw).bind fun x5=>if(x5.2 != 0)=true then(some ((bf.mk [] (au.mk (aa.mk 0 0 0) 0 0 0 (ai.mk (aa.mk 0 0 0) (aa.mk 0 0 0))) (aD.mk 0 0) 0),x5.2))else((c8 x1.1 a0 x5.1.aX).bind fun x7=>if(decide ((x7.length:Int)>0))=true then((fO x7).bind fun x9=>if(x9.2 != 0)=true then(some ((bf.mk [] (au.mk (aa.mk 0 0 0) 0 0 0 (ai.mk (aa.mk 0 0 0) (aa.mk 0 0 0))) (aD.mk 0 0) 0),x9.2))else(some ((bf.mk x1.1.dK x5.1 x9.1 (x7.length:Int)),0)))else(some ((bf.mk x1.1.dK x5.1 (aD.mk 0 0) 0),0)))))
def iz(a0:ac)(a1:ac):Option (Int):=
  (bN a0.a8 a1.a8).bind fun x1=>(ce a0 a1).bind fun x2=>(cH [x1,x2]).bind fun x3=>some x3
def co(a0:(List ac)):(Int×(List UInt8)×(List UInt8)×(List UInt8)×(List UInt8)×Int×Int×Int×Int×Int)->Option (gD (Int×(List UInt8)×(List UInt8)×(List UInt8)×(List UInt8)×Int×Int×Int×Int×Int) ((List UInt8)×(List UInt8)×(List UInt8)×(List UInt8)×Int×Int×Int×Int×Int)):=fun(s3,s4,s5,s6,s7,s8,s9,s10,s11,s12)=>
  if(decide (s3<(a0.length:Int)))=true then((fV a0 s3).bind fun x24=>(iz x24 (ac.mk (aw.mk s4 s5 s6 s7) s8 s9 s10 s11 s12)).bind fun x25=>if(decide (x25<0))=true then((fV a0 s3).bind fun x27=>some (.next ((IntKind.wrap .i64 (s3+1)),x27.aC.aY,x27.aC.aM,x27.aC.aj,x27.aC.a7,x27.a8,x27.aP,x27.bh,x27.aS,x27.aT)))else(some (.next ((IntKind.wrap .i64 (s3+1)),s4,s5,s6,s7,s8,s9,s10,s11,s12))))else(some (.stop (s4,s5,s6,s7,s8,s9,s10,s11,s12)))
def e7(a0:(List ac)):Option (ac):=
  if(decide ((a0.length:Int)<1))=true then(none)else((fV a0 0).bind fun x2=>(eO (co a0) (1,x2.aC.aY,x2.aC.aM,x2.aC.aj,x2.aC.a7,x2.a8,x2.aP,x2.bh,x2.aS,x2.aT)).bind fun o29=>some (ac.mk (aw.mk o29.1 o29.2.1 o29.2.2.1 o29.2.2.2.1) o29.2.2.2.2.1 o29.2.2.2.2.2.1 o29.2.2.2.2.2.2.1 o29.2.2.2.2.2.2.2.1 o29.2.2.2.2.2.2.2.2))
def mU(a0:(List ac)):Option (ac):=
  if((a0.length:Int)==0)=true then(some (ac.mk (aw.mk [] [] [] []) 0 0 0 0 0))else((e7 a0).bind fun x2=>some x2)
def jQ(a0:e9)(a1:az)(a2:az):Option (Int):=
  (iz a1.bd a2.bd).bind fun x1=>some x1
def gh(a1:Int)(s1:Int):(Int×(List az))->Option (gD (Int×(List az)) (Int×(List az))):=fun(s5,s6)=>
  if(decide (s5>a1))=true then((inO s6 s5).bind fun _=>(fV s6 s5).bind fun x13=>(inO s6 (IntKind.wrap .i64 (s5-1))).bind fun _=>(fV s6 (IntKind.wrap .i64 (s5-1))).bind fun x16=>(jQ (e9.mk ) x13 x16).bind fun x17=>if(decide (x17<0))=true then((inO s6 (IntKind.wrap .i64 (s5-1))).bind fun _=>(fV s6 (IntKind.wrap .i64 (s5-1))).bind fun x21=>(inO s6 s5).bind fun _=>(fV s6 s5).bind fun x24=>(inO s6 s5).bind fun _=>(ta s6 s5 x21).bind fun x27=>(inO x27 (IntKind.wrap .i64 (s5-1))).bind fun _=>(ta x27 (IntKind.wrap .i64 (s5-1)) x24).bind fun x30=>some (.next ((IntKind.wrap .i64 (s5-1)),x30)))else(some (.stop (s1,s6))))else(some (.stop (s1,s6)))
def gi(a2:Int)(a1:Int):(Int×(List az))->Option (gD (Int×(List az)) ((List az))):=fun(s1,s2)=>
  if(decide (s1<a2))=true then((eO (gh a1 s1) (s1,s2)).bind fun o32=>some (.next ((IntKind.wrap .i64 (o32.1+1)),o32.2)))else((some s2).bind fun z33=>some (.stop z33))
def cM(a1:Int)(a2:Int)(d0:(List az)):Option ((List az)):=
  (eO (gi a2 a1) ((IntKind.wrap .i64 (a1+1)),d0)).bind fun o35=>some o35
def bX(a2:Int)(a1:Int)(d0:(List az))(a3:Int):Unit->Option (gD (Unit) ((List az))):=fun _=>
  if(decide ((IntKind.wrap .i64 (a2-a1))<=12))=true then((cM a1 a2 d0).bind fun x3=>some (.stop x3))else(if(a3==0)=true then(none)else(none))
def eU:Nat->Int->Int->Int->(List az)->Option ((List az))
  |0,_,_,_,_=>none
  |nfu+1,a1,a2,a3,d0=>
  (eO (bX a2 a1 d0 a3) ()).bind fun o6=>some o6
def cB(a1:Int)(a2:Int)(a3:Int)(d0:(List az)):Option ((List az)):=recO fun n=>eU n a1 a2 a3 d0
def dl(d0:(List az)):Option ((List az)):=
  (fG (IntKind.wrap .u64 (d0.length:Int))).bind fun x1=>(cB 0 (d0.length:Int) x1 d0).bind fun x2=>some x2
def kP(x10:ba)(x1:(List ac)×(List al)×Int)(s5:Int)(s6:(List az)):(Int×(List ac))->Option (gD (Int×(List ac)) (Int×(List az)×(List ac))):=fun(s11,s12)=>
  if(decide (s11<(x10.cw.length:Int)))=true then((fV x10.cw s11).bind fun x18=>(fV x1.1 x18).bind fun x19=>(qt s12 [x19] 104).bind fun x20=>some (.next ((IntKind.wrap .i64 (s11+1)),x20)))else(some (.stop (s5,s6,s12)))
def kQ(x3:(List ba)×(List Int)×Int)(x1:(List ac)×(List al)×Int)(a0:ak)(a1:aq):(Int×(List az))->Option (gD (Int×(List az)) (((List az))⊕((List az)×(List ac)×Int))):=fun(s5,s6)=>
  if(decide (s5<(x3.1.length:Int)))=true then((fV x3.1 s5).bind fun x10=>(eO (kP x10 x1 s5 s6) (0,([]:(List ac)))).bind fun o22=>(gJ a0 a1 o22.2.2).bind fun x23=>if(x23.2 != 0)=true then(some (.stop (.inr (([]:(List az)),([]:(List ac)),x23.2))))else((mU x23.1.bo).bind fun x25=>(qt o22.2.1 [(az.mk x25 x23.1)] 248).bind fun x26=>some (.next ((IntKind.wrap .i64 (o22.1+1)),x26))))else(some (.stop (.inl s6)))
def kR(x3:(List ba)×(List Int)×Int)(x1:(List ac)×(List al)×Int):(Int×(List ac))->Option (gD (Int×(List ac)) ((List ac))):=fun(s32,s33)=>
  if(decide (s32<(x3.2.1.length:Int)))=true then((fV x3.2.1 s32).bind fun x37=>(fV x1.1 x37).bind fun x38=>(qt s33 [x38] 104).bind fun x39=>some (.next ((IntKind.wrap .i64 (s32+1)),x39)))else(some (.stop s33))
def dC(a0:ak)(a1:aq)(a2:(List ac)):Option ((List az)×(List ac)×Int):=
  (kS a0 a1 a2).bind fun x1=>if(x1.2.2 != 0)=true then(some (([]:(List az)),([]:(List ac)),x1.2.2))else((gj a0.ag x1.2.1).bind fun x3=>if(x3.2.2 != 0)=true then(some (([]:(List az)),([]:(List ac)),x3.2.2))else((eO (kQ x3 x1 a0 a1) (0,([]:(List az)))).bind fun o28=>match o28 with| .inl y29=>((dl y29).bind fun x31=>(eO (kR x3 x1) (0,([]:(List ac)))).bind fun o41=>some (x31,o41,0))| .inr r30=>(some r30)))
def lq(a0:az)(d0:ac):Option (Bool):=
  some (((a0.bd.aC.aY==d0.aC.aY)&&((a0.bd.aC.aM==d0.aC.aM)&&((a0.bd.aC.aj==d0.aC.aj)&&((a0.bd.aC.a7==d0.aC.a7)&&true))))&&((a0.bd.a8==d0.a8)&&((a0.bd.aP==d0.aP)&&((a0.bd.bh==d0.bh)&&((a0.bd.aS==d0.aS)&&((a0.bd.aT==d0.aT)&&true))))))
def de(a0:(List az))(d0:ac):Int->Option (gD (Int) ((Unit)⊕(Int))):=fun s1=>
  if(decide (s1<(a0.length:Int)))=true then((fV a0 s1).bind fun x4=>(lq x4 d0).bind fun x5=>if x5=true then(some (.stop (.inr s1)))else(some (.next (IntKind.wrap .i64 (s1+1)))))else(some (.stop (.inl ())))
def eY(a0:(List az))(d0:ac):Option (Int):=
  (eO (de a0 d0) 0).bind fun o8=>match o8 with| .inl _=>(some (-1))| .inr r10=>(some r10)
def iR(a0:(List az))(a1:ac):Option (Int):=
  (eY a0 a1).bind fun x1=>some x1
def fN:Option (Bool):=
  (im []).bind fun x1=>(cU 2 x1).bind fun x2=>(eD 3 x2.2).bind fun x3=>(c6 1).bind fun x4=>(dC x2.1 x3.1 [(ac.mk x4 2500 2500 2500 11 0),(ac.mk x4 2500 2500 2500 10 0)]).bind fun x5=>(dC x2.1 x3.1 []).bind fun x6=>if(x5.2.2==0)=true then(if((x5.1.length:Int)==1)=true then(if((x5.2.1.length:Int)==0)=true then((fV x5.1 0).bind fun x10=>if(((x10.bd.aC.aY==x4.aY)&&((x10.bd.aC.aM==x4.aM)&&((x10.bd.aC.aj==x4.aj)&&((x10.bd.aC.a7==x4.a7)&&true))))&&((x10.bd.a8==2500)&&((x10.bd.aP==2500)&&((x10.bd.bh==2500)&&((x10.bd.aS==10)&&((x10.bd.aT==0)&&true))))))=true then((fV x5.1 0).bind fun x12=>if((x12.ap.bo.length:Int)==2)=true then(if(x6.2.2==0)=true then(if((x6.1.length:Int)==0)=true then((iR x5.1 (ac.mk x4 2500 2500 2500 10 0)).bind fun x16=>if(x16==0)=true then((iR x5.1 (ac.mk x4 2500 2500 2500 11 0)).bind fun x18=>some (x18==(-1)))else(some false))else(some false))else(some false))else(some false))else(some false))else(some false))else(some false))else(some false)
def gf(a0:(List UInt8))(a1:(List UInt8)):Option (Int):=
  if(Op.bytesLess a0 a1)=true then(some (-1))else(if(!(Op.bytesLess a0 a1||a0==a1))=true then(some 1)else(some 0))
def jR(a0:aw)(a1:aw):Option (Int):=
  (gf a0.aY a1.aY).bind fun x1=>(gf a0.aM a1.aM).bind fun x2=>(gf a0.aj a1.aj).bind fun x3=>(gf a0.a7 a1.a7).bind fun x4=>if(x1 != 0)=true then(some x1)else(if(x2 != 0)=true then(some x2)else(if(x3 != 0)=true then(some x3)else(if(x4 != 0)=true then(some x4)else(some 0))))
def pa(a0:(List ac)):Int->Option (gD (Int) ((Unit)⊕(Bool))):=fun s1=>
  if(decide (s1<(a0.length:Int)))=true then((fV a0 (IntKind.wrap .i64 (s1-1))).bind fun x4=>(fV a0 s1).bind fun x5=>(ce x4 x5).bind fun x6=>if(decide (x6>=0))=true then(some (.stop (.inr false)))else(some (.next (IntKind.wrap .i64 (s1+1)))))else(some (.stop (.inl ())))
def mE(a0:(List ac)):Option (Bool):=
  (eO (pa a0) 1).bind fun o9=>match o9 with| .inl _=>(some true)| .inr r11=>(some r11)
def oZ(x5:az)(s1:Int):(Int×(List (ac×bY)))->Option (gD (Int×(List (ac×bY))) ((Int×(List (ac×bY)))⊕(Bool))):=fun(s6,s7)=>
  if(decide (s6<(x5.ap.bo.length:Int)))=true then((fV x5.ap.bo s6).bind fun x12=>if(zk rO x12 s7)=true then(some (.stop (.inr false)))else(some (.next ((IntKind.wrap .i64 (s6+1)),(zl rO x12 (bY.mk ) s7)))))else(some (.stop (.inl (s1,s7))))
def il(x5:az)(s1:Int)(s2:(List (ac×bY))):Option (gD (Int×(List (ac×bY))) ((Unit)⊕(Bool))):=
  (eO (oZ x5 s1) (0,s2)).bind fun o15=>match o15 with| .inl y16=>(some (.next ((IntKind.wrap .i64 (y16.1+1)),y16.2)))| .inr r17=>(some (.stop (.inr r17)))
def o0(a0:(List az)):(Int×(List (ac×bY)))->Option (gD (Int×(List (ac×bY))) ((Unit)⊕(Bool))):=fun(s1,s2)=>
  if(decide (s1<(a0.length:Int)))=true then((fV a0 s1).bind fun x5=>if((x5.ap.bo.length:Int)==0)=true then(some (.stop (.inr false)))else((mE x5.ap.bo).bind fun x20=>if(!x20)=true then(some (.stop (.inr false)))else((mU x5.ap.bo).bind fun x22=>if(!(((x5.bd.aC.aY==x22.aC.aY)&&((x5.bd.aC.aM==x22.aC.aM)&&((x5.bd.aC.aj==x22.aC.aj)&&((x5.bd.aC.a7==x22.aC.a7)&&true))))&&((x5.bd.a8==x22.a8)&&((x5.bd.aP==x22.aP)&&((x5.bd.bh==x22.bh)&&((x5.bd.aS==x22.aS)&&((x5.bd.aT==x22.aT)&&true)))))))=true then(some (.stop (.inr false)))else(if(decide (s1>0))=true then((fV a0 (IntKind.wrap .i64 (s1-1))).bind fun x25=>(iz x25.bd x5.bd).bind fun x26=>if(decide (x26>=0))=true then(some (.stop (.inr false)))else(il x5 s1 s2))else(il x5 s1 s2)))))else(some (.stop (.inl ())))
def nv(a0:(List az)):Option (Bool):=
  (eO (o0 a0) (0,([]:List (ac×bY)))).bind fun o29=>match o29 with| .inl _=>(some true)| .inr r31=>(some r31)
def jS(a0:ac)(a1:ac):Option (Int):=
  (jR a0.aC a1.aC).bind fun x1=>if(x1 != 0)=true then(some x1)else(if(decide (a0.a8<a1.a8))=true then(some (-1))else(if(decide (a0.a8>a1.a8))=true then(some 1)else(if(decide (a0.aP<a1.aP))=true then(some (-1))else(if(decide (a0.aP>a1.aP))=true then(some 1)else(if(decide (a0.bh<a1.bh))=true then(some (-1))else(if(decide (a0.bh>a1.bh))=true then(some 1)else(if(decide (a0.aS<a1.aS))=true then(some (-1))else(if(decide (a0.aS>a1.aS))=true then(some 1)else(if(decide (a0.aT<a1.aT))=true then(some (-1))else(if(decide (a0.aT>a1.aT))=true then(some 1)else(some 0)))))))))))
def kZ(s2:(List ac))(a0:(List ac))(s1:Int):Int->Option (gD (Int) (Int×Int×(List ac))):=fun s6=>
  if(decide (s6>0))=true then((inO s2 (IntKind.wrap .i64 (s6-1))).bind fun _=>(fV s2 (IntKind.wrap .i64 (s6-1))).bind fun x14=>(fV a0 s1).bind fun x15=>(jS x14 x15).bind fun x16=>if(decide (x16>0))=true then(some (.next (IntKind.wrap .i64 (s6-1))))else(some (.stop (s1,s6,s2))))else(some (.stop (s1,s6,s2)))
def gC(a0:(List ac))(o19:Int×Int×(List ac)):Option (gD (Int×(List ac)) ((List ac))):=
  (fV a0 o19.1).bind fun x20=>(qt o19.2.2 [x20] 104).bind fun x21=>(wv x21.length (IntKind.wrap .i64 (o19.2.1+1)) (x21.length:Int)).bind fun _=>(wv x21.length o19.2.1 (x21.length:Int)).bind fun _=>(yw x21.length (0+((IntKind.wrap .i64 (o19.2.1+1)):Int).toNat) (0+((x21.length:Int):Int).toNat)).bind fun _=>(wo x21 (0+(o19.2.1:Int).toNat) (0+((x21.length:Int):Int).toNat)).bind fun x25=>(fV a0 o19.1).bind fun x27=>(inO (xm x21 (0+((IntKind.wrap .i64 (o19.2.1+1)):Int).toNat) ((0+((x21.length:Int):Int).toNat)-(0+((IntKind.wrap .i64 (o19.2.1+1)):Int).toNat)) x25) o19.2.1).bind fun _=>(ta (xm x21 (0+((IntKind.wrap .i64 (o19.2.1+1)):Int).toNat) ((0+((x21.length:Int):Int).toNat)-(0+((IntKind.wrap .i64 (o19.2.1+1)):Int).toNat)) x25) o19.2.1 x27).bind fun x30=>some (.next ((IntKind.wrap .i64 (o19.1+1)),x30))
def nh(a0:(List ac)):(Int×(List ac))->Option (gD (Int×(List ac)) ((List ac))):=fun(s1,s2)=>
  if(decide (s1<(a0.length:Int)))=true then((eO (kZ s2 a0 s1) (s2.length:Int)).bind fun o19=>if(decide (o19.2.1>0))=true then((inO o19.2.2 (IntKind.wrap .i64 (o19.2.1-1))).bind fun _=>(fV o19.2.2 (IntKind.wrap .i64 (o19.2.1-1))).bind fun x35=>(fV a0 o19.1).bind fun x36=>if(((x35.aC.aY==x36.aC.aY)&&((x35.aC.aM==x36.aC.aM)&&((x35.aC.aj==x36.aC.aj)&&((x35.aC.a7==x36.aC.a7)&&true))))&&((x35.a8==x36.a8)&&((x35.aP==x36.aP)&&((x35.bh==x36.bh)&&((x35.aS==x36.aS)&&((x35.aT==x36.aT)&&true))))))=true then(some (.next ((IntKind.wrap .i64 (o19.1+1)),o19.2.2)))else(gC a0 o19))else(gC a0 o19))else(some (.stop s2))
def ng(a0:(List ac)):Option ((List ac)):=
  (eO (nh a0) (0,([]:(List ac)))).bind fun o39=>some o39
def fK(x25:az)(x17:ac)(s19:Int)(s20:Int):(Int×Int)->Option (gD (Int×Int) (Int×Int×Int)):=fun(s27,s28)=>
  if(decide (s28<(x25.ap.bo.length:Int)))=true then((fV x25.ap.bo s28).bind fun x34=>if(((x34.aC.aY==x17.aC.aY)&&((x34.aC.aM==x17.aC.aM)&&((x34.aC.aj==x17.aC.aj)&&((x34.aC.a7==x17.aC.a7)&&true))))&&((x34.a8==x17.a8)&&((x34.aP==x17.aP)&&((x34.bh==x17.bh)&&((x34.aS==x17.aS)&&((x34.aT==x17.aT)&&true))))))=true then(some (.next ((IntKind.wrap .i64 (s27+1)),(IntKind.wrap .i64 (s28+1)))))else(some (.next (s27,(IntKind.wrap .i64 (s28+1))))))else(some (.stop (s27,s19,s20)))
def ek(x5:(List az)×(List ac)×Int)(x2:ak×ae)(x17:ac):(Int×Int×Int)->Option (gD (Int×Int×Int) ((Int×Int)⊕(Bool))):=fun(s18,s19,s20)=>
  if(decide (s20<(x5.1.length:Int)))=true then((fV x5.1 s20).bind fun x25=>if(decide ((x25.ap.bo.length:Int)<x2.1.ag.cm))=true then(some (.stop (.inr false)))else((eO (fK x25 x17 s19 s20) (s18,0)).bind fun o37=>some (.next (o37.1,o37.2.1,(IntKind.wrap .i64 (o37.2.2+1))))))else(some (.stop (.inl (s18,s19))))
def fM(x5:(List az)×(List ac)×Int)(x17:ac):(Int×Int)->Option (gD (Int×Int) (Int)):=fun(s42,s43)=>
  if(decide (s43<(x5.2.1.length:Int)))=true then((fV x5.2.1 s43).bind fun x47=>if(((x47.aC.aY==x17.aC.aY)&&((x47.aC.aM==x17.aC.aM)&&((x47.aC.aj==x17.aC.aj)&&((x47.aC.a7==x17.aC.a7)&&true))))&&((x47.a8==x17.a8)&&((x47.aP==x17.aP)&&((x47.bh==x17.bh)&&((x47.aS==x17.aS)&&((x47.aT==x17.aT)&&true))))))=true then(some (.next ((IntKind.wrap .i64 (s42+1)),(IntKind.wrap .i64 (s43+1)))))else(some (.next (s42,(IntKind.wrap .i64 (s43+1))))))else(some (.stop s42))
def iU(x13:(List ac))(x5:(List az)×(List ac)×Int)(x2:ak×ae)(x3:aq×ae):Int->Option (gD (Int) ((Unit)⊕(Bool))):=fun s14=>
  if(decide (s14<(x13.length:Int)))=true then((fV x13 s14).bind fun x17=>(eO (ek x5 x2 x17) (0,s14,0)).bind fun o39=>match o39 with| .inl y40=>((eO (fM x5 x17) (y40.1,0)).bind fun o50=>(ir x2.1 x3.1 x17).bind fun x51=>if(!(x51.2==(o50==1)))=true then(some (.stop (.inr false)))else(if(!x51.2)=true then(if(decide (o50>0))=true then(some (.stop (.inr false)))else(some (.next (IntKind.wrap .i64 (y40.2+1)))))else(some (.next (IntKind.wrap .i64 (y40.2+1))))))| .inr r41=>(some (.stop (.inr r41))))else(some (.stop (.inl ())))
def lx(a0:(List Int)):Option (Bool):=
  (im a0).bind fun x1=>(cU 4 x1).bind fun x2=>(eD 6 x2.2).bind fun x3=>(lk x2.1 x3.1 12 x3.2).bind fun x4=>(dC x2.1 x3.1 x4.1).bind fun x5=>if(x5.2.2 != 0)=true then(if(x5.2.2==25)=true then((fN ).bind fun x8=>some x8)else(some false))else((nv x5.1).bind fun x9=>if(!x9)=true then(if(x5.2.2==25)=true then((fN ).bind fun x12=>some x12)else(some false))else((ng x4.1).bind fun x13=>(eO (iU x13 x5 x2 x3) 0).bind fun o56=>match o56 with| .inl _=>((fN ).bind fun x59=>some x59)| .inr r58=>(some r58)))
end
end Go.Dw.Et
