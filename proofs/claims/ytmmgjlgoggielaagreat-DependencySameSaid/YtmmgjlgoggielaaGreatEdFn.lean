
import Derived.Test.YtmmgjlgoggielaaGreatDwNest
import Derived.Test.YtmmgjlgoggielaaGreatDwSortIP
import Derived.Test.YtmmgjlgoggielaaGreatDwSortP

namespace Go.Dw.Ed
open Go.Dw
noncomputable section
def closed47:Option Bool:=some true
structure ac where
  fL:(List Int)
  fAt:Int
  deriving DecidableEq
def ac.pd(x:ac):PD:= .agg [.lst (x.fL.map (PD.int .i64)),.int .i64 x.fAt]
structure aa where
  fX:Int
  fY:Int
  fZ:Int
  deriving DecidableEq
def aa.pd(x:aa):PD:= .agg [.int .i64 x.fX,.int .i64 x.fY,.int .i64 x.fZ]
structure ah where
  aI:aa
  aC:aa
  deriving DecidableEq
def ah.pd(x:ah):PD:= .agg [.int .i64 x.aI.fX,.int .i64 x.aI.fY,.int .i64 x.aI.fZ,.int .i64 x.aC.fX,.int .i64 x.aC.fY,.int .i64 x.aC.fZ]
structure aH where
  bn:Int
  aI:(List Int)
  aC:(List Int)
  deriving DecidableEq
def aH.pd(x:aH):PD:= .agg [.int .i64 x.bn,.lst (x.aI.map (PD.int .i64)),.lst (x.aC.map (PD.int .i64))]
structure aG where
  aK:ah
  bc:aH
  cU:Int
  bP:Int
  dn:Int
  kM:Int
  cN:Int
  deriving DecidableEq
def aG.pd(x:aG):PD:= .agg [.int .i64 x.aK.aI.fX,.int .i64 x.aK.aI.fY,.int .i64 x.aK.aI.fZ,.int .i64 x.aK.aC.fX,.int .i64 x.aK.aC.fY,.int .i64 x.aK.aC.fZ,.int .i64 x.bc.bn,.lst (x.bc.aI.map (PD.int .i64)),.lst (x.bc.aC.map (PD.int .i64)),.int .i64 x.cU,.int .i64 x.bP,.int .i64 x.dn,.int .i64 x.kM,.int .i64 x.cN]
structure bz where
  bX:aH
  bK:Int
  bC:Int
  deriving DecidableEq
def bz.pd(x:bz):PD:= .agg [.int .i64 x.bX.bn,.lst (x.bX.aI.map (PD.int .i64)),.lst (x.bX.aC.map (PD.int .i64)),.int .i64 x.bK,.int .i64 x.bC]
structure aq where
  ai:aG
  eB:bz
  bP:Int
  deriving DecidableEq
def aq.pd(x:aq):PD:= .agg [.int .i64 x.ai.aK.aI.fX,.int .i64 x.ai.aK.aI.fY,.int .i64 x.ai.aK.aI.fZ,.int .i64 x.ai.aK.aC.fX,.int .i64 x.ai.aK.aC.fY,.int .i64 x.ai.aK.aC.fZ,.int .i64 x.ai.bc.bn,.lst (x.ai.bc.aI.map (PD.int .i64)),.lst (x.ai.bc.aC.map (PD.int .i64)),.int .i64 x.ai.cU,.int .i64 x.ai.bP,.int .i64 x.ai.dn,.int .i64 x.ai.kM,.int .i64 x.ai.cN,.int .i64 x.eB.bX.bn,.lst (x.eB.bX.aI.map (PD.int .i64)),.lst (x.eB.bX.aC.map (PD.int .i64)),.int .i64 x.eB.bK,.int .i64 x.eB.bC,.int .i64 x.bP]
structure aw where
  bd:(List UInt8)
  aQ:(List UInt8)
  av:(List UInt8)
  bh:(List UInt8)
  deriving DecidableEq
def aw.pd(x:aw):PD:= .agg [.str x.bd,.str x.aQ,.str x.av,.str x.bh]
structure bJ where
  bK:Int
  bC:Int
  deriving DecidableEq
def bJ.pd(x:bJ):PD:= .agg [.int .i64 x.bK,.int .i64 x.bC]
structure aT where
  a0:Int
  a1:Int
  a2:Int
  deriving DecidableEq
def aT.pd(x:aT):PD:= .agg [.int .i64 x.a0,.int .i64 x.a1,.int .i64 x.a2]
structure aB where
  iL:Int
  bK:aT
  bC:aT
  eC:(List Int)
  dl:Int
  dm:Int
  deriving DecidableEq
def aB.pd(x:aB):PD:= .agg [.int .i64 x.iL,.int .i64 x.bK.a0,.int .i64 x.bK.a1,.int .i64 x.bK.a2,.int .i64 x.bC.a0,.int .i64 x.bC.a1,.int .i64 x.bC.a2,.lst (x.eC.map (PD.int .i64)),.int .i64 x.dl,.int .i64 x.dm]
structure aP where
  bw:(List aB)
  deriving DecidableEq
def aP.pd(x:aP):PD:= .agg [.lst (x.bw.map aB.pd)]
structure ar where
  bj:Int
  fTo:Int
  fy:bJ
  aW:aa
  bg:aP
  deriving DecidableEq
def ar.pd(x:ar):PD:= .agg [.int .i64 x.bj,.int .i64 x.fTo,.int .i64 x.fy.bK,.int .i64 x.fy.bC,.int .i64 x.aW.fX,.int .i64 x.aW.fY,.int .i64 x.aW.fZ,.lst (x.bg.bw.map aB.pd)]
structure au where
  aA:aw
  bL:(List ar)
  deriving DecidableEq
def au.pd(x:au):PD:= .agg [.str x.aA.bd,.str x.aA.aQ,.str x.aA.av,.str x.aA.bh,.lst (x.bL.map ar.pd)]
structure ap where
  aO:(List au)
  deriving DecidableEq
def ap.pd(x:ap):PD:= .agg [.lst (x.aO.map au.pd)]
structure ae where
  aA:aw
  a7:Int
  aM:Int
  bv:Int
  a8:Int
  bp:Int
  deriving DecidableEq
def ae.pd(x:ae):PD:= .agg [.str x.aA.bd,.str x.aA.aQ,.str x.aA.av,.str x.aA.bh,.int .i64 x.a7,.int .i64 x.aM,.int .i64 x.bv,.int .i64 x.a8,.int .i64 x.bp]
structure aj where
  aU:aa
  a7:Int
  bi:Int
  eN:Int
  aZ:ah
  deriving DecidableEq
def aj.pd(x:aj):PD:= .agg [.int .i64 x.aU.fX,.int .i64 x.aU.fY,.int .i64 x.aU.fZ,.int .i64 x.a7,.int .i64 x.bi,.int .i64 x.eN,.int .i64 x.aZ.aI.fX,.int .i64 x.aZ.aI.fY,.int .i64 x.aZ.aI.fZ,.int .i64 x.aZ.aC.fX,.int .i64 x.aZ.aC.fY,.int .i64 x.aZ.aC.fZ]
structure az where
  aI:Int
  aC:Int
  deriving DecidableEq
def az.pd(x:az):PD:= .agg [.int .i64 x.aI,.int .i64 x.aC]
structure aY where
  f5:(List ae)
  av:aj
  bO:az
  jc:Int
  deriving DecidableEq
def aY.pd(x:aY):PD:= .agg [.lst (x.f5.map ae.pd),.int .i64 x.av.aU.fX,.int .i64 x.av.aU.fY,.int .i64 x.av.aU.fZ,.int .i64 x.av.a7,.int .i64 x.av.bi,.int .i64 x.av.eN,.int .i64 x.av.aZ.aI.fX,.int .i64 x.av.aZ.aI.fY,.int .i64 x.av.aZ.aI.fZ,.int .i64 x.av.aZ.aC.fX,.int .i64 x.av.aZ.aC.fY,.int .i64 x.av.aZ.aC.fZ,.int .i64 x.bO.aI,.int .i64 x.bO.aC,.int .i64 x.jc]
structure aD where
  bV:ae
  aL:aY
  deriving DecidableEq
def aD.pd(x:aD):PD:= .agg [.str x.bV.aA.bd,.str x.bV.aA.aQ,.str x.bV.aA.av,.str x.bV.aA.bh,.int .i64 x.bV.a7,.int .i64 x.bV.aM,.int .i64 x.bV.bv,.int .i64 x.bV.a8,.int .i64 x.bV.bp,.lst (x.aL.f5.map ae.pd),.int .i64 x.aL.av.aU.fX,.int .i64 x.aL.av.aU.fY,.int .i64 x.aL.av.aU.fZ,.int .i64 x.aL.av.a7,.int .i64 x.aL.av.bi,.int .i64 x.aL.av.eN,.int .i64 x.aL.av.aZ.aI.fX,.int .i64 x.aL.av.aZ.aI.fY,.int .i64 x.aL.av.aZ.aI.fZ,.int .i64 x.aL.av.aZ.aC.fX,.int .i64 x.aL.av.aZ.aC.fY,.int .i64 x.aL.av.aZ.aC.fZ,.int .i64 x.aL.bO.aI,.int .i64 x.aL.bO.aC,.int .i64 x.aL.jc]
structure al where
  aQ:aa
  aM:Int
  bv:Int
  bD:Int
  deriving DecidableEq
def al.pd(x:al):PD:= .agg [.int .i64 x.aQ.fX,.int .i64 x.aQ.fY,.int .i64 x.aQ.fZ,.int .i64 x.aM,.int .i64 x.bv,.int .i64 x.bD]
structure aF where
  bj:Int
  fTo:Int
  deriving DecidableEq
def aF.pd(x:aF):PD:= .agg [.int .i64 x.bj,.int .i64 x.fTo]
structure aV where
  cj:(List Int)
  aU:aa
  a7:Int
  deriving DecidableEq
def aV.pd(x:aV):PD:= .agg [.lst (x.cj.map (PD.int .i64)),.int .i64 x.aU.fX,.int .i64 x.aU.fY,.int .i64 x.aU.fZ,.int .i64 x.a7]
structure ba where
  mE:(List Int)
  fback:(List Int)
  deriving DecidableEq
def ba.pd(x:ba):PD:= .agg [.lst (x.mE.map (PD.int .i64)),.lst (x.fback.map (PD.int .i64))]
structure ag where
  aK:ah
  bc:aH
  aX:(List al)
  cU:Int
  deriving DecidableEq
def ag.pd(x:ag):PD:= .agg [.int .i64 x.aK.aI.fX,.int .i64 x.aK.aI.fY,.int .i64 x.aK.aI.fZ,.int .i64 x.aK.aC.fX,.int .i64 x.aK.aC.fY,.int .i64 x.aK.aC.fZ,.int .i64 x.bc.bn,.lst (x.bc.aI.map (PD.int .i64)),.lst (x.bc.aC.map (PD.int .i64)),.lst (x.aX.map al.pd),.int .i64 x.cU]
structure ak where
  jd:ah
  ce:Int
  f8:Int
  deriving DecidableEq
def ak.pd(x:ak):PD:= .agg [.int .i64 x.jd.aI.fX,.int .i64 x.jd.aI.fY,.int .i64 x.jd.aI.fZ,.int .i64 x.jd.aC.fX,.int .i64 x.jd.aC.fY,.int .i64 x.jd.aC.fZ,.int .i64 x.ce,.int .i64 x.f8]
structure bM where
  fp:ag
  jD:(List ak)
  f8:Int
  ftaken:Int
  ffound:Bool
  bQ:aj
  deriving DecidableEq
def bM.pd(x:bM):PD:= .agg [.int .i64 x.fp.aK.aI.fX,.int .i64 x.fp.aK.aI.fY,.int .i64 x.fp.aK.aI.fZ,.int .i64 x.fp.aK.aC.fX,.int .i64 x.fp.aK.aC.fY,.int .i64 x.fp.aK.aC.fZ,.int .i64 x.fp.bc.bn,.lst (x.fp.bc.aI.map (PD.int .i64)),.lst (x.fp.bc.aC.map (PD.int .i64)),.lst (x.fp.aX.map al.pd),.int .i64 x.fp.cU,.lst (x.jD.map ak.pd),.int .i64 x.f8,.int .i64 x.ftaken,.bool x.ffound,.int .i64 x.bQ.aU.fX,.int .i64 x.bQ.aU.fY,.int .i64 x.bQ.aU.fZ,.int .i64 x.bQ.a7,.int .i64 x.bQ.bi,.int .i64 x.bQ.eN,.int .i64 x.bQ.aZ.aI.fX,.int .i64 x.bQ.aZ.aI.fY,.int .i64 x.bQ.aZ.aI.fZ,.int .i64 x.bQ.aZ.aC.fX,.int .i64 x.bQ.aZ.aC.fY,.int .i64 x.bQ.aZ.aC.fZ]
structure aS where
  db:(List ae)
  cx:(List al)
  f7:(List ar)
  deriving DecidableEq
def aS.pd(x:aS):PD:= .agg [.lst (x.db.map ae.pd),.lst (x.cx.map al.pd),.lst (x.f7.map ar.pd)]
structure aJ where
  bK:(List Int)
  bC:(List Int)
  deriving DecidableEq
def aJ.pd(x:aJ):PD:= .agg [.lst (x.bK.map (PD.int .i64)),.lst (x.bC.map (PD.int .i64))]
structure eo where
  deriving DecidableEq
def eo.pd(x:eo):PD:= .agg []
def pp(a0:(List Int)):Option (ac):=
  (cutO a0 0 (if 2000<(a0.length:Int)then 2000 else(a0.length:Int))).bind fun x1=>some (ac.mk x1 0)
def Src_Raw(d0:ac):Option (Int×ac):=
  if(decide (d0.fAt>=(d0.fL.length:Int)))=true then(some (0,d0))else((pH d0.fL (IntKind.wrap .i64 ((IntKind.wrap .i64 (d0.fAt+1))-1))).bind fun x2=>some (x2,(ac.mk d0.fL (IntKind.wrap .i64 (d0.fAt+1)))))
def nJ(a0:Int)(a1:Int):Option (Int):=
  if(decide (a1<1))=true then(some 0)else((vL a0 a1).bind fun x2=>if(decide (x2<0))=true then(some (IntKind.wrap .i64 (x2+a1)))else(some x2))
def cV(a1:Int)(d0:ac):Option (Int×ac):=
  (Src_Raw d0).bind fun x1=>(nJ x1.1 a1).bind fun x2=>some (x2,x1.2)
def jV(a1:Int)(d0:ac):Option (aa×ac):=
  (cV (IntKind.wrap .i64 ((IntKind.wrap .i64 (2*a1))+1)) d0).bind fun x1=>(cV (IntKind.wrap .i64 ((IntKind.wrap .i64 (2*a1))+1)) x1.2).bind fun x2=>(cV (IntKind.wrap .i64 (a1+1)) x2.2).bind fun x3=>some ((aa.mk (IntKind.wrap .i64 (x1.1-a1)) (IntKind.wrap .i64 (x2.1-a1)) x3.1),x3.2)
def n8(a1:Int)(a2:Int)(d0:ac):Option (ah×ac):=
  (jV a1 d0).bind fun x1=>(cV (IntKind.wrap .i64 (a2+1)) x1.2).bind fun x2=>(cV (IntKind.wrap .i64 (a2+1)) x2.2).bind fun x3=>(cV (IntKind.wrap .i64 (a2+1)) x3.2).bind fun x4=>some ((ah.mk x1.1 (aa.mk (IntKind.wrap .i64 (x1.1.fX+x2.1)) (IntKind.wrap .i64 (x1.1.fY+x3.1)) (IntKind.wrap .i64 (x1.1.fZ+x4.1)))),x4.2)
def ey(a1:(List Int))(d0:ac):Option (Int×ac):=
  (cV (a1.length:Int) d0).bind fun x1=>(pH a1 x1.1).bind fun x2=>some (x2,x1.2)
def ks(x1:Int×ac):(Int×Int×Int×(List Int)×Int×(List Int)×(List Int))->Option (py (Int×Int×Int×(List Int)×Int×(List Int)×(List Int)) ((List Int)×Int×(List Int)×(List Int))):=fun(s3,s4,s5,s6,s7,s8,s9)=>
  (ru .i64 400 x1.1).bind fun x15=>(cV 3 (ac.mk s6 s7)).bind fun x16=>if(decide (s5<=(IntKind.wrap .i64 (x15+x16.1))))=true then((qq s8 [s3] 8).bind fun x18=>(qq s9 [s4] 8).bind fun x19=>(ey [0,10,20,35] x16.2).bind fun x20=>(ru .i64 x1.1 4).bind fun x21=>(ey [0,0,5,30] x20.2).bind fun x22=>some (.next ((IntKind.wrap .i64 (s3+(IntKind.wrap .i64 (x20.1+x21)))),(IntKind.wrap .i64 ((if(IntKind.wrap .i64 (s3+(IntKind.wrap .i64 (x20.1+x21))))>s4 then(IntKind.wrap .i64 (s3+(IntKind.wrap .i64 (x20.1+x21))))else s4)+x22.1)),(IntKind.wrap .i64 (s5+1)),x22.2.fL,x22.2.fAt,x18,x19)))else(some (.stop (x16.2.fL,x16.2.fAt,s8,s9)))
def jX(d0:ac):Option (aH×ac):=
  (ey [20,25,40,100] d0).bind fun x1=>(cV 3 x1.2).bind fun x2=>(oC (ks x1) (0,x2.1,0,x2.2.fL,x2.2.fAt,([]:(List Int)),([]:(List Int)))).bind fun o24=>some ((aH.mk x1.1 o24.2.2.1 o24.2.2.2),(ac.mk o24.1 o24.2.1))
def eP(a1:Int)(d0:ac):Option (aG×ac):=
  (n8 20 a1 d0).bind fun x1=>(jX x1.2).bind fun x2=>(ey [10,50,200] x2.2).bind fun x3=>(ey [0,0,10,40] x3.2).bind fun x4=>(ey [0,50,200,400] x4.2).bind fun x5=>(ey [0,5,20] x5.2).bind fun x6=>(cV 2 x6.2).bind fun x7=>some ((aG.mk x1.1 x2.1 x3.1 x4.1 x5.1 x6.1 (IntKind.wrap .i64 (2+x7.1))),x7.2)
def mi(x1:aH×ac):(Int×(List Int)×(List Int))->Option (py (Int×(List Int)×(List Int)) ((List Int)×(List Int))):=fun(s4,s5,s6)=>
  if(decide (s4<(x1.1.aI.length:Int)))=true then((inO s5 s4).bind fun _=>(pH s5 s4).bind fun x13=>(ru .i64 x13 3).bind fun x14=>(inO s6 s4).bind fun _=>(pH s6 s4).bind fun x17=>(ru .i64 x17 3).bind fun x18=>(inO s5 s4).bind fun _=>(sb s5 s4 x14).bind fun x21=>(inO s6 s4).bind fun _=>(sb s6 s4 x18).bind fun x24=>some (.next ((IntKind.wrap .i64 (s4+1)),x21,x24)))else(some (.stop (s5,s6)))
def lw(d0:ac):Option (bz×ac):=
  (jX d0).bind fun x1=>(cV 20 x1.2).bind fun x2=>(cV 9 x2.2).bind fun x3=>(oC (mi x1) (0,x1.1.aI,x1.1.aC)).bind fun o26=>some ((bz.mk (aH.mk x1.1.bn o26.1 o26.2) x2.1 (IntKind.wrap .i64 (1+x3.1))),x3.2)
def ig(a1:Int)(d0:ac):Option (aq×ac):=
  (eP a1 d0).bind fun x1=>(lw x1.2).bind fun x2=>(ey [0,0,10,40] x2.2).bind fun x3=>some ((aq.mk x1.1 x2.1 x3.1),x3.2)
def jW:(Int×(List Int)×Int×(List aB))->Option (py (Int×(List Int)×Int×(List aB)) ((List Int)×Int×(List aB))):=fun(s2,s3,s4,s5)=>
  if(decide (s2>0))=true then((cV 3 (ac.mk s3 s4)).bind fun x11=>if(x11.1==0)=true then((ey [0,1,9,99,1048575] x11.2).bind fun x13=>(ey [0,0,2,9,999] x13.2).bind fun x14=>(qq s5 [(aB.mk x11.1 (aT.mk (IntKind.wrap .i64 (1+x13.1)) 0 0) (aT.mk (IntKind.wrap .i64 (1+x14.1)) 0 0) [] 0 0)] 96).bind fun x15=>some (.next ((IntKind.wrap .i64 (s2-1)),x14.2.fL,x14.2.fAt,x15)))else(if(x11.1==1)=true then((cV 5 x11.2).bind fun x17=>(cV 7 x17.2).bind fun x18=>(cV 3 x18.2).bind fun x19=>(cV 5 x19.2).bind fun x20=>(cV 7 x20.2).bind fun x21=>(cV 3 x21.2).bind fun x22=>(qq s5 [(aB.mk x11.1 (aT.mk x17.1 (IntKind.wrap .i64 (x18.1-3)) (IntKind.wrap .i64 (x19.1-1))) (aT.mk (IntKind.wrap .i64 (1+x20.1)) x21.1 x22.1) [] 0 0)] 96).bind fun x23=>some (.next ((IntKind.wrap .i64 (s2-1)),x22.2.fL,x22.2.fAt,x23)))else((cV 3 x11.2).bind fun x24=>(cV 4 x24.2).bind fun x25=>(qq s5 [(aB.mk x11.1 (aT.mk 0 0 0) (aT.mk 0 0 0) [(IntKind.wrap .i64 (1+x24.1)),2,1] 1 x25.1)] 96).bind fun x26=>some (.next ((IntKind.wrap .i64 (s2-1)),x25.2.fL,x25.2.fAt,x26)))))else(some (.stop (s3,s4,s5)))
def eT(d0:ac):Option (aP×ac):=
  (cV 4 d0).bind fun x1=>(oC (jW) (x1.1,x1.2.fL,x1.2.fAt,([]:(List aB)))).bind fun o28=>some ((aP.mk o28.2.2),(ac.mk o28.1 o28.2.1))
def gN(a0:Int):Option (aw):=
  (nJ a0 6).bind fun x1=>(pH [[83,49],[83,50],[83,51],[83,52],[83,53],[83,54]] x1).bind fun x2=>some (aw.mk [65,66] x2 [48,48] [66,72,90])
def mj(a1:Int):(Int×(List Int)×Int×(List au))->Option (py (Int×(List Int)×Int×(List au)) ((List Int)×Int×(List au))):=fun(s1,s2,s3,s4)=>
  if(decide (s1<a1))=true then(if(decide (s1<6))=true then((jV 60 (ac.mk s2 s3)).bind fun x11=>(eT x11.2).bind fun x12=>(gN s1).bind fun x13=>(cV 6 x12.2).bind fun x14=>if(x14.1==0)=true then((cV 500 x14.2).bind fun x16=>(jV 60 x16.2).bind fun x17=>(eT x17.2).bind fun x18=>(inO [(ar.mk 0 100000 (bJ.mk 100 1) x11.1 x12.1)] 0).bind fun _=>(xw [(ar.mk 0 100000 (bJ.mk 100 1) x11.1 x12.1)] 0 (fun(z22:ar)=>(ar.mk z22.bj (IntKind.wrap .i64 (1500+x16.1)) z22.fy z22.aW z22.bg))).bind fun x21=>(qq x21 [(ar.mk (IntKind.wrap .i64 (1500+x16.1)) 100000 (bJ.mk 100 1) x17.1 x18.1)] 80).bind fun x23=>(qq s4 [(au.mk x13 x23)] 88).bind fun x24=>some (.next ((IntKind.wrap .i64 (s1+1)),x18.2.fL,x18.2.fAt,x24)))else(if(x14.1==1)=true then((cV 1500 x14.2).bind fun x26=>(inO [(ar.mk 0 100000 (bJ.mk 100 1) x11.1 x12.1)] 0).bind fun _=>(xw [(ar.mk 0 100000 (bJ.mk 100 1) x11.1 x12.1)] 0 (fun(z30:ar)=>(ar.mk x26.1 z30.fTo z30.fy z30.aW z30.bg))).bind fun x29=>(qq s4 [(au.mk x13 x29)] 88).bind fun x31=>some (.next ((IntKind.wrap .i64 (s1+1)),x26.2.fL,x26.2.fAt,x31)))else((qq s4 [(au.mk x13 [(ar.mk 0 100000 (bJ.mk 100 1) x11.1 x12.1)])] 88).bind fun x32=>some (.next ((IntKind.wrap .i64 (s1+1)),x14.2.fL,x14.2.fAt,x32)))))else(some (.stop (s2,s3,s4))))else(some (.stop (s2,s3,s4)))
def ly(a1:Int)(d0:ac):Option (ap×ac):=
  (oC (mj a1) (0,d0.fL,d0.fAt,([]:(List au)))).bind fun o34=>some ((ap.mk o34.2.2),(ac.mk o34.1 o34.2.1))
def lv(a1:Int)(a2:Int)(d0:ac):Option (Int×ac):=
  (cV (IntKind.wrap .i64 ((IntKind.wrap .i64 (a2-a1))+1)) d0).bind fun x1=>some ((IntKind.wrap .i64 (a1+x1.1)),x1.2)
def my(a1:ah)(d0:ac):Option (aa×ac):=
  (lv a1.aI.fX a1.aC.fX d0).bind fun x1=>(lv a1.aI.fY a1.aC.fY x1.2).bind fun x2=>(lv a1.aI.fZ a1.aC.fZ x2.2).bind fun x3=>some ((aa.mk x1.1 x2.1 x3.1),x3.2)
def nM(x4:au)(a1:aw)(a2:Int)(s1:Int):Int->Option (py (Int) ((Int)⊕(aa×Bool))):=fun s5=>
  if(decide (s5<(x4.bL.length:Int)))=true then((pH x4.bL s5).bind fun x9=>if((x4.aA.bd==a1.bd)&&((x4.aA.aQ==a1.aQ)&&((x4.aA.av==a1.av)&&((x4.aA.bh==a1.bh)&&true))))=true then(if(decide (x9.bj<=a2))=true then(if(decide (a2<x9.fTo))=true then(some (.stop (.inr (x9.aW,true))))else(some (.next (IntKind.wrap .i64 (s5+1)))))else(some (.next (IntKind.wrap .i64 (s5+1)))))else(some (.next (IntKind.wrap .i64 (s5+1)))))else(some (.stop (.inl s1)))
def nN(a0:ap)(a1:aw)(a2:Int):Int->Option (py (Int) ((Unit)⊕(aa×Bool))):=fun s1=>
  if(decide (s1<(a0.aO.length:Int)))=true then((pH a0.aO s1).bind fun x4=>(oC (nM x4 a1 a2 s1) 0).bind fun o14=>match o14 with| .inl y15=>(some (.next (IntKind.wrap .i64 (y15+1))))| .inr r16=>(some (.stop (.inr r16))))else(some (.stop (.inl ())))
def mZ(a0:ap)(a1:aw)(a2:Int):Option (aa×Bool):=
  (oC (nN a0 a1 a2) 0).bind fun o18=>match o18 with| .inl _=>(some ((aa.mk 0 0 0),false))| .inr r20=>(some r20)
def oa(a0:Int):Option (Int):=
  some (IntKind.wrap .i64 (a0*a0))
def fh(x18:aw)(x19:Int×ac)(x20:Int×ac)(j22:Int)(j23:Int)(j24:(List Int))(j25:Int)(j26:(List ae))(j27:Int)(j28:Int)(j29:Int)(j30:Int):Option (py (Int×Int×(List Int)×Int×(List ae)×Int×Int×Int) ((List ae)×(List Int)×Int)):=
  (cV 5 (ac.mk j24 j25)).bind fun x31=>(cV 5 x31.2).bind fun x32=>(qq j26 [(ae.mk x18 (IntKind.wrap .i64 (j30+x31.1)) j30 (IntKind.wrap .i64 ((IntKind.wrap .i64 (j30+x31.1))+x32.1)) x19.1 (IntKind.wrap .i64 (x20.1-1)))] 104).bind fun x33=>some (.next (j22,(IntKind.wrap .i64 (j23-1)),x32.2.fL,x32.2.fAt,x33,j27,j28,j29))
def mh(x40:aa×Bool)(s9:Int)(s10:Int)(s11:Int)(s4:Int)(s5:Int)(s8:(List ae)):Int->Option (py (Int) (Int×Int×Int×(List ae)×Int×Int×Int)):=fun s42=>
  (oa (IntKind.wrap .i64 (x40.1.fX-s9))).bind fun x51=>(oa (IntKind.wrap .i64 (x40.1.fY-s10))).bind fun x52=>(oa (IntKind.wrap .i64 (x40.1.fZ-s11))).bind fun x53=>if(decide ((IntKind.wrap .i64 (s42*s42))<(IntKind.wrap .i64 ((IntKind.wrap .i64 (x51+x52))+x53))))=true then(some (.next (IntKind.wrap .i64 (s42+1))))else(some (.stop (s4,s5,s42,s8,s9,s10,s11)))
def oz(a1:aq)(a2:ap):(Int×Int×(List Int)×Int×(List ae)×Int×Int×Int)->Option (py (Int×Int×(List Int)×Int×(List ae)×Int×Int×Int) ((List ae)×(List Int)×Int)):=fun(s4,s5,s6,s7,s8,s9,s10,s11)=>
  if(decide (s5>0))=true then((cV 6 (ac.mk s6 s7)).bind fun x17=>(gN x17.1).bind fun x18=>(ey [0,1,50,1000,1048576] x17.2).bind fun x19=>(cV 3 x19.2).bind fun x20=>(cV 2000 x20.2).bind fun x21=>(cV 6 x21.2).bind fun x35=>if(x35.1==0)=true then((my a1.ai.aK x35.2).bind fun x37=>(cV 900 x37.2).bind fun x38=>fh x18 x19 x20 (IntKind.wrap .i64 (s4+x38.1)) s5 x38.2.fL x38.2.fAt s8 x37.1.fX x37.1.fY x37.1.fZ (IntKind.wrap .i64 (1000+x21.1)))else(if(x35.1==1)=true then(fh x18 x19 x20 s4 s5 x35.2.fL x35.2.fAt s8 s9 s10 s11 (IntKind.wrap .i64 (1000+x21.1)))else((mZ a2 x18 s4).bind fun x40=>if x40.2=true then((oC (mh x40 s9 s10 s11 s4 s5 s8) 0).bind fun o56=>(ru .i64 o56.2.2.1 a1.ai.bc.bn).bind fun x57=>(pH a1.ai.bc.aI (if(IntKind.wrap .i64 ((a1.ai.bc.aI.length:Int)-1))<x57 then(IntKind.wrap .i64 ((a1.ai.bc.aI.length:Int)-1))else x57)).bind fun x58=>(cV 6 x35.2).bind fun x59=>fh x18 x19 x20 o56.1 o56.2.1 x59.2.fL x59.2.fAt o56.2.2.2.1 o56.2.2.2.2.1 o56.2.2.2.2.2.1 o56.2.2.2.2.2.2 (IntKind.wrap .i64 ((IntKind.wrap .i64 (o56.1+x58))+x59.1)))else(fh x18 x19 x20 s4 s5 x35.2.fL x35.2.fAt s8 s9 s10 s11 (IntKind.wrap .i64 (1000+x21.1))))))else(some (.stop (s8,s6,s7)))
def mw(a1:aq)(a2:ap)(a3:Int)(d0:ac):Option ((List ae)×ac):=
  (my a1.ai.aK d0).bind fun x1=>(cV 500 x1.2).bind fun x2=>(cV (IntKind.wrap .i64 (a3+1)) x2.2).bind fun x3=>(oC (oz a1 a2) ((IntKind.wrap .i64 (1000+x2.1)),x3.1,x3.2.fL,x3.2.fAt,([]:(List ae)),x1.1.fX,x1.1.fY,x1.1.fZ)).bind fun o61=>some (o61.1,(ac.mk o61.2.1 o61.2.2))
def lW(a1:ap):(Int×(List Int)×Int×(List au))->Option (py (Int×(List Int)×Int×(List au)) ((List Int)×Int×(List au))):=fun(s1,s2,s3,s4)=>
  if(decide (s1<(a1.aO.length:Int)))=true then((pH a1.aO s1).bind fun x10=>(qq ([]:List ar) x10.bL 80).bind fun x11=>(cV (x11.length:Int) (ac.mk s2 s3)).bind fun x12=>(cV 10 x12.2).bind fun x13=>if(x13.1==0)=true then((jV 60 x13.2).bind fun x15=>(inO x11 x12.1).bind fun _=>(xw x11 x12.1 (fun(z19:ar)=>(ar.mk z19.bj z19.fTo z19.fy x15.1 z19.bg))).bind fun x18=>(qq s4 [(au.mk x10.aA x18)] 88).bind fun x20=>some (.next ((IntKind.wrap .i64 (s1+1)),x15.2.fL,x15.2.fAt,x20)))else(if(x13.1==1)=true then((eT x13.2).bind fun x22=>(inO x11 x12.1).bind fun _=>(xw x11 x12.1 (fun(z26:ar)=>(ar.mk z26.bj z26.fTo z26.fy z26.aW x22.1))).bind fun x25=>(qq s4 [(au.mk x10.aA x25)] 88).bind fun x27=>some (.next ((IntKind.wrap .i64 (s1+1)),x22.2.fL,x22.2.fAt,x27)))else(if(x13.1==2)=true then((inO x11 (IntKind.wrap .i64 ((x11.length:Int)-1))).bind fun _=>(pH x11 (IntKind.wrap .i64 ((x11.length:Int)-1))).bind fun x31=>(cV 4000 x13.2).bind fun x32=>(ey [1,1000] x32.2).bind fun x33=>(inO x11 (IntKind.wrap .i64 ((x11.length:Int)-1))).bind fun _=>(xw x11 (IntKind.wrap .i64 ((x11.length:Int)-1)) (fun(z37:ar)=>(ar.mk z37.bj (IntKind.wrap .i64 ((IntKind.wrap .i64 (x31.bj+1))+(IntKind.wrap .i64 (x32.1*x33.1)))) z37.fy z37.aW z37.bg))).bind fun x36=>(qq s4 [(au.mk x10.aA x36)] 88).bind fun x38=>some (.next ((IntKind.wrap .i64 (s1+1)),x33.2.fL,x33.2.fAt,x38)))else(if(x13.1==3)=true then(some (.next ((IntKind.wrap .i64 (s1+1)),x13.2.fL,x13.2.fAt,s4)))else(if(x13.1==4)=true then((cV 2 x13.2).bind fun x41=>(inO x11 x12.1).bind fun _=>(xw x11 x12.1 (fun(z45:ar)=>(ar.mk z45.bj z45.fTo (bJ.mk (IntKind.wrap .i64 (50+x41.1)) z45.fy.bC) z45.aW z45.bg))).bind fun x44=>(inO x44 x12.1).bind fun _=>(xw x44 x12.1 (fun(z49:ar)=>(ar.mk z49.bj z49.fTo (bJ.mk z49.fy.bK 1) z49.aW z49.bg))).bind fun x48=>(qq s4 [(au.mk x10.aA x48)] 88).bind fun x50=>some (.next ((IntKind.wrap .i64 (s1+1)),x41.2.fL,x41.2.fAt,x50)))else((qq s4 [(au.mk x10.aA x11)] 88).bind fun x51=>some (.next ((IntKind.wrap .i64 (s1+1)),x13.2.fL,x13.2.fAt,x51))))))))else(some (.stop (s2,s3,s4)))
def kr(a1:ap)(d0:ac):Option (ap×ac):=
  (oC (lW a1) (0,d0.fL,d0.fAt,([]:(List au)))).bind fun o53=>some ((ap.mk o53.2.2),(ac.mk o53.1 o53.2.1))
def lr(a0:Int):Option (Bool):=
  if(decide (a0>=65))=true then(if(decide (a0<=90))=true then(some true)else(if(decide (a0>=48))=true then(some (decide (a0<=57)))else(some false)))else(if(decide (a0>=48))=true then(some (decide (a0<=57)))else(some false))
def jQ(a0:(List UInt8)):Int->Option (py (Int) ((Unit)⊕(Bool))):=fun s1=>
  if(decide (s1<(a0.length:Int)))=true then((vB a0 s1).bind fun x4=>(lr x4).bind fun x5=>if(!x5)=true then(some (.stop (.inr false)))else(some (.next (IntKind.wrap .i64 (s1+1)))))else(some (.stop (.inl ())))
def ic(a0:(List UInt8))(a1:Int)(a2:Int):Option (Bool):=
  (oC (jQ a0) 0).bind fun o8=>match o8 with| .inl _=>(if(decide ((a0.length:Int)>=a1))=true then(some (decide ((a0.length:Int)<=a2)))else(some false))| .inr r10=>(some r10)
def jP(a0:aw):Option (Bool):=
  (ic a0.bd 1 2).bind fun x1=>if x1=true then((ic a0.aQ 1 5).bind fun x3=>if x3=true then((ic a0.av 0 2).bind fun x5=>if x5=true then(if((a0.av.length:Int) != 1)=true then((ic a0.bh 3 3).bind fun x8=>some x8)else(some false))else(some false))else(some false))else(some false)
def kj(a0:Int)(a1:Int)(a2:Int):Option (Bool):=
  if(decide (a0>=a1))=true then(some (decide (a0<=a2)))else(some false)
def fG(a0:ae):Option (Bool):=
  (jP a0.aA).bind fun x1=>if x1=true then(if(decide (a0.aM>=0))=true then(if(decide (a0.aM<=a0.a7))=true then(if(decide (a0.a7<=a0.bv))=true then(if(decide (a0.bv<=18014398509481984))=true then((kj a0.a8 0 1073741823).bind fun x7=>if x7=true then((kj a0.bp (-1) 1).bind fun x9=>some x9)else(some false))else(some false))else(some false))else(some false))else(some false))else(some false)
def gB(a0:ae):Option (Bool):=
  (fG a0).bind fun x1=>some (!x1)
def dS(a0:(List ae)):Int->Option (py (Int) ((Unit)⊕(Int))):=fun s1=>
  if(decide (s1<(a0.length:Int)))=true then((pH a0 s1).bind fun x4=>(gB x4).bind fun x5=>if x5=true then(some (.stop (.inr s1)))else(some (.next (IntKind.wrap .i64 (s1+1)))))else(some (.stop (.inl ())))
def eE(a0:(List ae)):Option (Int):=
  (oC (dS a0) 0).bind fun o8=>match o8 with| .inl _=>(some (-1))| .inr r10=>(some r10)
def dR(a0:(List ae)):Option (Bool):=
  (eE a0).bind fun x1=>some (decide (x1>=0))
def im(a0:(List ae)):Option (Bool):=
  (dR a0).bind fun x1=>some (!x1)
def fx(a0:(List UInt8)):Option (Bool):=
  some (!(a0==a0))
def cz(a0:(List UInt8))(a1:(List UInt8)):Option (Int):=
  (fx a0).bind fun x1=>(fx a1).bind fun x2=>if x1=true then(if x2=true then(some 0)else(some (-1)))else(if x2=true then(some 1)else(if(Op.bytesLess a0 a1)=true then(some (-1))else(if(!(Op.bytesLess a0 a1||a0==a1))=true then(some 1)else(some 0))))
def dH(a0:(List Int)):Int->Option (py (Int) ((Unit)⊕(Int))):=fun s1=>
  if(decide (s1<(a0.length:Int)))=true then((pH a0 s1).bind fun x4=>if(x4 != 0)=true then(some (.stop (.inr x4)))else(some (.next (IntKind.wrap .i64 (s1+1)))))else(some (.stop (.inl ())))
def cA(a0:(List Int)):Option (Int):=
  (oC (dH a0) 0).bind fun o7=>match o7 with| .inl _=>(some 0)| .inr r9=>(some r9)
def fN(a0:aw)(a1:aw):Option (Int):=
  (cz a0.bd a1.bd).bind fun x1=>(cz a0.aQ a1.aQ).bind fun x2=>(cz a0.av a1.av).bind fun x3=>(cz a0.bh a1.bh).bind fun x4=>(cA [x1,x2,x3,x4]).bind fun x5=>some x5
def iI(a0:Int):Option (Bool):=
  some (a0 != a0)
def bA(a0:Int)(a1:Int):Option (Int):=
  (iI a0).bind fun x1=>(iI a1).bind fun x2=>if x1=true then(if x2=true then(some 0)else(some (-1)))else(if x2=true then(some 1)else(if(decide (a0<a1))=true then(some (-1))else(if(decide (a0>a1))=true then(some 1)else(some 0))))
def b9(a0:ae)(a1:ae):Option (Int):=
  (fN a0.aA a1.aA).bind fun x1=>(bA a0.a7 a1.a7).bind fun x2=>(bA a0.aM a1.aM).bind fun x3=>(bA a0.bv a1.bv).bind fun x4=>(bA a0.a8 a1.a8).bind fun x5=>(bA a0.bp a1.bp).bind fun x6=>(cA [x1,x2,x3,x4,x5,x6]).bind fun x7=>some x7
def fI(s2:Int)(d0:(List ae)):(Int×Int×(List ae))->Option (py (Int×Int×(List ae)) (Int×(List ae))):=fun(s13,s14,s15)=>
  (lenV s15.length (0+(s2:Int).toNat) (0+((d0.length:Int):Int).toNat)).bind fun x19=>if(decide (s14<x19))=true then((inV s15.length (0+(s2:Int).toNat) (0+((d0.length:Int):Int).toNat) s14).bind fun _=>(pH s15 (((0+(s2:Int).toNat)+(s14:Int).toNat:Nat):Int)).bind fun x22=>(inV s15.length (0+(s2:Int).toNat) (0+((d0.length:Int):Int).toNat) (IntKind.wrap .i64 (s14-1))).bind fun _=>(pH s15 (((0+(s2:Int).toNat)+((IntKind.wrap .i64 (s14-1)):Int).toNat:Nat):Int)).bind fun x24=>if(!(((x22.aA.bd==x24.aA.bd)&&((x22.aA.aQ==x24.aA.aQ)&&((x22.aA.av==x24.aA.av)&&((x22.aA.bh==x24.aA.bh)&&true))))&&((x22.a7==x24.a7)&&((x22.aM==x24.aM)&&((x22.bv==x24.bv)&&((x22.a8==x24.a8)&&((x22.bp==x24.bp)&&true)))))))=true then((inV s15.length (0+(s2:Int).toNat) (0+((d0.length:Int):Int).toNat) s14).bind fun _=>(pH s15 (((0+(s2:Int).toNat)+(s14:Int).toNat:Nat):Int)).bind fun x27=>(inO s15 s13).bind fun _=>(sb s15 s13 x27).bind fun x30=>some (.next ((IntKind.wrap .i64 (s13+1)),(IntKind.wrap .i64 (s14+1)),x30)))else(some (.next (s13,(IntKind.wrap .i64 (s14+1)),s15))))else(some (.stop (s13,s15)))
def fJ(d0:(List ae)):Int->Option (py (Int) ((Unit)⊕((List ae)))):=fun s2=>
  if(decide (s2<(d0.length:Int)))=true then((inO d0 s2).bind fun _=>(pH d0 s2).bind fun x7=>(inO d0 (IntKind.wrap .i64 (s2-1))).bind fun _=>(pH d0 (IntKind.wrap .i64 (s2-1))).bind fun x10=>if(((x7.aA.bd==x10.aA.bd)&&((x7.aA.aQ==x10.aA.aQ)&&((x7.aA.av==x10.aA.av)&&((x7.aA.bh==x10.aA.bh)&&true))))&&((x7.a7==x10.a7)&&((x7.aM==x10.aM)&&((x7.bv==x10.bv)&&((x7.a8==x10.a8)&&((x7.bp==x10.bp)&&true))))))=true then((vq d0.length s2 (d0.length:Int)).bind fun _=>(oC (fI s2 d0) (s2,1,d0)).bind fun o32=>(vq o32.2.length o32.1 (o32.2.length:Int)).bind fun _=>(zg o32.2.length (0+(o32.1:Int).toNat) (0+((o32.2.length:Int):Int).toNat)).bind fun _=>(vq (tN o32.2 (0+(o32.1:Int).toNat) ((0+((o32.2.length:Int):Int).toNat)-(0+(o32.1:Int).toNat)) (ae.mk (aw.mk [] [] [] []) 0 0 0 0 0)).length 0 o32.1).bind fun _=>some (.stop (.inr ((tN o32.2 (0+(o32.1:Int).toNat) ((0+((o32.2.length:Int):Int).toNat)-(0+(o32.1:Int).toNat)) (ae.mk (aw.mk [] [] [] []) 0 0 0 0 0)).take (o32.1:Int).toNat))))else(some (.next (IntKind.wrap .i64 (s2+1)))))else(some (.stop (.inl ())))
def d6(d0:(List ae)):Option ((List ae)):=
  if(decide ((d0.length:Int)<2))=true then(some d0)else((oC (fJ d0) 1).bind fun o38=>match o38 with| .inl _=>(some d0)| .inr r40=>(some r40))
def cQ(a0:(List ae)):Option ((List ae)):=
  (ry 104 a0).bind fun x1=>(vN b9 x1).bind fun x2=>(d6 x2).bind fun x3=>some x3
def dV(a0:ae)(a1:ae):Option (Int):=
  (bA a0.aM a1.aM).bind fun x1=>some x1
def cu(a1:Int)(s1:Int):(Int×(List ae))->Option (py (Int×(List ae)) (Int×(List ae))):=fun(s5,s6)=>
  if(decide (s5>a1))=true then((inO s6 s5).bind fun _=>(pH s6 s5).bind fun x13=>(inO s6 (IntKind.wrap .i64 (s5-1))).bind fun _=>(pH s6 (IntKind.wrap .i64 (s5-1))).bind fun x16=>(dV x13 x16).bind fun x17=>if(decide (x17<0))=true then((inO s6 (IntKind.wrap .i64 (s5-1))).bind fun _=>(pH s6 (IntKind.wrap .i64 (s5-1))).bind fun x21=>(inO s6 s5).bind fun _=>(pH s6 s5).bind fun x24=>(inO s6 s5).bind fun _=>(sb s6 s5 x21).bind fun x27=>(inO x27 (IntKind.wrap .i64 (s5-1))).bind fun _=>(sb x27 (IntKind.wrap .i64 (s5-1)) x24).bind fun x30=>some (.next ((IntKind.wrap .i64 (s5-1)),x30)))else(some (.stop (s1,s6))))else(some (.stop (s1,s6)))
def bY(a2:Int)(a1:Int):(Int×(List ae))->Option (py (Int×(List ae)) ((List ae))):=fun(s1,s2)=>
  if(decide (s1<a2))=true then((oC (cu a1 s1) (s1,s2)).bind fun o32=>some (.next ((IntKind.wrap .i64 (o32.1+1)),o32.2)))else((some s2).bind fun z33=>some (.stop z33))
def bo(a1:Int)(a2:Int)(d0:(List ae)):Option ((List ae)):=
  (oC (bY a2 a1) ((IntKind.wrap .i64 (a1+1)),d0)).bind fun o35=>some o35
def bF(a1:Int):(Int×Int×(List ae))->Option (py (Int×Int×(List ae)) (Int×(List ae))):=fun(s1,s2,s3)=>
  if(decide (s2<=a1))=true then((bo s1 s2 s3).bind fun x8=>some (.next (s2,(IntKind.wrap .i64 (s2+20)),x8)))else(some (.stop (s1,s3)))
def jj(s12:Int)(a1:Int):Unit->Option (py (Unit) (Int)):=fun _=>
  if(decide ((IntKind.wrap .i64 (2*s12))<=a1))=true then(none)else(some (.stop s12))
def de(a1:Int)(x11:(List ae)):Int->Option (py (Int) ((List ae))):=fun s12=>
  if(decide (s12<a1))=true then((oC (jj s12 a1) ()).bind fun o19=>if(decide ((IntKind.wrap .i64 (0+o19))<a1))=true then(none)else(some (.next (IntKind.wrap .i64 (o19*2)))))else((some x11).bind fun z21=>some (.stop z21))
def dD(a1:Int)(d0:(List ae)):Option ((List ae)):=
  (oC (bF a1) (0,20,d0)).bind fun o10=>(bo o10.1 a1 o10.2).bind fun x11=>(oC (de a1 x11) 20).bind fun o23=>some o23
def cy(d0:(List ae)):Option ((List ae)):=
  (dD (d0.length:Int) d0).bind fun x1=>some x1
def fW(x2:(List ae))(a0:Int):(Int×(List (List ae)))->Option (py (Int×(List (List ae))) ((List (List ae)))):=fun(s3,s4)=>
  if(decide (s3<(x2.length:Int)))=true then((inO x2 s3).bind fun _=>(pH x2 s3).bind fun x10=>if(s3==0)=true then((qq s4 [[]] 24).bind fun x12=>(xS x12).bind fun x13=>(inO x12 (IntKind.wrap .i64 ((x12.length:Int)-1))).bind fun _=>(atO (IntKind.wrap .i64 ((x12.length:Int)-1)) (x12.length-1)).bind fun _=>(qq x13 [x10] 104).bind fun x16=>(inO x12 (IntKind.wrap .i64 ((x12.length:Int)-1))).bind fun _=>(stO x12.length (IntKind.wrap .i64 ((x12.length:Int)-1)) (x12.length-1)).bind fun _=>some (.next ((IntKind.wrap .i64 (s3+1)),(x12.set (x12.length-1) x16))))else((inO x2 (IntKind.wrap .i64 (s3-1))).bind fun _=>(pH x2 (IntKind.wrap .i64 (s3-1))).bind fun x21=>if(decide ((IntKind.wrap .i64 (x10.aM-x21.aM))>a0))=true then((qq s4 [[]] 24).bind fun x23=>(xS x23).bind fun x24=>(inO x23 (IntKind.wrap .i64 ((x23.length:Int)-1))).bind fun _=>(atO (IntKind.wrap .i64 ((x23.length:Int)-1)) (x23.length-1)).bind fun _=>(qq x24 [x10] 104).bind fun x27=>(inO x23 (IntKind.wrap .i64 ((x23.length:Int)-1))).bind fun _=>(stO x23.length (IntKind.wrap .i64 ((x23.length:Int)-1)) (x23.length-1)).bind fun _=>some (.next ((IntKind.wrap .i64 (s3+1)),(x23.set (x23.length-1) x27))))else((xS s4).bind fun x30=>(inO s4 (IntKind.wrap .i64 ((s4.length:Int)-1))).bind fun _=>(atO (IntKind.wrap .i64 ((s4.length:Int)-1)) (s4.length-1)).bind fun _=>(qq x30 [x10] 104).bind fun x33=>(inO s4 (IntKind.wrap .i64 ((s4.length:Int)-1))).bind fun _=>(stO s4.length (IntKind.wrap .i64 ((s4.length:Int)-1)) (s4.length-1)).bind fun _=>some (.next ((IntKind.wrap .i64 (s3+1)),(s4.set (s4.length-1) x33))))))else(some (.stop s4))
def f4(o37:(List (List ae))):(Int×(List (List ae)))->Option (py (Int×(List (List ae))) ((List (List ae)))):=fun(s38,s39)=>
  if(decide (s38<(o37.length:Int)))=true then((pH s39 s38).bind fun x43=>(inO s39 s38).bind fun _=>(atO s38 (Int.toNat s38)).bind fun _=>(vN b9 x43).bind fun x46=>some (.next ((IntKind.wrap .i64 (s38+1)),(s39.set (Int.toNat s38) x46))))else(some (.stop s39))
def fV(a0:Int)(a1:(List ae)):Option ((List (List ae))):=
  (cQ a1).bind fun x1=>(cy x1).bind fun x2=>(oC (fW x2 a0) (0,([]:(List (List ae))))).bind fun o37=>(oC (f4 o37) (0,o37)).bind fun o48=>some o48
def fT(a0:Int)(a1:(List ae)):Option ((List (List ae))×Int):=
  if(decide (a0<0))=true then(some (([]:(List (List ae))),2))else(if(decide (a0>1099511627776))=true then(some (([]:(List (List ae))),2))else((im a1).bind fun x3=>if(!x3)=true then(some (([]:(List (List ae))),1))else((fV a0 a1).bind fun x5=>some (x5,0))))
def rate_in(a0:Int)(a1:Int)(a2:Int):Option (Bool):=
  if(decide (a0>=a1))=true then(some (decide (a0<=a2)))else(some false)
def rate_gcd_l7:(Int×Int)->Option (py (Int×Int) (Int)):=fun(s1,s2)=>
  if(s2 != 0)=true then((vL s1 s2).bind fun x6=>some (.next (s2,x6)))else(some (.stop s1))
def rate_gcd(a0:Int)(a1:Int):Option (Int):=
  (oC (rate_gcd_l7) (a0,a1)).bind fun o8=>some o8
def m9(a0:bJ):Option (Bool):=
  (rate_in a0.bK 1 4096).bind fun x1=>if x1=true then((rate_in a0.bC 1 4096).bind fun x3=>if x3=true then((rate_gcd a0.bK a0.bC).bind fun x5=>some (x5==1))else(some false))else(some false)
def bZ(a0:Int)(a1:Int)(a2:Int):Option (Bool):=
  if(decide (a0>=a1))=true then(some (decide (a0<=a2)))else(some false)
def iE(a0:Int):Option (Bool):=
  (bZ a0 (-1048576) 1048576).bind fun x1=>some (!x1)
def d4(a0:(List Int)):Int->Option (py (Int) ((Unit)⊕(Int))):=fun s1=>
  if(decide (s1<(a0.length:Int)))=true then((pH a0 s1).bind fun x4=>(iE x4).bind fun x5=>if x5=true then(some (.stop (.inr s1)))else(some (.next (IntKind.wrap .i64 (s1+1)))))else(some (.stop (.inl ())))
def eO(a0:(List Int)):Option (Int):=
  (oC (d4 a0) 0).bind fun o8=>match o8 with| .inl _=>(some (-1))| .inr r10=>(some r10)
def dZ(a0:(List Int)):Option (Bool):=
  (eO a0).bind fun x1=>some (decide (x1>=0))
def cG(a0:(List Int)):Option (Bool):=
  (dZ a0).bind fun x1=>some (!x1)
def nr(a0:(List Int)):(Int×Int)->Option (py (Int×Int) (Int)):=fun(s1,s2)=>
  if(decide (s2<(a0.length:Int)))=true then((pH a0 s2).bind fun x6=>some (.next ((IntKind.wrap .i64 (s1+x6)),(IntKind.wrap .i64 (s2+1)))))else(some (.stop s1))
def ef(a0:(List Int)):Option (Int):=
  (oC (nr a0) (0,0)).bind fun o8=>some o8
def dt(a0:aB):Option (Bool):=
  if((a0.eC.length:Int)==0)=true then(if(a0.dl==0)=true then(if(a0.iL==0)=true then(if(a0.dm==0)=true then(if((a0.bK.a0==a0.bK.a0)&&((a0.bK.a1==0)&&((a0.bK.a2==0)&&true)))=true then(if((a0.bC.a0==a0.bC.a0)&&((a0.bC.a1==0)&&((a0.bC.a2==0)&&true)))=true then((bZ a0.bK.a0 1 1048576).bind fun x7=>if x7=true then((bZ a0.bC.a0 1 1048576).bind fun x9=>some x9)else(some false))else(some false))else(some false))else(some false))else(if(a0.iL==1)=true then(if(a0.dm==0)=true then((cG [a0.bK.a0,a0.bK.a1,a0.bK.a2]).bind fun x12=>if x12=true then((cG [a0.bC.a0,a0.bC.a1,a0.bC.a2]).bind fun x14=>if x14=true then(some (a0.bC.a0 != 0))else(some false))else(some false))else(some false))else(if(a0.iL==2)=true then(if((a0.bK.a0==0)&&((a0.bK.a1==0)&&((a0.bK.a2==0)&&true)))=true then(if((a0.bC.a0==0)&&((a0.bC.a1==0)&&((a0.bC.a2==0)&&true)))=true then((bZ (a0.eC.length:Int) 1 128).bind fun x19=>if x19=true then((cG a0.eC).bind fun x21=>if x21=true then((ef a0.eC).bind fun x23=>if(x23 != 0)=true then((bZ a0.dl 1 64).bind fun x25=>if x25=true then((bZ a0.dm 0 40).bind fun x27=>some x27)else(some false))else(some false))else(some false))else(some false))else(some false))else(some false))else(some false))))else(if(a0.iL==0)=true then(some false)else(if(a0.iL==1)=true then(some false)else(if(a0.iL==2)=true then(if((a0.bK.a0==0)&&((a0.bK.a1==0)&&((a0.bK.a2==0)&&true)))=true then(if((a0.bC.a0==0)&&((a0.bC.a1==0)&&((a0.bC.a2==0)&&true)))=true then((bZ (a0.eC.length:Int) 1 128).bind fun x33=>if x33=true then((cG a0.eC).bind fun x35=>if x35=true then((ef a0.eC).bind fun x37=>if(x37 != 0)=true then((bZ a0.dl 1 64).bind fun x39=>if x39=true then((bZ a0.dm 0 40).bind fun x41=>some x41)else(some false))else(some false))else(some false))else(some false))else(some false))else(some false))else(some false)))))else(if(a0.iL==0)=true then(some false)else(if(a0.iL==1)=true then(some false)else(if(a0.iL==2)=true then(if((a0.bK.a0==0)&&((a0.bK.a1==0)&&((a0.bK.a2==0)&&true)))=true then(if((a0.bC.a0==0)&&((a0.bC.a1==0)&&((a0.bC.a2==0)&&true)))=true then((bZ (a0.eC.length:Int) 1 128).bind fun x47=>if x47=true then((cG a0.eC).bind fun x49=>if x49=true then((ef a0.eC).bind fun x51=>if(x51 != 0)=true then((bZ a0.dl 1 64).bind fun x53=>if x53=true then((bZ a0.dm 0 40).bind fun x55=>some x55)else(some false))else(some false))else(some false))else(some false))else(some false))else(some false))else(some false))))
def iD(a0:aB):Option (Bool):=
  (dt a0).bind fun x1=>some (!x1)
def dC(a0:(List aB)):Int->Option (py (Int) ((Unit)⊕(Int))):=fun s1=>
  if(decide (s1<(a0.length:Int)))=true then((pH a0 s1).bind fun x4=>(iD x4).bind fun x5=>if x5=true then(some (.stop (.inr s1)))else(some (.next (IntKind.wrap .i64 (s1+1)))))else(some (.stop (.inl ())))
def ei(a0:(List aB)):Option (Int):=
  (oC (dC a0) 0).bind fun o8=>match o8 with| .inl _=>(some (-1))| .inr r10=>(some r10)
def cL(a0:(List aB)):Option (Bool):=
  (ei a0).bind fun x1=>some (decide (x1>=0))
def jh(a0:(List aB)):(Int×Int)->Option (py (Int×Int) ((Int)⊕(Int))):=fun(s1,s2)=>
  if(decide (s2<(a0.length:Int)))=true then((pH a0 s2).bind fun x6=>if(x6.iL != 2)=true then(some (.next (s1,(IntKind.wrap .i64 (s2+1)))))else(if(decide ((IntKind.wrap .i64 (s1*x6.dl))>64))=true then(some (.stop (.inr 0)))else(some (.next ((IntKind.wrap .i64 (s1*x6.dl)),(IntKind.wrap .i64 (s2+1)))))))else(some (.stop (.inl s1)))
def iW(a0:(List aB)):Option (Int):=
  (oC (jh a0) (1,0)).bind fun o10=>match o10 with| .inl y11=>(some y11)| .inr r12=>(some r12)
def hJ(a0:aP):Option (Bool):=
  if(decide ((a0.bw.length:Int)>8))=true then(some false)else((cL a0.bw).bind fun x2=>if x2=true then(some false)else((iW a0.bw).bind fun x4=>some (decide (x4>0))))
def eY(a0:Int)(a1:Int)(a2:Int):Option (Bool):=
  if(decide (a0>=a1))=true then(some (decide (a0<=a2)))else(some false)
def eX(a0:ar):Option (Bool):=
  if(decide (a0.bj>=0))=true then(if(decide (a0.bj<a0.fTo))=true then(if(decide (a0.fTo<=9007199254740992))=true then((m9 a0.fy).bind fun x4=>if x4=true then((hJ a0.bg).bind fun x6=>if x6=true then((eY a0.aW.fX (-1048576) 1048576).bind fun x8=>if x8=true then((eY a0.aW.fY (-1048576) 1048576).bind fun x10=>if x10=true then((eY a0.aW.fZ (-16384) 1048576).bind fun x12=>some x12)else(some false))else(some false))else(some false))else(some false))else(some false))else(some false))else(some false)
def gM(a0:(List ar)):Int->Option (py (Int) ((Unit)⊕(Bool))):=fun s1=>
  if(decide (s1<(a0.length:Int)))=true then((pH a0 s1).bind fun x4=>(eX x4).bind fun x5=>if(!x5)=true then(some (.stop (.inr false)))else(if(decide (s1>0))=true then((pH a0 (IntKind.wrap .i64 (s1-1))).bind fun x8=>if(decide (x4.bj<x8.fTo))=true then(some (.stop (.inr false)))else(some (.next (IntKind.wrap .i64 (s1+1)))))else(some (.next (IntKind.wrap .i64 (s1+1))))))else(some (.stop (.inl ())))
def ir(a0:(List ar)):Option (Bool):=
  (oC (gM a0) 0).bind fun o11=>match o11 with| .inl _=>((eY (a0.length:Int) 1 32).bind fun x14=>some x14)| .inr r13=>(some r13)
def iC(a0:ap):Int->Option (py (Int) ((Unit)⊕(Bool))):=fun s1=>
  if(decide (s1<(a0.aO.length:Int)))=true then((pH a0.aO s1).bind fun x4=>(jP x4.aA).bind fun x5=>if(!x5)=true then(some (.stop (.inr false)))else((ir x4.bL).bind fun x7=>if(!x7)=true then(some (.stop (.inr false)))else(if(decide (s1>0))=true then((pH a0.aO (IntKind.wrap .i64 (s1-1))).bind fun x10=>(fN x10.aA x4.aA).bind fun x11=>if(decide (x11>=0))=true then(some (.stop (.inr false)))else(some (.next (IntKind.wrap .i64 (s1+1)))))else(some (.next (IntKind.wrap .i64 (s1+1)))))))else(some (.stop (.inl ())))
def cJ(a0:ap):Option (Bool):=
  (oC (iC a0) 0).bind fun o14=>match o14 with| .inl _=>(some (decide ((a0.aO.length:Int)<=128)))| .inr r16=>(some r16)
def fB(x1:(List aB)):(Int×(List aB))->Option (py (Int×(List aB)) ((List aB))):=fun(s2,s3)=>
  if(decide (s2<(x1.length:Int)))=true then((inO s3 s2).bind fun _=>(pH s3 s2).bind fun x9=>(ry 8 x9.eC).bind fun x10=>(inO s3 s2).bind fun _=>(xw s3 s2 (fun(z14:aB)=>(aB.mk z14.iL z14.bK z14.bC x10 z14.dl z14.dm))).bind fun x13=>some (.next ((IntKind.wrap .i64 (s2+1)),x13)))else(some (.stop s3))
def fq(a0:ar):Option (ar):=
  (ry 96 a0.bg.bw).bind fun x1=>(oC (fB x1) (0,x1)).bind fun o16=>some (ar.mk a0.bj a0.fTo a0.fy a0.aW (aP.mk o16))
def gL(x1:(List ar)):(Int×(List ar))->Option (py (Int×(List ar)) ((List ar))):=fun(s2,s3)=>
  if(decide (s2<(x1.length:Int)))=true then((inO s3 s2).bind fun _=>(pH s3 s2).bind fun x9=>(fq x9).bind fun x10=>(inO s3 s2).bind fun _=>(sb s3 s2 x10).bind fun x13=>some (.next ((IntKind.wrap .i64 (s2+1)),x13)))else(some (.stop s3))
def iq(a0:au):Option (au):=
  (ry 80 a0.bL).bind fun x1=>(oC (gL x1) (0,x1)).bind fun o15=>some (au.mk a0.aA o15)
def jF(a0:ap)(a1:aw):Int->Option (py (Int) ((Unit)⊕(au×Bool))):=fun s1=>
  if(decide (s1<(a0.aO.length:Int)))=true then((pH a0.aO s1).bind fun x4=>if((x4.aA.bd==a1.bd)&&((x4.aA.aQ==a1.aQ)&&((x4.aA.av==a1.av)&&((x4.aA.bh==a1.bh)&&true))))=true then((iq x4).bind fun x6=>some (.stop (.inr (x6,true))))else(some (.next (IntKind.wrap .i64 (s1+1)))))else(some (.stop (.inl ())))
def jE(a0:ap)(a1:aw):Option (au×Bool):=
  (oC (jF a0 a1) 0).bind fun o8=>match o8 with| .inl _=>(some ((au.mk (aw.mk [] [] [] []) []),false))| .inr r10=>(some r10)
def kO(a0:au)(a1:Int):Int->Option (py (Int) ((Unit)⊕(ar×Bool))):=fun s1=>
  if(decide (s1<(a0.bL.length:Int)))=true then((pH a0.bL s1).bind fun x4=>if(decide (x4.bj<=a1))=true then(if(decide (a1<x4.fTo))=true then(some (.stop (.inr (x4,true))))else(some (.next (IntKind.wrap .i64 (s1+1)))))else(some (.next (IntKind.wrap .i64 (s1+1)))))else(some (.stop (.inl ())))
def lp(a0:au)(a1:Int):Option (ar×Bool):=
  (oC (kO a0 a1) 0).bind fun o8=>match o8 with| .inl _=>(some ((ar.mk 0 0 (bJ.mk 0 0) (aa.mk 0 0 0) (aP.mk [])),false))| .inr r10=>(some r10)
def ip(a0:ap)(a1:aw)(a2:Int):Option (ar×Int):=
  (cJ a0).bind fun x1=>if(!x1)=true then(some ((ar.mk 0 0 (bJ.mk 0 0) (aa.mk 0 0 0) (aP.mk [])),1))else((jE a0 a1).bind fun x3=>(lp x3.1 a2).bind fun x4=>if(!x4.2)=true then(some ((ar.mk 0 0 (bJ.mk 0 0) (aa.mk 0 0 0) (aP.mk [])),6))else(some (x4.1,0)))
def d8(a0:(List Int))(a1:(List Int)):Int->Option (py (Int) ((Unit)⊕(Bool))):=fun s2=>
  if(decide (s2<(a0.length:Int)))=true then((pH a0 s2).bind fun x5=>(pH a1 s2).bind fun x6=>if(x5 != x6)=true then(some (.stop (.inr false)))else(some (.next (IntKind.wrap .i64 (s2+1)))))else(some (.stop (.inl ())))
def iz(a0:(List Int))(a1:(List Int)):Option (Bool):=
  if((a0.length:Int) != (a1.length:Int))=true then(some false)else((oC (d8 a0 a1) 0).bind fun o9=>match o9 with| .inl _=>(some true)| .inr r11=>(some r11))
def gi(a0:aB)(a1:aB):Option (Bool):=
  if(a0.iL==a1.iL)=true then(if((a0.bK.a0==a1.bK.a0)&&((a0.bK.a1==a1.bK.a1)&&((a0.bK.a2==a1.bK.a2)&&true)))=true then(if((a0.bC.a0==a1.bC.a0)&&((a0.bC.a1==a1.bC.a1)&&((a0.bC.a2==a1.bC.a2)&&true)))=true then((iz a0.eC a1.eC).bind fun x4=>if x4=true then(if(a0.dl==a1.dl)=true then(some (a0.dm==a1.dm))else(some false))else(some false))else(some false))else(some false))else(some false)
def cm(a0:(List aB))(a1:(List aB)):Int->Option (py (Int) ((Unit)⊕(Bool))):=fun s2=>
  if(decide (s2<(a0.length:Int)))=true then((pH a0 s2).bind fun x5=>(pH a1 s2).bind fun x6=>(gi x5 x6).bind fun x7=>if(!x7)=true then(some (.stop (.inr false)))else(some (.next (IntKind.wrap .i64 (s2+1)))))else(some (.stop (.inl ())))
def eh(a0:(List aB))(a1:(List aB)):Option (Bool):=
  if((a0.length:Int) != (a1.length:Int))=true then(some false)else((oC (cm a0 a1) 0).bind fun o10=>match o10 with| .inl _=>(some true)| .inr r12=>(some r12))
def kB(a0:aP)(a1:aP):Option (Bool):=
  (eh a0.bw a1.bw).bind fun x1=>some x1
def fU(a0:ap)(a1:ap)(a2:ae):Option (Bool):=
  (ip a0 a2.aA a2.a7).bind fun x1=>(ip a1 a2.aA a2.a7).bind fun x2=>if(x1.2 != 0)=true then(some (!((x1.2==0)==(x2.2==0))))else(if(x2.2 != 0)=true then(some (!((x1.2==0)==(x2.2==0))))else(if(!((x1.1.aW.fX==x2.1.aW.fX)&&((x1.1.aW.fY==x2.1.aW.fY)&&((x1.1.aW.fZ==x2.1.aW.fZ)&&true))))=true then(some true)else((kB x1.1.bg x2.1.bg).bind fun x6=>some (!x6))))
def bq(a0:aa):Option (aT):=
  some (aT.mk a0.fX a0.fY a0.fZ)
def cW(a0:aa):Option (Bool):=
  (bq a0).bind fun x1=>if(decide (x1.a0<(-1048576)))=true then(some false)else(if(decide (x1.a0>1048576))=true then(some false)else(if(decide (x1.a1<(-1048576)))=true then(some false)else(if(decide (x1.a1>1048576))=true then(some false)else(if(decide (x1.a2<(-16384)))=true then(some false)else(if(decide (x1.a2>1048576))=true then(some false)else(some true))))))
def bH(a0:ah):Option (Bool):=
  (cW a0.aI).bind fun x1=>if(!x1)=true then(some false)else((cW a0.aC).bind fun x3=>if(!x3)=true then(some false)else((bq a0.aC).bind fun x5=>(bq a0.aI).bind fun x6=>if(decide (x6.a0>x5.a0))=true then(some false)else(if(decide (x6.a1>x5.a1))=true then(some false)else(if(decide (x6.a2>x5.a2))=true then(some false)else(some true)))))
def ld(a0:aH):(Int×Int×Int)->Option (py (Int×Int×Int) ((Unit)⊕(Int))):=fun(s6,s7,s8)=>
  if(decide (s8<(a0.aI.length:Int)))=true then((pH a0.aI s8).bind fun x11=>if(decide (x11<s6))=true then(some (.stop (.inr 21)))else((pH a0.aC s8).bind fun x13=>if(decide (x13<s7))=true then(some (.stop (.inr 21)))else((pH a0.aI s8).bind fun x15=>(pH a0.aC s8).bind fun x16=>if(decide (x15>x16))=true then(some (.stop (.inr 21)))else((pH a0.aC s8).bind fun x18=>if(decide (x18>1099511627776))=true then(some (.stop (.inr 21)))else((pH a0.aI s8).bind fun x20=>(pH a0.aC s8).bind fun x21=>some (.next (x20,x21,(IntKind.wrap .i64 (s8+1)))))))))else(some (.stop (.inl ())))
def c9(a0:aH):Option (Int):=
  if(decide (a0.bn<1))=true then(some 21)else(if(decide (a0.bn>1048576))=true then(some 21)else(if((a0.aI.length:Int) != (a0.aC.length:Int))=true then(some 21)else(if(decide ((a0.aI.length:Int)<2))=true then(some 21)else(if(decide ((a0.aI.length:Int)>256))=true then(some 21)else((oC (ld a0) (0,0,0)).bind fun o23=>match o23 with| .inl _=>(some 0)| .inr r25=>(some r25))))))
def dG(a0:Int)(a1:Int)(a2:Int):Option (Bool):=
  if(decide (a0>=a1))=true then(some (decide (a0<=a2)))else(some false)
def ev(a0:al):Option (Bool):=
  (cW a0.aQ).bind fun x1=>if x1=true then(if(decide (a0.aM>=0))=true then(if(decide (a0.aM<=a0.bv))=true then(if(decide (a0.bv<=18014398509481984))=true then(if(decide (a0.bD>=1))=true then(some (decide (a0.bD<=100)))else(some false))else(some false))else(some false))else(some false))else(some false)
def ew(a0:Int)(a1:Int)(a2:Int):Option (Int):=
  some (if 0>(if(IntKind.wrap .i64 (a0-a2))>(IntKind.wrap .i64 (a1-a0))then(IntKind.wrap .i64 (a0-a2))else(IntKind.wrap .i64 (a1-a0)))then 0 else(if(IntKind.wrap .i64 (a0-a2))>(IntKind.wrap .i64 (a1-a0))then(IntKind.wrap .i64 (a0-a2))else(IntKind.wrap .i64 (a1-a0))))
def gc(a0:ah)(a1:aa):Option (Int):=
  (bH a0).bind fun x1=>if(!x1)=true then(some 0)else((cW a1).bind fun x3=>if(!x3)=true then(some 0)else((bq a0.aI).bind fun x5=>(bq a0.aC).bind fun x6=>(bq a1).bind fun x7=>(ew x7.a0 x5.a0 x6.a0).bind fun x8=>(ew x7.a1 x5.a1 x6.a1).bind fun x9=>(ew x7.a2 x5.a2 x6.a2).bind fun x10=>some (IntKind.wrap .i64 ((IntKind.wrap .i64 ((IntKind.wrap .i64 (0+(IntKind.wrap .i64 (x8*x8))))+(IntKind.wrap .i64 (x9*x9))))+(IntKind.wrap .i64 (x10*x10))))))
def ep(a0:ah)(a1:aa):Option (Int):=
  (gc a0 a1).bind fun x1=>some x1
def dW(a0:Int)(a1:Int)(a2:Int):Option (Int):=
  some (if(IntKind.wrap .i64 (a0-a1))>(IntKind.wrap .i64 (a2-a0))then(IntKind.wrap .i64 (a0-a1))else(IntKind.wrap .i64 (a2-a0)))
def fA(a0:ah)(a1:aa):Option (Int):=
  (bH a0).bind fun x1=>if(!x1)=true then(some 0)else((cW a1).bind fun x3=>if(!x3)=true then(some 0)else((bq a0.aI).bind fun x5=>(bq a0.aC).bind fun x6=>(bq a1).bind fun x7=>(dW x7.a0 x5.a0 x6.a0).bind fun x8=>(dW x7.a1 x5.a1 x6.a1).bind fun x9=>(dW x7.a2 x5.a2 x6.a2).bind fun x10=>some (IntKind.wrap .i64 ((IntKind.wrap .i64 ((IntKind.wrap .i64 (0+(IntKind.wrap .i64 (x8*x8))))+(IntKind.wrap .i64 (x9*x9))))+(IntKind.wrap .i64 (x10*x10))))))
def f9(a0:ah)(a1:aa):Option (Int):=
  (fA a0 a1).bind fun x1=>some x1
def kw(a0:aH)(a1:ah)(a2:aa):Option (aH×Int×Int):=
  (ep a1 a2).bind fun x1=>(f9 a1 a2).bind fun x2=>some (a0,x1,x2)
def gw(j3:Int)(j4:Int):Option (Int):=
  if(decide (j3>=256))=true then((vB [0,1,2,2,3,3,3,3,4,4,4,4,4,4,4,4,5,5,5,5,5,5,5,5,5,5,5,5,5,5,5,5,6,6,6,6,6,6,6,6,6,6,6,6,6,6,6,6,6,6,6,6,6,6,6,6,6,6,6,6,6,6,6,6,7,7,7,7,7,7,7,7,7,7,7,7,7,7,7,7,7,7,7,7,7,7,7,7,7,7,7,7,7,7,7,7,7,7,7,7,7,7,7,7,7,7,7,7,7,7,7,7,7,7,7,7,7,7,7,7,7,7,7,7,7,7,7,7,8,8,8,8,8,8,8,8,8,8,8,8,8,8,8,8,8,8,8,8,8,8,8,8,8,8,8,8,8,8,8,8,8,8,8,8,8,8,8,8,8,8,8,8,8,8,8,8,8,8,8,8,8,8,8,8,8,8,8,8,8,8,8,8,8,8,8,8,8,8,8,8,8,8,8,8,8,8,8,8,8,8,8,8,8,8,8,8,8,8,8,8,8,8,8,8,8,8,8,8,8,8,8,8,8,8,8,8,8,8,8,8,8,8,8,8,8,8,8,8,8,8,8,8,8,8,8,8] (IntKind.wrap .u8 (p9 .u64 j3 8))).bind fun x6=>some (IntKind.wrap .i64 ((IntKind.wrap .i64 (j4+8))+(IntKind.wrap .i64 x6))))else((vB [0,1,2,2,3,3,3,3,4,4,4,4,4,4,4,4,5,5,5,5,5,5,5,5,5,5,5,5,5,5,5,5,6,6,6,6,6,6,6,6,6,6,6,6,6,6,6,6,6,6,6,6,6,6,6,6,6,6,6,6,6,6,6,6,7,7,7,7,7,7,7,7,7,7,7,7,7,7,7,7,7,7,7,7,7,7,7,7,7,7,7,7,7,7,7,7,7,7,7,7,7,7,7,7,7,7,7,7,7,7,7,7,7,7,7,7,7,7,7,7,7,7,7,7,7,7,7,7,8,8,8,8,8,8,8,8,8,8,8,8,8,8,8,8,8,8,8,8,8,8,8,8,8,8,8,8,8,8,8,8,8,8,8,8,8,8,8,8,8,8,8,8,8,8,8,8,8,8,8,8,8,8,8,8,8,8,8,8,8,8,8,8,8,8,8,8,8,8,8,8,8,8,8,8,8,8,8,8,8,8,8,8,8,8,8,8,8,8,8,8,8,8,8,8,8,8,8,8,8,8,8,8,8,8,8,8,8,8,8,8,8,8,8,8,8,8,8,8,8,8,8,8,8,8,8,8] (IntKind.wrap .u8 j3)).bind fun x7=>some (IntKind.wrap .i64 (j4+(IntKind.wrap .i64 x7))))
def fw(j1:Int)(j2:Int):Option (Int):=
  if(decide (j1>=65536))=true then(gw (p9 .u64 j1 16) (IntKind.wrap .i64 (j2+16)))else(gw j1 j2)
def lE(a0:Int):Option (Int):=
  if(decide (a0>=4294967296))=true then(fw (p9 .u64 a0 32) 32)else(fw a0 0)
def fu(a0:Int):Option (Int):=
  (lE a0).bind fun x1=>some x1
def je(a0:Int):(Int×Int)->Option (py (Int×Int) (Int)):=fun(s5,s6)=>
  if(decide (s6>0))=true then((ru .i64 a0 (orI .i64 s5 s6)).bind fun x10=>if(decide ((orI .i64 s5 s6)<=x10))=true then(some (.next ((orI .i64 s5 s6),(p9 .i64 s6 1))))else(some (.next (s5,(p9 .i64 s6 1)))))else(some (.stop s5))
def gJ(a0:Int):Option (Int):=
  if(decide (a0<=0))=true then(some 0)else((fu (IntKind.wrap .u64 a0)).bind fun x2=>(ru .i64 (IntKind.wrap .i64 (x2-1)) 2).bind fun x3=>(xD .i64 1 x3).bind fun x4=>(oC (je a0) (0,x4)).bind fun o13=>some o13)
def ky(a0:Int):Option (Int):=
  (gJ a0).bind fun x1=>if(decide ((IntKind.wrap .i64 (x1*x1))<a0))=true then(some (IntKind.wrap .i64 (x1+1)))else(some x1)
def lu(a0:aH):Option (Int):=
  some (IntKind.wrap .i64 (a0.bn*(IntKind.wrap .i64 ((a0.aI.length:Int)-1))))
def fr(a0:Int)(d0:aH)(d1:Int):Option (Bool):=
  some (decide ((IntKind.wrap .i64 (a0*d0.bn))>=d1))
def iG(d0:aH)(d1:Int):(Int×Int)->Option (py (Int×Int) (Int)):=fun(s1,s2)=>
  if(decide (s1<s2))=true then((fr (IntKind.wrap .i64 (p9 .u64 (IntKind.wrap .u64 (IntKind.wrap .i64 (s1+s2))) 1)) d0 d1).bind fun x6=>if(!x6)=true then(some (.next ((IntKind.wrap .i64 ((IntKind.wrap .i64 (p9 .u64 (IntKind.wrap .u64 (IntKind.wrap .i64 (s1+s2))) 1))+1)),s2)))else(some (.next (s1,(IntKind.wrap .i64 (p9 .u64 (IntKind.wrap .u64 (IntKind.wrap .i64 (s1+s2))) 1))))))else(some (.stop s1))
def ex(a0:Int)(d0:aH)(d1:Int):Option (Int):=
  (oC (iG d0 d1) (0,a0)).bind fun o9=>some o9
def cn(a0:aH)(a1:Int)(a2:Int):Option (Int×Int×Int):=
  (c9 a0).bind fun x1=>if(x1 != 0)=true then(some (0,0,21))else(if(decide (a1<0))=true then(some (0,0,2))else(if(decide (a1>a2))=true then(some (0,0,2))else((ky a2).bind fun x5=>(lu a0).bind fun x6=>if(decide (x5>x6))=true then(some (0,0,22))else((ex (a0.aC.length:Int) a0 x5).bind fun x8=>(gJ a1).bind fun x9=>(ru .i64 x9 a0.bn).bind fun x10=>(pH a0.aI x10).bind fun x11=>(pH a0.aC x8).bind fun x12=>some (x11,x12,0)))))
def jx(a0:aH)(a1:ah)(a2:aa):Option (Int×Int×Int):=
  (c9 a0).bind fun x1=>if(x1 != 0)=true then(some (0,0,x1))else((bH a1).bind fun x3=>if(!x3)=true then(some (0,0,20))else((cW a2).bind fun x5=>if(!x5)=true then(some (0,0,20))else((kw a0 a1 a2).bind fun x7=>(cn x7.1 x7.2.1 x7.2.2).bind fun x8=>some (x8.1,x8.2.1,x8.2.2))))
def dj(a0:aH)(a1:ah)(a2:al):Option (aF×Int):=
  (c9 a0).bind fun x1=>if(x1 != 0)=true then(some ((aF.mk 0 0),x1))else((bH a1).bind fun x3=>if(!x3)=true then(some ((aF.mk 0 0),20))else((ev a2).bind fun x5=>if(!x5)=true then(some ((aF.mk 0 0),23))else((jx a0 a1 a2.aQ).bind fun x7=>if(x7.2.2 != 0)=true then(some ((aF.mk 0 0),x7.2.2))else(some ((aF.mk (IntKind.wrap .i64 (a2.aM-x7.2.1)) (IntKind.wrap .i64 (a2.bv-x7.1))),0)))))
def cK(a1:(List al))(a0:aG):Int->Option (py (Int) ((Unit)⊕(Int))):=fun s16=>
  if(decide (s16<(a1.length:Int)))=true then((pH a1 s16).bind fun x19=>(dj a0.bc a0.aK x19).bind fun x20=>if(x20.2 != 0)=true then(some (.stop (.inr x20.2)))else(some (.next (IntKind.wrap .i64 (s16+1)))))else(some (.stop (.inl ())))
def da(a0:aG)(a1:(List al)):Option (Int):=
  (bH a0.aK).bind fun x1=>if(!x1)=true then(some 27)else((c9 a0.bc).bind fun x3=>if(x3 != 0)=true then(some 27)else((dG a0.cU 1 1099511627776).bind fun x5=>if(!x5)=true then(some 27)else((dG a0.bP 0 1099511627776).bind fun x7=>if(!x7)=true then(some 27)else((dG a0.kM 0 1099511627776).bind fun x9=>if(!x9)=true then(some 27)else((dG a0.dn 0 1099511627776).bind fun x11=>if(!x11)=true then(some 27)else((dG a0.cN 2 16).bind fun x13=>if(!x13)=true then(some 27)else(if(decide ((a1.length:Int)>256))=true then(some 8)else((oC (cK a1 a0) 0).bind fun o23=>match o23 with| .inl _=>(some 0)| .inr r25=>(some r25)))))))))
def cB(a0:bz):Option (Bool):=
  (c9 a0.bX).bind fun x1=>if(x1==0)=true then(if(decide (a0.bK>=0))=true then(if(decide (a0.bK<=65536))=true then(if(decide (a0.bC>=1))=true then(some (decide (a0.bC<=65536)))else(some false))else(some false))else(some false))else(some false)
def dX(a0:aq):Option (Int):=
  (da a0.ai []).bind fun x1=>if(x1 != 0)=true then(some 27)else((cB a0.eB).bind fun x3=>if(!x3)=true then(some 27)else(if(decide (a0.bP<0))=true then(some 27)else(if(decide (a0.bP>1099511627776))=true then(some 27)else(some 0))))
def dI(a0:aq)(a1:ap)(a2:ae):Option (al×ar×Bool):=
  (fG a2).bind fun x1=>if(!x1)=true then(some ((al.mk (aa.mk 0 0 0) 0 0 0),(ar.mk 0 0 (bJ.mk 0 0) (aa.mk 0 0 0) (aP.mk [])),false))else((ip a1 a2.aA a2.a7).bind fun x3=>if(x3.2 != 0)=true then(some ((al.mk (aa.mk 0 0 0) 0 0 0),(ar.mk 0 0 (bJ.mk 0 0) (aa.mk 0 0 0) (aP.mk [])),false))else((dj a0.ai.bc a0.ai.aK (al.mk x3.1.aW a2.aM a2.bv 1)).bind fun x5=>if(x5.2 != 0)=true then(some ((al.mk (aa.mk 0 0 0) 0 0 0),(ar.mk 0 0 (bJ.mk 0 0) (aa.mk 0 0 0) (aP.mk [])),false))else(some ((al.mk x3.1.aW a2.aM a2.bv 1),x3.1,true))))
def iY(a0:aq)(a1:ap)(a2:ae):Option (al×Bool):=
  (dX a0).bind fun x1=>if(x1 != 0)=true then(some ((al.mk (aa.mk 0 0 0) 0 0 0),false))else((cJ a1).bind fun x3=>if(!x3)=true then(some ((al.mk (aa.mk 0 0 0) 0 0 0),false))else((dI a0 a1 a2).bind fun x5=>some (x5.1,x5.2.2)))
def jZ(x5:(List ae))(a0:aq)(a1:ap):(Int×(List ae)×(List al))->Option (py (Int×(List ae)×(List al)) ((List ae)×(List al))):=fun(s6,s7,s8)=>
  if(decide (s6<(x5.length:Int)))=true then((inO x5 s6).bind fun _=>(pH x5 s6).bind fun x15=>(iY a0 a1 x15).bind fun x16=>if x16.2=true then((qq s7 [x15] 104).bind fun x18=>(qq s8 [x16.1] 48).bind fun x19=>some (.next ((IntKind.wrap .i64 (s6+1)),x18,x19)))else(some (.next ((IntKind.wrap .i64 (s6+1)),s7,s8))))else(some (.stop (s7,s8)))
def lk(a0:aq)(a1:ap)(a2:(List ae)):Option ((List ae)×(List al)×Int):=
  (dX a0).bind fun x1=>if(x1 != 0)=true then(some (([]:(List ae)),([]:(List al)),27))else((cJ a1).bind fun x3=>if(!x3)=true then(some (([]:(List ae)),([]:(List al)),1))else((cQ a2).bind fun x5=>(oC (jZ x5 a0 a1) (0,([]:(List ae)),([]:(List al)))).bind fun o21=>if(decide ((o21.1.length:Int)>256))=true then(some (([]:(List ae)),([]:(List al)),8))else(some (o21.1,o21.2,0))))
def dx(a0:aa)(a1:aa):Option (Int):=
  (bA a0.fX a1.fX).bind fun x1=>(bA a0.fY a1.fY).bind fun x2=>(bA a0.fZ a1.fZ).bind fun x3=>(cA [x1,x2,x3]).bind fun x4=>some x4
def gE(a0:al)(a1:al):Option (Int):=
  (bA a0.aM a1.aM).bind fun x1=>(bA a0.bv a1.bv).bind fun x2=>(dx a0.aQ a1.aQ).bind fun x3=>(bA a0.bD a1.bD).bind fun x4=>(cA [x1,x2,x3,x4]).bind fun x5=>some x5
def eU(a0:Int)(a1:Int)(d0:(List al)):Option (Int):=
  (pH d0 a0).bind fun x1=>(pH d0 a1).bind fun x2=>(gE x1 x2).bind fun x3=>some x3
def gC(a0:Int)(d1:(List al))(s1:Int):(Int×(List Int))->Option (py (Int×(List Int)) (Int×(List Int))):=fun(s5,s6)=>
  if(decide (s5>a0))=true then((inO s6 s5).bind fun _=>(pH s6 s5).bind fun x13=>(inO s6 (IntKind.wrap .i64 (s5-1))).bind fun _=>(pH s6 (IntKind.wrap .i64 (s5-1))).bind fun x16=>(eU x13 x16 d1).bind fun x17=>if(decide (x17<0))=true then((inO s6 (IntKind.wrap .i64 (s5-1))).bind fun _=>(pH s6 (IntKind.wrap .i64 (s5-1))).bind fun x21=>(inO s6 s5).bind fun _=>(pH s6 s5).bind fun x24=>(inO s6 s5).bind fun _=>(sb s6 s5 x21).bind fun x27=>(inO x27 (IntKind.wrap .i64 (s5-1))).bind fun _=>(sb x27 (IntKind.wrap .i64 (s5-1)) x24).bind fun x30=>some (.next ((IntKind.wrap .i64 (s5-1)),x30)))else(some (.stop (s1,s6))))else(some (.stop (s1,s6)))
def gD(a1:Int)(a0:Int)(d1:(List al)):(Int×(List Int))->Option (py (Int×(List Int)) ((List Int))):=fun(s1,s2)=>
  if(decide (s1<a1))=true then((oC (gC a0 d1 s1) (s1,s2)).bind fun o32=>some (.next ((IntKind.wrap .i64 (o32.1+1)),o32.2)))else((some s2).bind fun z33=>some (.stop z33))
def cf(a0:Int)(a1:Int)(d0:(List Int))(d1:(List al)):Option ((List Int)):=
  (oC (gD a1 a0 d1) ((IntKind.wrap .i64 (a0+1)),d0)).bind fun o35=>some o35
def fe(a0:Int)(d1:(List al)):(Int×Int×(List Int))->Option (py (Int×Int×(List Int)) (Int×(List Int))):=fun(s1,s2,s3)=>
  if(decide (s2<=a0))=true then((cf s1 s2 s3 d1).bind fun x8=>some (.next (s2,(IntKind.wrap .i64 (s2+20)),x8)))else(some (.stop (s1,s3)))
def jv(s12:Int)(a0:Int):Unit->Option (py (Unit) (Int)):=fun _=>
  if(decide ((IntKind.wrap .i64 (2*s12))<=a0))=true then(none)else(some (.stop s12))
def eM(a0:Int)(x11:(List Int)):Int->Option (py (Int) ((List Int))):=fun s12=>
  if(decide (s12<a0))=true then((oC (jv s12 a0) ()).bind fun o19=>if(decide ((IntKind.wrap .i64 (0+o19))<a0))=true then(none)else(some (.next (IntKind.wrap .i64 (o19*2)))))else((some x11).bind fun z21=>some (.stop z21))
def dT(a0:Int)(d0:(List Int))(d1:(List al)):Option ((List Int)):=
  (oC (fe a0 d1) (0,20,d0)).bind fun o10=>(cf o10.1 a0 o10.2 d1).bind fun x11=>(oC (eM a0 x11) 20).bind fun o23=>some o23
def cM(d0:(List Int))(d1:(List al)):Option ((List Int)):=
  (dT (d0.length:Int) d0 d1).bind fun x1=>some x1
def kX(x1:(List Int)):(Int×(List Int))->Option (py (Int×(List Int)) ((List Int))):=fun(s2,s3)=>
  if(decide (s2<(x1.length:Int)))=true then((inO s3 s2).bind fun _=>(sb s3 s2 s2).bind fun x9=>some (.next ((IntKind.wrap .i64 (s2+1)),x9)))else(some (.stop s3))
def iR(a0:(List al)):Option ((List Int)):=
  (mkO (a0.length:Int) 0 8).bind fun x1=>(oC (kX x1) (0,x1)).bind fun o11=>(cM o11 a0).bind fun x12=>some x12
def jw(a0:Int):(Int×(List Int)×(List Int))->Option (py (Int×(List Int)×(List Int)) ((List Int)×(List Int))):=fun(s3,s4,s5)=>
  if(decide (s3<(IntKind.wrap .i64 (a0+1))))=true then((vL (IntKind.wrap .i64 (s3+1)) (IntKind.wrap .i64 (a0+1))).bind fun x10=>(vL (IntKind.wrap .i64 (s3+1)) (IntKind.wrap .i64 (a0+1))).bind fun x11=>(inO s4 s3).bind fun _=>(sb s4 s3 x11).bind fun x14=>(inO s5 x10).bind fun _=>(sb s5 x10 s3).bind fun x17=>some (.next ((IntKind.wrap .i64 (s3+1)),x14,x17)))else(some (.stop (s4,s5)))
def fS(a0:Int):Option (ba):=
  (mkO (IntKind.wrap .i64 (a0+1)) 0 8).bind fun x1=>(mkO (IntKind.wrap .i64 (a0+1)) 0 8).bind fun x2=>(oC (jw a0) (0,x1,x2)).bind fun o19=>some (ba.mk o19.1 o19.2)
def ij(a0:ba):Option (Int):=
  some (IntKind.wrap .i64 ((a0.mE.length:Int)-1))
def co(d0:(List Int))(d1:(List Int))(a3:(List Int))(a2:(List al))(x4:Int)(a1:aG):(Int×(List Int))->Option (py (Int×(List Int)) ((List Int))):=fun(s5,s6)=>
  (ij (ba.mk d0 d1)).bind fun x9=>if(s5 != x9)=true then(if(decide ((s6.length:Int)<16))=true then((pH a3 s5).bind fun x12=>(pH a2 x12).bind fun x13=>(pH a3 x4).bind fun x14=>(pH a2 x14).bind fun x15=>if(decide ((IntKind.wrap .i64 (x13.aM-x15.aM))<=a1.dn))=true then((qq s6 [s5] 8).bind fun x17=>(inO d0 s5).bind fun _=>(pH d0 s5).bind fun x20=>some (.next (x20,x17)))else(some (.stop s6)))else(some (.stop s6)))else(some (.stop s6))
def kx(a1:aG)(a2:(List al))(a3:(List Int))(d0:(List Int))(d1:(List Int)):Option ((List Int)×(List Int)×(List Int)):=
  (ij (ba.mk d0 d1)).bind fun x1=>(inO d0 x1).bind fun _=>(pH d0 x1).bind fun x4=>(oC (co d0 d1 a3 a2 x4 a1) (x4,([]:(List Int)))).bind fun o22=>some (o22,d0,d1)
def dU(a0:aG)(a1:(List al)):Option (ag):=
  some (ag.mk a0.aK a0.bc a1 a0.cU)
def k9(a0:ag):Int->Option (py (Int) ((Unit)⊕(Int))):=fun s9=>
  if(decide (s9<(a0.aX.length:Int)))=true then((pH a0.aX s9).bind fun x12=>(dj a0.bc a0.aK x12).bind fun x13=>if(x13.2 != 0)=true then(some (.stop (.inr x13.2)))else(some (.next (IntKind.wrap .i64 (s9+1)))))else(some (.stop (.inl ())))
def gr(a0:ag):Option (Int):=
  (bH a0.aK).bind fun x1=>if(!x1)=true then(some 20)else((c9 a0.bc).bind fun x3=>if(x3 != 0)=true then(some x3)else(if((a0.aX.length:Int)==0)=true then(some 24)else(if(decide ((a0.aX.length:Int)>64))=true then(some 8)else(if(decide (a0.cU<1))=true then(some 2)else(if(decide (a0.cU>1099511627776))=true then(some 2)else((oC (k9 a0) 0).bind fun o16=>match o16 with| .inl _=>(some 0)| .inr r18=>(some r18)))))))
def eW(a0:ah)(a1:aa):Option (Bool):=
  (bH a0).bind fun x1=>if x1=true then((cW a1).bind fun x3=>if x3=true then((ep a0 a1).bind fun x5=>some (x5==0))else(some false))else(some false)
def iU(a0:ah)(a1:ah):Option (Bool):=
  (bH a0).bind fun x1=>if x1=true then((eW a1 a0.aI).bind fun x3=>if x3=true then((eW a1 a0.aC).bind fun x5=>some x5)else(some false))else(some false)
def kf(a0:ag)(a1:ah):(Int×(List aF))->Option (py (Int×(List aF)) (((List aF))⊕((List aF)×Int))):=fun(s2,s3)=>
  if(decide (s2<(a0.aX.length:Int)))=true then((pH a0.aX s2).bind fun x7=>(dj a0.bc a1 x7).bind fun x8=>if(x8.2 != 0)=true then(some (.stop (.inr (([]:(List aF)),x8.2))))else((qq s3 [x8.1] 16).bind fun x10=>some (.next ((IntKind.wrap .i64 (s2+1)),x10))))else(some (.stop (.inl s3)))
def lq(a0:ag)(a1:ah):Option ((List aF)×Int):=
  (mkCO 0 (a0.aX.length:Int) (aF.mk 0 0) 16).bind fun x1=>(oC (kf a0 a1) (0,x1)).bind fun o12=>match o12 with| .inl y13=>(some (y13,0))| .inr r14=>(some r14)
def e8(a0:ag)(a1:ah):Option ((List aF)×Int):=
  (gr a0).bind fun x1=>if(x1 != 0)=true then(some (([]:(List aF)),x1))else((iU a1 a0.aK).bind fun x3=>if(!x3)=true then(some (([]:(List aF)),20))else((lq a0 a1).bind fun x5=>some (x5.1,x5.2)))
def eR(a0:aF)(a1:Int):Option (Int):=
  some (if 0>(if(IntKind.wrap .i64 (a1-a0.fTo))>(IntKind.wrap .i64 (a0.bj-a1))then(IntKind.wrap .i64 (a1-a0.fTo))else(IntKind.wrap .i64 (a0.bj-a1)))then 0 else(if(IntKind.wrap .i64 (a1-a0.fTo))>(IntKind.wrap .i64 (a0.bj-a1))then(IntKind.wrap .i64 (a1-a0.fTo))else(IntKind.wrap .i64 (a0.bj-a1))))
def kR(a0:ag)(a1:(List aF))(a2:Int):(Int×Int)->Option (py (Int×Int) (Int)):=fun(s1,s2)=>
  if(decide (s2<(a0.aX.length:Int)))=true then((pH a0.aX s2).bind fun x6=>if(decide (s2<(a1.length:Int)))=true then((pH a1 s2).bind fun x8=>(eR x8 a2).bind fun x9=>some (.next ((IntKind.wrap .i64 (s1+(IntKind.wrap .i64 (x6.bD*(if x9<a0.cU then x9 else a0.cU))))),(IntKind.wrap .i64 (s2+1)))))else(some (.next (s1,(IntKind.wrap .i64 (s2+1))))))else(some (.stop s1))
def gT(a0:ag)(a1:(List aF))(a2:Int):Option (Int):=
  (oC (kR a0 a1 a2) (0,0)).bind fun o11=>some o11
def lJ(a1:(List aF)):(Int×(List Int))->Option (py (Int×(List Int)) ((List Int))):=fun(s2,s3)=>
  if(decide (s2<(a1.length:Int)))=true then((pH a1 s2).bind fun x7=>(qq s3 [x7.bj,x7.fTo] 8).bind fun x8=>some (.next ((IntKind.wrap .i64 (s2+1)),x8)))else(some (.stop s3))
def kQ(x20:Int)(o10:(List Int))(a0:ag)(a1:(List aF)):(Int×Int×Int)->Option (py (Int×Int×Int) (Int×Int)):=fun(s21,s22,s23)=>
  if(decide (s23<x20))=true then((inV o10.length (0+(1:Int).toNat) (0+((o10.length:Int):Int).toNat) s23).bind fun _=>(pH o10 (((0+(1:Int).toNat)+(s23:Int).toNat:Nat):Int)).bind fun x29=>(gT a0 a1 x29).bind fun x30=>if(decide (x30<s22))=true then(some (.next (x29,x30,(IntKind.wrap .i64 (s23+1)))))else(if(x30==s22)=true then(if(decide (x29<s21))=true then(some (.next (x29,x30,(IntKind.wrap .i64 (s23+1)))))else(some (.next (s21,s22,(IntKind.wrap .i64 (s23+1))))))else(some (.next (s21,s22,(IntKind.wrap .i64 (s23+1)))))))else(some (.stop (s21,s22)))
def gR(a0:ag)(a1:(List aF)):Option (Int×Int):=
  (mkCO 0 (IntKind.wrap .i64 (2*(a1.length:Int))) 0 8).bind fun x1=>(oC (lJ a1) (0,x1)).bind fun o10=>if((o10.length:Int)==0)=true then(some (0,0))else((inO o10 0).bind fun _=>(pH o10 0).bind fun x14=>(inO o10 0).bind fun _=>(pH o10 0).bind fun x17=>(gT a0 a1 x17).bind fun x18=>(vq o10.length 1 (o10.length:Int)).bind fun _=>(lenV o10.length (0+(1:Int).toNat) (0+((o10.length:Int):Int).toNat)).bind fun x20=>(oC (kQ x20 o10 a0 a1) (x14,x18,0)).bind fun o35=>some (o35.1,o35.2))
def ed(a0:ag)(a1:ah):Option (Int×Int):=
  (e8 a0 a1).bind fun x1=>if(x1.2 != 0)=true then(some (0,x1.2))else((gR a0 x1.1).bind fun x3=>some (x3.2,0))
def m8(a0:ak)(e1:ag)(e2:Int)(e3:Int)(e4:Bool)(e5:aj):Option ((List ak)):=
  (qq ([]:List ak) [a0] 64).bind fun x1=>some x1
def gA(a0:(List ak)):Option (Int):=
  some (a0.length:Int)
def gY(a0:(List ak))(a1:Int)(a2:Int):Option (Bool):=
  (pH a0 a1).bind fun x1=>(pH a0 a2).bind fun x2=>(bA x1.ce x2.ce).bind fun x3=>(pH a0 a1).bind fun x4=>(pH a0 a2).bind fun x5=>(bA x4.f8 x5.f8).bind fun x6=>(cA [x3,x6]).bind fun x7=>some (decide (x7<0))
def gZ(a1:Int)(a2:Int)(d0:(List ak)):Option ((List ak)):=
  (inO d0 a2).bind fun _=>(pH d0 a2).bind fun x3=>(inO d0 a1).bind fun _=>(pH d0 a1).bind fun x6=>(inO d0 a1).bind fun _=>(sb d0 a1 x3).bind fun x9=>(inO x9 a2).bind fun _=>(sb x9 a2 x6).bind fun x12=>some x12
def l5:(Int×(List ak))->Option (py (Int×(List ak)) ((List ak))):=fun(s1,s2)=>
  (ru .i64 (IntKind.wrap .i64 (s1-1)) 2).bind fun x4=>if(x4==s1)=true then((some s2).bind fun z6=>some (.stop z6))else((gY s2 s1 x4).bind fun x7=>if(!x7)=true then((some s2).bind fun z9=>some (.stop z9))else((gZ x4 s1 s2).bind fun x10=>some (.next (x4,x10))))
def mX(a0:Int)(e1:ag)(e2:Int)(e3:Int)(e4:Bool)(e5:aj)(d1:(List ak)):Option ((List ak)):=
  (oC (l5) (a0,d1)).bind fun o12=>some o12
def lz(a0:ak)(e1:ag)(e2:Int)(e3:Int)(e4:Bool)(e5:aj):Option ((List ak)):=
  (m8 a0 e1 e2 e3 e4 e5).bind fun x1=>(gA x1).bind fun x2=>(mX (IntKind.wrap .i64 (x2-1)) e1 e2 e3 e4 e5 x1).bind fun x3=>some x3
def iP(x1:Int×Int)(j2:Int)(j3:(List ak)):Option (Int×(List ak)×Int):=
  some (x1.2,j3,j2)
def kk(a0:ah)(e1:ag)(e2:Int)(e3:Int)(e4:Bool)(e5:aj):Option (Int×(List ak)×Int):=
  (ed e1 a0).bind fun x1=>if(x1.2==0)=true then((lz (ak.mk a0 x1.1 e2) e1 e2 e3 e4 e5).bind fun x6=>iP x1 (IntKind.wrap .i64 (e2+1)) x6)else(iP x1 e2 ([]:List ak))
def iy(a0:Int)(e1:ag)(e2:Int)(e3:Int)(e4:Bool)(e5:aj)(d1:(List ak)):Option (Bool):=
  if((d1.length:Int)==0)=true then(some true)else(if e4=true then((inO d1 0).bind fun _=>(pH d1 0).bind fun x5=>some (decide ((IntKind.wrap .i64 (e5.bi-x5.ce))<=a0)))else(some false))
def er(s2:(List ak))(s1:Int)(j8:Int):Option (py (Int×(List ak)) (Int×(List ak))):=
  (gY s2 j8 s1).bind fun x9=>if(!x9)=true then(some (.stop (s1,s2)))else((gZ s1 j8 s2).bind fun x11=>some (.next (j8,x11)))
def mm(a1:Int):(Int×(List ak))->Option (py (Int×(List ak)) (Int×(List ak))):=fun(s1,s2)=>
  if(decide ((IntKind.wrap .i64 ((IntKind.wrap .i64 (2*s1))+1))>=a1))=true then(some (.stop (s1,s2)))else(if(decide ((IntKind.wrap .i64 ((IntKind.wrap .i64 (2*s1))+1))<0))=true then(some (.stop (s1,s2)))else(if(decide ((IntKind.wrap .i64 ((IntKind.wrap .i64 ((IntKind.wrap .i64 (2*s1))+1))+1))<a1))=true then((gY s2 (IntKind.wrap .i64 ((IntKind.wrap .i64 ((IntKind.wrap .i64 (2*s1))+1))+1)) (IntKind.wrap .i64 ((IntKind.wrap .i64 (2*s1))+1))).bind fun x14=>if x14=true then(er s2 s1 (IntKind.wrap .i64 ((IntKind.wrap .i64 ((IntKind.wrap .i64 (2*s1))+1))+1)))else(er s2 s1 (IntKind.wrap .i64 ((IntKind.wrap .i64 (2*s1))+1))))else(er s2 s1 (IntKind.wrap .i64 ((IntKind.wrap .i64 (2*s1))+1)))))
def lA(a0:Int)(a1:Int)(e2:ag)(e3:Int)(e4:Int)(e5:Bool)(e6:aj)(d1:(List ak)):Option (Bool×(List ak)):=
  (oC (mm a1) (a0,d1)).bind fun o17=>some ((decide (o17.1>a0)),o17.2)
def oe(e0:ag)(e1:Int)(e2:Int)(e3:Bool)(e4:aj)(d1:(List ak)):Option (ak×(List ak)):=
  (inO d1 (IntKind.wrap .i64 ((d1.length:Int)-1))).bind fun _=>(pH d1 (IntKind.wrap .i64 ((d1.length:Int)-1))).bind fun x3=>(vq d1.length 0 (IntKind.wrap .i64 ((d1.length:Int)-1))).bind fun _=>some (x3,(d1.take ((IntKind.wrap .i64 ((d1.length:Int)-1)):Int).toNat))
def mF(e0:ag)(e1:Int)(e2:Int)(e3:Bool)(e4:aj)(d1:(List ak)):Option (ak×(List ak)):=
  (gA d1).bind fun x1=>(gZ 0 (IntKind.wrap .i64 (x1-1)) d1).bind fun x2=>(lA 0 (IntKind.wrap .i64 (x1-1)) e0 e1 e2 e3 e4 x2).bind fun x3=>(oe e0 e1 e2 e3 e4 x3.2).bind fun x4=>some (x4.1,x4.2)
def bN(a0:Int)(a1:Int):Option (Int):=
  (ru .i64 (IntKind.wrap .i64 (a1-a0)) 2).bind fun x1=>some (IntKind.wrap .i64 (a0+x1))
def bu(a0:aT):Option (aa):=
  some (aa.mk a0.a0 a0.a1 a0.a2)
def eQ(a0:ah):Option (aa):=
  (bH a0).bind fun x1=>if(!x1)=true then(some (aa.mk 0 0 0))else((bq a0.aI).bind fun x3=>(bq a0.aC).bind fun x4=>(bN x3.a0 x4.a0).bind fun x5=>(bN x3.a1 x4.a1).bind fun x6=>(bN x3.a2 x4.a2).bind fun x7=>(bu (aT.mk x5 x6 x7)).bind fun x8=>some x8)
def gz(a0:ag)(a1:aa):Option (Int×Int×Int):=
  (e8 a0 (ah.mk a1 a1)).bind fun x1=>if(x1.2 != 0)=true then(some (0,0,x1.2))else((gR a0 x1.1).bind fun x3=>some (x3.1,x3.2,0))
def jp(a0:ah)(e1:ag)(e2:Int)(e3:Int)(e4:Bool)(e5:aj)(d1:(List ak)):Option (Int×Bool×aj):=
  (eQ a0).bind fun x1=>(gz e1 x1).bind fun x2=>if(x2.2.2 != 0)=true then(some (x2.2.2,e4,e5))else(if(!e4)=true then(some (0,true,(aj.mk x1 x2.1 x2.2.1 0 (ah.mk (aa.mk 0 0 0) (aa.mk 0 0 0)))))else(if(decide (x2.2.1<e5.bi))=true then(some (0,true,(aj.mk x1 x2.1 x2.2.1 0 (ah.mk (aa.mk 0 0 0) (aa.mk 0 0 0)))))else(if(x2.2.1==e5.bi)=true then((dx x1 e5.aU).bind fun x7=>if(decide (x7<0))=true then(some (0,true,(aj.mk x1 x2.1 x2.2.1 0 (ah.mk (aa.mk 0 0 0) (aa.mk 0 0 0)))))else(some (0,e4,e5)))else(some (0,e4,e5)))))
def iT(a0:ah):Option (Int):=
  (bH a0).bind fun x1=>if(!x1)=true then(some 0)else((bq a0.aC).bind fun x3=>(bq a0.aI).bind fun x4=>some (IntKind.wrap .i64 ((IntKind.wrap .i64 ((IntKind.wrap .i64 (1*(IntKind.wrap .i64 ((IntKind.wrap .i64 (x3.a0-x4.a0))+1))))*(IntKind.wrap .i64 ((IntKind.wrap .i64 (x3.a1-x4.a1))+1))))*(IntKind.wrap .i64 ((IntKind.wrap .i64 (x3.a2-x4.a2))+1)))))
def eD(a0:ah):Option (ah×ah×Bool):=
  (iT a0).bind fun x1=>if(decide (x1<2))=true then(some ((ah.mk (aa.mk 0 0 0) (aa.mk 0 0 0)),(ah.mk (aa.mk 0 0 0) (aa.mk 0 0 0)),false))else((bq a0.aI).bind fun x3=>(bq a0.aC).bind fun x4=>if(decide ((IntKind.wrap .i64 (x4.a1-x3.a1))>(IntKind.wrap .i64 (x4.a0-x3.a0))))=true then(if(decide ((IntKind.wrap .i64 (x4.a2-x3.a2))>(IntKind.wrap .i64 (x4.a1-x3.a1))))=true then((bN x3.a2 x4.a2).bind fun x7=>(bu (aT.mk x4.a0 x4.a1 x7)).bind fun x8=>(bu (aT.mk x3.a0 x3.a1 (IntKind.wrap .i64 (x7+1)))).bind fun x9=>some ((ah.mk a0.aI x8),(ah.mk x9 a0.aC),true))else((bN x3.a1 x4.a1).bind fun x10=>(bu (aT.mk x4.a0 x10 x4.a2)).bind fun x11=>(bu (aT.mk x3.a0 (IntKind.wrap .i64 (x10+1)) x3.a2)).bind fun x12=>some ((ah.mk a0.aI x11),(ah.mk x12 a0.aC),true)))else(if(decide ((IntKind.wrap .i64 (x4.a2-x3.a2))>(IntKind.wrap .i64 (x4.a0-x3.a0))))=true then((bN x3.a2 x4.a2).bind fun x14=>(bu (aT.mk x4.a0 x4.a1 x14)).bind fun x15=>(bu (aT.mk x3.a0 x3.a1 (IntKind.wrap .i64 (x14+1)))).bind fun x16=>some ((ah.mk a0.aI x15),(ah.mk x16 a0.aC),true))else((bN x3.a0 x4.a0).bind fun x17=>(bu (aT.mk x17 x4.a1 x4.a2)).bind fun x18=>(bu (aT.mk (IntKind.wrap .i64 (x17+1)) x3.a1 x3.a2)).bind fun x19=>some ((ah.mk a0.aI x18),(ah.mk x19 a0.aC),true))))
def l8(a0:ak)(e1:ag)(e2:Int)(e3:Int)(e4:Bool)(e5:aj)(d1:(List ak)):Option ((List ak)):=
  (qq d1 [a0] 64).bind fun x1=>some x1
def kc(a0:ak)(e1:ag)(e2:Int)(e3:Int)(e4:Bool)(e5:aj)(d1:(List ak)):Option ((List ak)):=
  (l8 a0 e1 e2 e3 e4 e5 d1).bind fun x1=>(gA x1).bind fun x2=>(mX (IntKind.wrap .i64 (x2-1)) e1 e2 e3 e4 e5 x1).bind fun x3=>some x3
def hY(x1:Int×Int)(j2:Int)(j3:(List ak)):Option (Int×Int×(List ak)):=
  some (x1.2,j2,j3)
def hX(a0:ah)(e1:ag)(e2:Int)(e3:Int)(e4:Bool)(e5:aj)(d1:(List ak)):Option (Int×Int×(List ak)):=
  (ed e1 a0).bind fun x1=>if(x1.2==0)=true then((kc (ak.mk a0 x1.1 e2) e1 e2 e3 e4 e5 d1).bind fun x6=>hY x1 (IntKind.wrap .i64 (e2+1)) x6)else(hY x1 e2 d1)
def jq(e0:ag)(e1:Int)(e2:Int)(e3:Bool)(e4:aj)(d1:(List ak)):Option (Int×Int×Int×Bool×aj×(List ak)):=
  if(e2==3000)=true then(some (25,e1,e2,e3,e4,d1))else((inO d1 0).bind fun _=>(pH d1 0).bind fun x4=>(mF e0 e1 e2 e3 e4 d1).bind fun x5=>(jp x4.jd e0 e1 (IntKind.wrap .i64 (e2+1)) e3 e4 x5.2).bind fun x6=>if(x6.1 != 0)=true then(some (x6.1,e1,(IntKind.wrap .i64 (e2+1)),x6.2.1,x6.2.2,x5.2))else((eD x4.jd).bind fun x8=>if(!x8.2.2)=true then(some (0,e1,(IntKind.wrap .i64 (e2+1)),x6.2.1,x6.2.2,x5.2))else((hX x8.1 e0 e1 (IntKind.wrap .i64 (e2+1)) x6.2.1 x6.2.2 x5.2).bind fun x10=>if(x10.1 != 0)=true then(some (x10.1,x10.2.1,(IntKind.wrap .i64 (e2+1)),x6.2.1,x6.2.2,x10.2.2))else((hX x8.2.1 e0 x10.2.1 (IntKind.wrap .i64 (e2+1)) x6.2.1 x6.2.2 x10.2.2).bind fun x12=>some (x12.1,x12.2.1,(IntKind.wrap .i64 (e2+1)),x6.2.1,x6.2.2,x12.2.2)))))
def jH(a1:Int)(a0:ag):(Int×Int×Bool×aj×(List ak))->Option (py (Int×Int×Bool×aj×(List ak)) (((List ak)×Int×Int×Bool×aj)⊕((Option bM)×Int))):=fun(s6,s7,s8,s9,s10)=>
  (iy a1 a0 s6 s7 s8 s9 s10).bind fun x17=>if(!x17)=true then((jq a0 s6 s7 s8 s9 s10).bind fun x19=>if(x19.1 != 0)=true then(some (.stop (.inr (none,x19.1))))else(some (.next (x19.2.1,x19.2.2.1,x19.2.2.2.1,x19.2.2.2.2.1,x19.2.2.2.2.2))))else(some (.stop (.inl (s10,s6,s7,s8,s9))))
def gP(a0:ag)(a1:Int):Option ((Option bM)×Int):=
  (gr a0).bind fun x1=>if(x1 != 0)=true then(some (none,x1))else(if(decide (a1<0))=true then(some (none,2))else((kk a0.aK a0 0 0 false (aj.mk (aa.mk 0 0 0) 0 0 0 (ah.mk (aa.mk 0 0 0) (aa.mk 0 0 0)))).bind fun x4=>if(x4.1 != 0)=true then(some (none,x4.1))else((oC (jH a1 a0) (x4.2.2,0,false,(aj.mk (aa.mk 0 0 0) 0 0 0 (ah.mk (aa.mk 0 0 0) (aa.mk 0 0 0))),x4.2.1)).bind fun o22=>match o22 with| .inl y23=>(some ((some (bM.mk a0 y23.1 y23.2.1 y23.2.2.1 y23.2.2.2.1 (aj.mk (aa.mk y23.2.2.2.2.aU.fX y23.2.2.2.2.aU.fY y23.2.2.2.2.aU.fZ) y23.2.2.2.2.a7 y23.2.2.2.2.bi y23.2.2.2.2.eN (ah.mk (aa.mk y23.2.2.2.2.aZ.aI.fX y23.2.2.2.2.aZ.aI.fY y23.2.2.2.2.aZ.aI.fZ) (aa.mk y23.2.2.2.2.aZ.aC.fX y23.2.2.2.2.aZ.aC.fY y23.2.2.2.2.aZ.aC.fZ))))),0))| .inr r24=>(some r24))))
def kz(a0:ah)(a1:ah):Option (ah):=
  (bH a0).bind fun x1=>if(!x1)=true then(some (ah.mk (aa.mk 0 0 0) (aa.mk 0 0 0)))else((bH a1).bind fun x3=>if(!x3)=true then(some (ah.mk (aa.mk 0 0 0) (aa.mk 0 0 0)))else((bq a0.aI).bind fun x5=>(bq a0.aC).bind fun x6=>(bq a1.aI).bind fun x7=>(bq a1.aC).bind fun x8=>(bu (aT.mk (if x7.a0<x5.a0 then x7.a0 else x5.a0) (if x7.a1<x5.a1 then x7.a1 else x5.a1) (if x7.a2<x5.a2 then x7.a2 else x5.a2))).bind fun x9=>(bu (aT.mk (if x8.a0>x6.a0 then x8.a0 else x6.a0) (if x8.a1>x6.a1 then x8.a1 else x6.a1) (if x8.a2>x6.a2 then x8.a2 else x6.a2))).bind fun x10=>some (ah.mk x9 x10)))
def jG(y2:bM):(Int×Int×ah)->Option (py (Int×Int×ah) (Int×ah)):=fun(s5,s6,s7)=>
  if(decide (s5<(y2.jD.length:Int)))=true then((pH y2.jD s5).bind fun x12=>if(decide (x12.ce<y2.bQ.bi))=true then((kz s7 x12.jd).bind fun x14=>some (.next ((IntKind.wrap .i64 (s5+1)),(if x12.ce<s6 then x12.ce else s6),x14)))else(some (.next ((IntKind.wrap .i64 (s5+1)),(if x12.ce<s6 then x12.ce else s6),s7))))else(some (.stop (s6,s7)))
def c7(a0:ag)(a1:Int):Option (aj×Int):=
  (gP a0 a1).bind fun x1=>optC x1.1 (if(x1.2 != 0)=true then(some ((aj.mk (aa.mk 0 0 0) 0 0 0 (ah.mk (aa.mk 0 0 0) (aa.mk 0 0 0))),x1.2))else(none)) (fun y2=>if(x1.2 != 0)=true then(some ((aj.mk (aa.mk 0 0 0) 0 0 0 (ah.mk (aa.mk 0 0 0) (aa.mk 0 0 0))),x1.2))else((oC (jG y2) (0,y2.bQ.bi,(ah.mk y2.bQ.aU y2.bQ.aU))).bind fun o16=>some ((aj.mk y2.bQ.aU y2.bQ.a7 y2.bQ.bi o16.1 (ah.mk (aa.mk o16.2.aI.fX o16.2.aI.fY o16.2.aI.fZ) (aa.mk o16.2.aC.fX o16.2.aC.fY o16.2.aC.fZ))),0)))
def gV(x1:(List aF)×Int)(a2:Int):(Int×(List Int))->Option (py (Int×(List Int)) ((List Int))):=fun(s6,s7)=>
  if(decide (s6<(x1.1.length:Int)))=true then((pH x1.1 s6).bind fun x11=>(eR x11 a2).bind fun x12=>(qq s7 [x12] 8).bind fun x13=>some (.next ((IntKind.wrap .i64 (s6+1)),x13)))else(some (.stop s7))
def fF(a0:ag)(a1:aa)(a2:Int):Option ((List Int)×Int):=
  (e8 a0 (ah.mk a1 a1)).bind fun x1=>if(x1.2 != 0)=true then(some (([]:(List Int)),x1.2))else(if(decide (a2<(-18014398509481984)))=true then(some (([]:(List Int)),2))else(if(decide (a2>18014398509481984))=true then(some (([]:(List Int)),2))else((mkCO 0 (x1.1.length:Int) 0 8).bind fun x5=>(oC (gV x1 a2) (0,x5)).bind fun o15=>some (o15,0))))
def jy(a1:Int)(d0:(List Int))(d1:(List Int)):Option ((List Int)×(List Int)):=
  (inO d1 a1).bind fun _=>(pH d1 a1).bind fun x3=>(inO d0 a1).bind fun _=>(pH d0 a1).bind fun x6=>(inO d0 a1).bind fun _=>(pH d0 a1).bind fun x9=>(inO d1 a1).bind fun _=>(pH d1 a1).bind fun x12=>(inO d0 x3).bind fun _=>(sb d0 x3 x9).bind fun x15=>(inO d1 x6).bind fun _=>(sb d1 x6 x12).bind fun x18=>some (x15,x18)
def cg(x18:(List Int)×(List Int)×(List Int))(x3:(List Int))(j19:(List aV))(j20:(List Int)):Option (py ((List aV)×(List Int)×(List Int)×(List Int)) (((List aV)×(List Int))⊕((List aV)×(List Int)×Int))):=
  (pH x18.1 0).bind fun x21=>(pH x3 x21).bind fun x22=>(qq j20 [x22] 8).bind fun x23=>(pH x18.1 0).bind fun x24=>(jy x24 x18.2.1 x18.2.2).bind fun x25=>some (.next (j19,x23,x25.1,x25.2))
def df(x18:(List Int)×(List Int)×(List Int))(x3:(List Int))(a1:(List al))(s5:(List aV))(s6:(List Int)):(Int×(List al))->Option (py (Int×(List al)) ((List al)×(List aV)×(List Int))):=fun(s28,s29)=>
  if(decide (s28<(x18.1.length:Int)))=true then((pH x18.1 s28).bind fun x35=>(pH x3 x35).bind fun x36=>(pH a1 x36).bind fun x37=>(qq s29 [x37] 48).bind fun x38=>some (.next ((IntKind.wrap .i64 (s28+1)),x38)))else(some (.stop (s29,s5,s6)))
def dg(x18:(List Int)×(List Int)×(List Int))(x45:(List Int)×Int)(a0:aG):(Int×(List Int))->Option (py (Int×(List Int)) ((List Int))):=fun(s47,s48)=>
  if(decide (s47<(x18.1.length:Int)))=true then((pH x18.1 s47).bind fun x52=>(pH x45.1 s47).bind fun x53=>if(decide (x53<=a0.kM))=true then((qq s48 [x52] 8).bind fun x55=>some (.next ((IntKind.wrap .i64 (s47+1)),x55)))else(some (.next ((IntKind.wrap .i64 (s47+1)),s48))))else(some (.stop s48))
def ch(o57:(List Int))(x3:(List Int)):(Int×(List Int)×(List Int)×(List Int))->Option (py (Int×(List Int)×(List Int)×(List Int)) ((List Int)×(List Int)×(List Int))):=fun(s59,s60,s61,s62)=>
  if(decide (s59<(o57.length:Int)))=true then((inO o57 s59).bind fun _=>(pH o57 s59).bind fun x70=>(jy x70 s60 s61).bind fun x71=>(pH x3 x70).bind fun x72=>(qq s62 [x72] 8).bind fun x73=>some (.next ((IntKind.wrap .i64 (s59+1)),x71.1,x71.2,x73)))else(some (.stop (s60,s61,s62)))
def bT(a0:aG)(a1:(List al))(x3:(List Int)):((List aV)×(List Int)×(List Int)×(List Int))->Option (py ((List aV)×(List Int)×(List Int)×(List Int)) (((List aV)×(List Int))⊕((List aV)×(List Int)×Int))):=fun(s5,s6,s7,s8)=>
  (ij (ba.mk s7 s8)).bind fun x12=>(inO s7 x12).bind fun _=>(pH s7 x12).bind fun x15=>(ij (ba.mk s7 s8)).bind fun x16=>if(x15 != x16)=true then((kx a0 a1 x3 s7 s8).bind fun x18=>if(decide ((x18.1.length:Int)>=a0.cN))=true then((oC (df x18 x3 a1 s5 s6) (0,([]:(List al)))).bind fun o40=>(dU a0 o40.1).bind fun x41=>(c7 x41 a0.bP).bind fun x42=>if(x42.2 != 0)=true then(some (.stop (.inr (([]:(List aV)),([]:(List Int)),x42.2))))else((dU a0 o40.1).bind fun x44=>(fF x44 x42.1.aU x42.1.a7).bind fun x45=>if(x45.2 != 0)=true then(some (.stop (.inr (([]:(List aV)),([]:(List Int)),x45.2))))else((oC (dg x18 x45 a0) (0,([]:(List Int)))).bind fun o57=>if(decide ((o57.length:Int)>=a0.cN))=true then((oC (ch o57 x3) (0,x18.2.1,x18.2.2,([]:(List Int)))).bind fun o75=>(sh o75.2.2).bind fun x76=>(qq o40.2.1 [(aV.mk x76 x42.1.aU x42.1.a7)] 56).bind fun x77=>some (.next (x77,o40.2.2,o75.1,o75.2.1)))else(cg x18 x3 o40.2.1 o40.2.2))))else(cg x18 x3 s5 s6))else(some (.stop (.inl (s5,s6))))
def fo(a0:aG)(a1:(List al)):Option ((List aV)×(List Int)×Int):=
  (da a0 a1).bind fun x1=>if(x1 != 0)=true then(some (([]:(List aV)),([]:(List Int)),x1))else((iR a1).bind fun x3=>(fS (a1.length:Int)).bind fun x4=>(oC (bT a0 a1 x3) (([]:(List aV)),([]:(List Int)),x4.mE,x4.fback)).bind fun o79=>match o79 with| .inl y80=>((sh y80.2).bind fun x82=>some (y80.1,x82,0))| .inr r81=>(some r81))
def iF(x5:(List ae))(a0:aq)(a1:ap):(Int×(List ae)×(List al)×(List ar))->Option (py (Int×(List ae)×(List al)×(List ar)) ((List ae)×(List al)×(List ar))):=fun(s6,s7,s8,s9)=>
  if(decide (s6<(x5.length:Int)))=true then((inO x5 s6).bind fun _=>(pH x5 s6).bind fun x17=>(dI a0 a1 x17).bind fun x18=>if x18.2.2=true then((qq s7 [x17] 104).bind fun x20=>(qq s8 [x18.1] 48).bind fun x21=>(qq s9 [x18.2.1] 80).bind fun x22=>some (.next ((IntKind.wrap .i64 (s6+1)),x20,x21,x22)))else(some (.next ((IntKind.wrap .i64 (s6+1)),s7,s8,s9))))else(some (.stop (s7,s8,s9)))
def gu(a0:aq)(a1:ap)(a2:(List ae)):Option (aS×Int):=
  (dX a0).bind fun x1=>if(x1 != 0)=true then(some ((aS.mk [] [] []),27))else((cJ a1).bind fun x3=>if(!x3)=true then(some ((aS.mk [] [] []),1))else((cQ a2).bind fun x5=>(oC (iF x5 a0 a1) (0,([]:(List ae)),([]:(List al)),([]:(List ar)))).bind fun o24=>some ((aS.mk o24.1 o24.2.1 o24.2.2),0)))
def iv(a0:aS)(a1:aq):Option (ag×Int):=
  if((a0.cx.length:Int)==0)=true then(some ((ag.mk (ah.mk (aa.mk 0 0 0) (aa.mk 0 0 0)) (aH.mk 0 [] []) [] 0),24))else(if(decide ((a0.cx.length:Int)>64))=true then(some ((ag.mk (ah.mk (aa.mk 0 0 0) (aa.mk 0 0 0)) (aH.mk 0 [] []) [] 0),8))else((ry 8 a1.ai.bc.aI).bind fun x3=>(ry 8 a1.ai.bc.aC).bind fun x4=>some ((ag.mk a1.ai.aK (aH.mk a1.ai.bc.bn x3 x4) a0.cx a1.ai.cU),0)))
def nat_From_l9:(Int×(List Int))->Option (py (Int×(List Int)) ((List Int))):=fun(s2,s3)=>
  if(decide (s2>0))=true then((vL s2 1073741824).bind fun x7=>(qq s3 [x7] 8).bind fun x8=>some (.next ((p9 .i64 s2 30),x8)))else(some (.stop s3))
def pu(a0:Int):Option ((List Int)×Int):=
  if(decide (a0<0))=true then(some (([]:(List Int)),2))else((oC (nat_From_l9) (a0,([]:(List Int)))).bind fun o10=>some (o10,0))
def lM(a0:Int):Option (Bool):=
  if(decide (a0<0))=true then(some true)else(some (decide (a0>=1073741824)))
def fP(a0:(List Int)):Int->Option (py (Int) ((Unit)⊕(Int))):=fun s1=>
  if(decide (s1<(a0.length:Int)))=true then((pH a0 s1).bind fun x4=>(lM x4).bind fun x5=>if x5=true then(some (.stop (.inr s1)))else(some (.next (IntKind.wrap .i64 (s1+1)))))else(some (.stop (.inl ())))
def eF(a0:(List Int)):Option (Int):=
  (oC (fP a0) 0).bind fun o8=>match o8 with| .inl _=>(some (-1))| .inr r10=>(some r10)
def cq(a0:(List Int)):Option (Bool):=
  (eF a0).bind fun x1=>some (decide (x1>=0))
def jo(a0:(List Int)):Option (Bool):=
  if(decide ((a0.length:Int)>64))=true then(some false)else(if(decide ((a0.length:Int)>0))=true then((pH a0 (IntKind.wrap .i64 ((a0.length:Int)-1))).bind fun x3=>if(x3==0)=true then(some false)else((cq a0).bind fun x5=>some (!x5)))else((cq a0).bind fun x6=>some (!x6)))
def nU(a0:(List Int))(a1:(List Int)):Option (Bool):=
  (jo a0).bind fun x1=>if x1=true then((jo a1).bind fun x3=>some x3)else(some false)
def lC(a0:(List Int))(a1:Int):Option (Int):=
  if(decide (a1>=(a0.length:Int)))=true then(some 0)else((pH a0 a1).bind fun x2=>some x2)
def nat_trim_l8:(List Int)->Option (py ((List Int)) ((List Int))):=fun s1=>
  if(decide ((s1.length:Int)>0))=true then((pH s1 (IntKind.wrap .i64 ((s1.length:Int)-1))).bind fun x5=>if(x5==0)=true then((cutO s1 0 (IntKind.wrap .i64 ((s1.length:Int)-1))).bind fun x7=>some (.next x7))else(some (.stop s1)))else(some (.stop s1))
def nV(a0:(List Int)):Option ((List Int)):=
  (oC (nat_trim_l8) a0).bind fun o9=>some o9
def mK(a1:(List Int))(s2:Int)(x7:Int):(Int×Int×(List Int))->Option (py (Int×Int×(List Int)) (Int×(List Int))):=fun(s8,s9,s10)=>
  if(decide (s9<(IntKind.wrap .i64 ((a1.length:Int)+1))))=true then(if(decide ((IntKind.wrap .i64 (s2+s9))<(s10.length:Int)))=true then((inO s10 (IntKind.wrap .i64 (s2+s9))).bind fun _=>(pH s10 (IntKind.wrap .i64 (s2+s9))).bind fun x18=>(lC a1 s9).bind fun x19=>(vL (IntKind.wrap .i64 (s8+(IntKind.wrap .i64 (x18+(IntKind.wrap .i64 (x7*x19)))))) 1073741824).bind fun x20=>(inO s10 (IntKind.wrap .i64 (s2+s9))).bind fun _=>(sb s10 (IntKind.wrap .i64 (s2+s9)) x20).bind fun x23=>some (.next ((p9 .i64 (IntKind.wrap .i64 (s8+(IntKind.wrap .i64 (x18+(IntKind.wrap .i64 (x7*x19)))))) 30),(IntKind.wrap .i64 (s9+1)),x23)))else(some (.next (s8,(IntKind.wrap .i64 (s9+1)),s10))))else(some (.stop (s2,s10)))
def mN(a0:(List Int))(a1:(List Int)):(Int×(List Int))->Option (py (Int×(List Int)) ((List Int))):=fun(s2,s3)=>
  if(decide (s2<(a0.length:Int)))=true then((pH a0 s2).bind fun x7=>(oC (mK a1 s2 x7) (0,0,s3)).bind fun o25=>some (.next ((IntKind.wrap .i64 (o25.1+1)),o25.2)))else(some (.stop s3))
def iw(a0:(List Int))(a1:(List Int)):Option ((List Int)):=
  (mkO (IntKind.wrap .i64 ((a0.length:Int)+(a1.length:Int))) 0 8).bind fun x1=>(oC (mN a0 a1) (0,x1)).bind fun o27=>(nV o27).bind fun x28=>some x28
def gW(a0:(List Int)):Option ((List Int)×Int):=
  (nV a0).bind fun x1=>if(decide ((x1.length:Int)>64))=true then(some (([]:(List Int)),8))else(some (x1,0))
def nat_Mul(a0:(List Int))(a1:(List Int)):Option ((List Int)×Int):=
  (nU a0 a1).bind fun x1=>if(!x1)=true then(some (([]:(List Int)),1))else((iw a0 a1).bind fun x3=>(gW x3).bind fun x4=>some (x4.1,x4.2))
def c8(a0:Int):Option ((List Int)):=
  (pu (if(IntKind.wrap .i64 (0-a0))>a0 then(IntKind.wrap .i64 (0-a0))else a0)).bind fun x1=>(nat_Mul x1.1 x1.1).bind fun x2=>some x2.1
def nat_Add_l13(a1:(List Int))(a0:(List Int)):(Int×Int×(List Int))->Option (py (Int×Int×(List Int)) ((List Int))):=fun(s3,s4,s5)=>
  if(decide (s4<(IntKind.wrap .i64 ((if(a1.length:Int)>(a0.length:Int)then(a1.length:Int)else(a0.length:Int))+1))))=true then((lC a0 s4).bind fun x9=>(lC a1 s4).bind fun x10=>(vL (IntKind.wrap .i64 (s3+(IntKind.wrap .i64 (x9+x10)))) 1073741824).bind fun x11=>(qq s5 [x11] 8).bind fun x12=>some (.next ((p9 .i64 (IntKind.wrap .i64 (s3+(IntKind.wrap .i64 (x9+x10)))) 30),(IntKind.wrap .i64 (s4+1)),x12)))else(some (.stop s5))
def nat_Add(a0:(List Int))(a1:(List Int)):Option ((List Int)×Int):=
  (nU a0 a1).bind fun x1=>if(!x1)=true then(some (([]:(List Int)),1))else((oC (nat_Add_l13 a1 a0) (0,0,([]:(List Int)))).bind fun o14=>(gW o14).bind fun x15=>some (x15.1,x15.2))
def fH(a0:aT)(a1:Int)(a2:Int):Option ((List Int)):=
  (c8 (IntKind.wrap .i64 ((IntKind.wrap .i64 ((IntKind.wrap .i64 (a0.a0*a2))*a2))-(IntKind.wrap .i64 ((IntKind.wrap .i64 (a0.a2*a1))*a1))))).bind fun x1=>(c8 (IntKind.wrap .i64 ((IntKind.wrap .i64 (a0.a1*a1))*a2))).bind fun x2=>(nat_Add x1 x2).bind fun x3=>some x3.1
def kC(a0:aB)(a1:Int)(a2:Int):Option (aJ×Bool):=
  if(a0.iL==0)=true then((c8 a0.bK.a0).bind fun x2=>(c8 a0.bC.a0).bind fun x3=>some ((aJ.mk x2 x3),true))else(if(a0.iL==1)=true then((fH a0.bK a1 a2).bind fun x5=>(fH a0.bC a1 a2).bind fun x6=>some ((aJ.mk x5 x6),(decide ((x6.length:Int)>0))))else((ef a0.eC).bind fun x7=>(c8 x7).bind fun x8=>(xD .i64 1 a0.dm).bind fun x9=>(c8 x9).bind fun x10=>some ((aJ.mk x8 x10),true)))
def e9(a0:aJ):Option (Bool):=
  (jo a0.bK).bind fun x1=>if x1=true then((jo a0.bC).bind fun x3=>if x3=true then(some (decide ((a0.bC.length:Int)>0)))else(some false))else(some false)
def od(a0:aJ)(a1:aJ):Option (aJ×Int):=
  (e9 a0).bind fun x1=>if(!x1)=true then(some ((aJ.mk [] []),1))else((e9 a1).bind fun x3=>if(!x3)=true then(some ((aJ.mk [] []),1))else((iw a0.bK a1.bK).bind fun x5=>(gW x5).bind fun x6=>(iw a0.bC a1.bC).bind fun x7=>(gW x7).bind fun x8=>if(x6.2 != 0)=true then(some ((aJ.mk [] []),8))else(if(x8.2 != 0)=true then(some ((aJ.mk [] []),8))else(some ((aJ.mk x6.1 x8.1),0)))))
def l9(a0:aP)(a1:Int)(a2:Int):(Int×(List Int)×(List Int))->Option (py (Int×(List Int)×(List Int)) (((List Int)×(List Int))⊕(aJ×Int))):=fun(s7,s8,s9)=>
  if(decide (s7<(a0.bw.length:Int)))=true then((pH a0.bw s7).bind fun x14=>(kC x14 a1 a2).bind fun x15=>if(!x15.2)=true then(some (.stop (.inr ((aJ.mk [] []),11))))else((od (aJ.mk s8 s9) x15.1).bind fun x17=>if(x17.2 != 0)=true then(some (.stop (.inr ((aJ.mk [] []),x17.2))))else(some (.next ((IntKind.wrap .i64 (s7+1)),x17.1.bK,x17.1.bC)))))else(some (.stop (.inl (s8,s9))))
def kA(a0:aP)(a1:Int)(a2:Int):Option (aJ×Int):=
  (hJ a0).bind fun x1=>if(!x1)=true then(some ((aJ.mk [] []),1))else((bZ a1 0 65536).bind fun x3=>if(!x3)=true then(some ((aJ.mk [] []),2))else((bZ a2 1 65536).bind fun x5=>if(!x5)=true then(some ((aJ.mk [] []),2))else((oC (l9 a0 a1 a2) (0,[1],[1])).bind fun o20=>match o20 with| .inl y21=>(some ((aJ.mk y21.1 y21.2),0))| .inr r22=>(some r22))))
def dJ(a0:Int)(j15:Int)(j16:Int):Option (Int):=
  some (IntKind.wrap .i64 ((IntKind.wrap .i64 (256*a0))+j16))
def dK(a0:Int)(j13:Int)(j14:Int):Option (Int):=
  if(decide ((p9 .i64 (IntKind.wrap .i64 (j13*j13)) 30)>=2147483648))=true then((ru .i64 (p9 .i64 (IntKind.wrap .i64 (j13*j13)) 30) 2).bind fun x19=>dJ a0 x19 (IntKind.wrap .i64 ((IntKind.wrap .i64 (j14*2))+1)))else(dJ a0 (p9 .i64 (IntKind.wrap .i64 (j13*j13)) 30) (IntKind.wrap .i64 (j14*2)))
def dL(a0:Int)(j11:Int)(j12:Int):Option (Int):=
  if(decide ((p9 .i64 (IntKind.wrap .i64 (j11*j11)) 30)>=2147483648))=true then((ru .i64 (p9 .i64 (IntKind.wrap .i64 (j11*j11)) 30) 2).bind fun x22=>dK a0 x22 (IntKind.wrap .i64 ((IntKind.wrap .i64 (j12*2))+1)))else(dK a0 (p9 .i64 (IntKind.wrap .i64 (j11*j11)) 30) (IntKind.wrap .i64 (j12*2)))
def dM(a0:Int)(j9:Int)(j10:Int):Option (Int):=
  if(decide ((p9 .i64 (IntKind.wrap .i64 (j9*j9)) 30)>=2147483648))=true then((ru .i64 (p9 .i64 (IntKind.wrap .i64 (j9*j9)) 30) 2).bind fun x25=>dL a0 x25 (IntKind.wrap .i64 ((IntKind.wrap .i64 (j10*2))+1)))else(dL a0 (p9 .i64 (IntKind.wrap .i64 (j9*j9)) 30) (IntKind.wrap .i64 (j10*2)))
def dN(a0:Int)(j7:Int)(j8:Int):Option (Int):=
  if(decide ((p9 .i64 (IntKind.wrap .i64 (j7*j7)) 30)>=2147483648))=true then((ru .i64 (p9 .i64 (IntKind.wrap .i64 (j7*j7)) 30) 2).bind fun x28=>dM a0 x28 (IntKind.wrap .i64 ((IntKind.wrap .i64 (j8*2))+1)))else(dM a0 (p9 .i64 (IntKind.wrap .i64 (j7*j7)) 30) (IntKind.wrap .i64 (j8*2)))
def dO(a0:Int)(j5:Int)(j6:Int):Option (Int):=
  if(decide ((p9 .i64 (IntKind.wrap .i64 (j5*j5)) 30)>=2147483648))=true then((ru .i64 (p9 .i64 (IntKind.wrap .i64 (j5*j5)) 30) 2).bind fun x31=>dN a0 x31 (IntKind.wrap .i64 ((IntKind.wrap .i64 (j6*2))+1)))else(dN a0 (p9 .i64 (IntKind.wrap .i64 (j5*j5)) 30) (IntKind.wrap .i64 (j6*2)))
def dP(a0:Int)(j3:Int)(j4:Int):Option (Int):=
  if(decide ((p9 .i64 (IntKind.wrap .i64 (j3*j3)) 30)>=2147483648))=true then((ru .i64 (p9 .i64 (IntKind.wrap .i64 (j3*j3)) 30) 2).bind fun x34=>dO a0 x34 (IntKind.wrap .i64 ((IntKind.wrap .i64 (j4*2))+1)))else(dO a0 (p9 .i64 (IntKind.wrap .i64 (j3*j3)) 30) (IntKind.wrap .i64 (j4*2)))
def dQ(a0:Int)(j1:Int)(j2:Int):Option (Int):=
  if(decide ((p9 .i64 (IntKind.wrap .i64 (j1*j1)) 30)>=2147483648))=true then((ru .i64 (p9 .i64 (IntKind.wrap .i64 (j1*j1)) 30) 2).bind fun x37=>dP a0 x37 (IntKind.wrap .i64 ((IntKind.wrap .i64 (j2*2))+1)))else(dP a0 (p9 .i64 (IntKind.wrap .i64 (j1*j1)) 30) (IntKind.wrap .i64 (j2*2)))
def fD(a0:Int)(a1:Int):Option (Int):=
  if(decide ((p9 .i64 (IntKind.wrap .i64 (a1*a1)) 30)>=2147483648))=true then((ru .i64 (p9 .i64 (IntKind.wrap .i64 (a1*a1)) 30) 2).bind fun x40=>dQ a0 x40 1)else(dQ a0 (p9 .i64 (IntKind.wrap .i64 (a1*a1)) 30) 0)
def gy(a0:Int):Option (Int×Int):=
  if(decide (a0<1))=true then(some (0,2))else((fu (IntKind.wrap .u64 a0)).bind fun x2=>if(decide ((IntKind.wrap .i64 (x2-1))<=30))=true then((xD .i64 a0 (IntKind.wrap .i64 (30-(IntKind.wrap .i64 (x2-1))))).bind fun x4=>(fD (IntKind.wrap .i64 (x2-1)) x4).bind fun x5=>some (x5,0))else((shrO .i64 a0 (IntKind.wrap .i64 ((IntKind.wrap .i64 (x2-1))-30))).bind fun x6=>(fD (IntKind.wrap .i64 (x2-1)) x6).bind fun x7=>some (x7,0)))
def fC(a0:(List Int)):Option (Int×Int):=
  (jo a0).bind fun x1=>if(!x1)=true then(some (0,1))else(if(decide ((IntKind.wrap .i64 ((a0.length:Int)-1))<0))=true then(some (0,2))else(if((IntKind.wrap .i64 ((a0.length:Int)-1))==0)=true then((pH a0 0).bind fun x5=>(gy x5).bind fun x6=>some (x6.1,x6.2))else((pH a0 (IntKind.wrap .i64 ((a0.length:Int)-1))).bind fun x7=>(pH a0 (IntKind.wrap .i64 ((IntKind.wrap .i64 ((a0.length:Int)-1))-1))).bind fun x8=>(gy (orI .i64 (shlI .i64 x7 30) x8)).bind fun x9=>some ((IntKind.wrap .i64 (x9.1+(IntKind.wrap .i64 (7680*(IntKind.wrap .i64 ((IntKind.wrap .i64 ((a0.length:Int)-1))-1)))))),x9.2))))
def iu(a0:bz)(a1:aP)(a2:Int):Option (Int×Int):=
  (kA a1 a0.bK a0.bC).bind fun x1=>if(x1.2 != 0)=true then(some (0,x1.2))else((fC x1.1.bK).bind fun x3=>if(x3.2 != 0)=true then(some (0,24))else((fC x1.1.bC).bind fun x5=>if(x5.2 != 0)=true then(some (0,x5.2))else((gy a2).bind fun x7=>some ((IntKind.wrap .i64 ((IntKind.wrap .i64 ((IntKind.wrap .i64 (2*x7.1))+x5.1))-x3.1)),x7.2))))
def gQ(a0:Int):Option (Int):=
  some (p9 .i64 a0 1)
def ke(a0:Int):Option (Int×Bool):=
  if(decide (a0>=(-16777216)))=true then(some ((IntKind.wrap .i64 (a0*30103)),(decide (a0<=16777216))))else(some ((IntKind.wrap .i64 (a0*30103)),false))
def gq(a0:Int):Option (Int):=
  (ke a0).bind fun x1=>if(!x1.2)=true then(some 0)else((ru .i64 x1.1 256000).bind fun x3=>(vL x1.1 256000).bind fun x4=>if(decide (x4<0))=true then(some (IntKind.wrap .i64 (x3-1)))else(some x3))
def jI(a0:Int):Option (Int):=
  (gq (IntKind.wrap .i64 (0-a0))).bind fun x1=>some (IntKind.wrap .i64 (0-x1))
def e7(a0:bz)(a1:aP)(a2:Int)(a3:Int)(a4:Int):Option (az×Int):=
  (cB a0).bind fun x1=>if(!x1)=true then(some ((az.mk 0 0),27))else(if(decide (a2<1))=true then(some ((az.mk 0 0),2))else(if(decide (a2>1073741823))=true then(some ((az.mk 0 0),2))else((iu a0 a1 a2).bind fun x5=>if(x5.2 != 0)=true then(some ((az.mk 0 0),x5.2))else((cn a0.bX a3 a4).bind fun x7=>if(x7.2.2 != 0)=true then(some ((az.mk 0 0),x7.2.2))else((gQ (IntKind.wrap .i64 (x5.1-2))).bind fun x9=>(gq x9).bind fun x10=>(gQ (IntKind.wrap .i64 ((IntKind.wrap .i64 (0-x5.1))-6))).bind fun x11=>(jI (IntKind.wrap .i64 (0-x11))).bind fun x12=>some ((az.mk (IntKind.wrap .i64 (x10+x7.1)) (IntKind.wrap .i64 (x12+x7.2.1))),0))))))
def dp(a0:aS)(a2:ah)(a1:aq):(Int×(List az))->Option (py (Int×(List az)) ((List az))):=fun(s1,s2)=>
  if(decide (s1<(a0.cx.length:Int)))=true then((pH a0.cx s1).bind fun x6=>(pH a0.f7 s1).bind fun x7=>(pH a0.db s1).bind fun x8=>(ep a2 x6.aQ).bind fun x9=>(f9 a2 x6.aQ).bind fun x10=>(e7 a1.eB x7.bg x8.a8 x9 x10).bind fun x11=>if(x11.2==0)=true then((qq s2 [x11.1] 16).bind fun x13=>some (.next ((IntKind.wrap .i64 (s1+1)),x13)))else(some (.next ((IntKind.wrap .i64 (s1+1)),s2))))else(some (.stop s2))
def cC(a0:aS)(a1:aq)(a2:ah):Option ((List az)):=
  (oC (dp a0 a2 a1) (0,([]:(List az)))).bind fun o15=>some o15
def ge(a0:az):Option (Bool):=
  some (decide (a0.aI>a0.aC))
def di(a0:(List az)):Int->Option (py (Int) ((Unit)⊕(Int))):=fun s1=>
  if(decide (s1<(a0.length:Int)))=true then((pH a0 s1).bind fun x4=>(ge x4).bind fun x5=>if x5=true then(some (.stop (.inr s1)))else(some (.next (IntKind.wrap .i64 (s1+1)))))else(some (.stop (.inl ())))
def dz(a0:(List az)):Option (Int):=
  (oC (di a0) 0).bind fun o8=>match o8 with| .inl _=>(some (-1))| .inr r10=>(some r10)
def cv(a0:(List az)):Option (Bool):=
  (dz a0).bind fun x1=>some (decide (x1>=0))
def gf(a0:az):Option (Int):=
  some a0.aI
def iM(a0:(List az)):(Int×(List Int))->Option (py (Int×(List Int)) ((List Int))):=fun(s1,s2)=>
  if(decide (s1<(a0.length:Int)))=true then((pH a0 s1).bind fun x6=>(gf x6).bind fun x7=>(qq s2 [x7] 8).bind fun x8=>some (.next ((IntKind.wrap .i64 (s1+1)),x8)))else(some (.stop s2))
def eJ(a0:(List az)):Option (Int):=
  (oC (iM a0) (0,([]:(List Int)))).bind fun o10=>(sh o10).bind fun x11=>(ru .i64 (IntKind.wrap .i64 ((x11.length:Int)-1)) 2).bind fun x12=>(inO x11 x12).bind fun _=>(pH x11 x12).bind fun x15=>some x15
def gg(a0:az):Option (Int):=
  some a0.aC
def iN(a0:(List az)):(Int×(List Int))->Option (py (Int×(List Int)) ((List Int))):=fun(s1,s2)=>
  if(decide (s1<(a0.length:Int)))=true then((pH a0 s1).bind fun x6=>(gg x6).bind fun x7=>(qq s2 [x7] 8).bind fun x8=>some (.next ((IntKind.wrap .i64 (s1+1)),x8)))else(some (.stop s2))
def eK(a0:(List az)):Option (Int):=
  (oC (iN a0) (0,([]:(List Int)))).bind fun o10=>(sh o10).bind fun x11=>(ru .i64 (IntKind.wrap .i64 ((x11.length:Int)-1)) 2).bind fun x12=>(inO x11 x12).bind fun _=>(pH x11 x12).bind fun x15=>some x15
def eZ(a0:(List az)):Option (az×Int):=
  if((a0.length:Int)==0)=true then(some ((az.mk 0 0),24))else((cv a0).bind fun x2=>if x2=true then(some ((az.mk 0 0),1))else((eJ a0).bind fun x4=>(eK a0).bind fun x5=>some ((az.mk x4 x5),0)))
def fM(a0:aq)(a1:ap)(a2:(List ae)):Option (aY×Int):=
  (gu a0 a1 a2).bind fun x1=>if(x1.2 != 0)=true then(some ((aY.mk [] (aj.mk (aa.mk 0 0 0) 0 0 0 (ah.mk (aa.mk 0 0 0) (aa.mk 0 0 0))) (az.mk 0 0) 0),x1.2))else((iv x1.1 a0).bind fun x3=>if(x3.2 != 0)=true then(some ((aY.mk [] (aj.mk (aa.mk 0 0 0) 0 0 0 (ah.mk (aa.mk 0 0 0) (aa.mk 0 0 0))) (az.mk 0 0) 0),x3.2))else((c7 x3.1 a0.bP).bind fun x5=>if(x5.2 != 0)=true then(some ((aY.mk [] (aj.mk (aa.mk 0 0 0) 0 0 0 (ah.mk (aa.mk 0 0 0) (aa.mk 0 0 0))) (az.mk 0 0) 0),x5.2))else((cC x1.1 a0 x5.1.aZ).bind fun x7=>if(decide ((x7.length:Int)>0))=true then((eZ x7).bind fun x9=>if(x9.2 != 0)=true then(some ((aY.mk [] (aj.mk (aa.mk 0 0 0) 0 0 0 (ah.mk (aa.mk 0 0 0) (aa.mk 0 0 0))) (az.mk 0 0) 0),x9.2))else(some ((aY.mk x1.1.db x5.1 x9.1 (x7.length:Int)),0)))else(some ((aY.mk x1.1.db x5.1 (az.mk 0 0) 0),0)))))
def iK(a0:ae)(a1:ae):Option (Int):=
  (bA a0.a7 a1.a7).bind fun x1=>(b9 a0 a1).bind fun x2=>(cA [x1,x2]).bind fun x3=>some x3
def cb(a0:(List ae)):(Int×(List UInt8)×(List UInt8)×(List UInt8)×(List UInt8)×Int×Int×Int×Int×Int)->Option (py (Int×(List UInt8)×(List UInt8)×(List UInt8)×(List UInt8)×Int×Int×Int×Int×Int) ((List UInt8)×(List UInt8)×(List UInt8)×(List UInt8)×Int×Int×Int×Int×Int)):=fun(s3,s4,s5,s6,s7,s8,s9,s10,s11,s12)=>
  if(decide (s3<(a0.length:Int)))=true then((pH a0 s3).bind fun x24=>(iK x24 (ae.mk (aw.mk s4 s5 s6 s7) s8 s9 s10 s11 s12)).bind fun x25=>if(decide (x25<0))=true then((pH a0 s3).bind fun x27=>some (.next ((IntKind.wrap .i64 (s3+1)),x27.aA.bd,x27.aA.aQ,x27.aA.av,x27.aA.bh,x27.a7,x27.aM,x27.bv,x27.a8,x27.bp)))else(some (.next ((IntKind.wrap .i64 (s3+1)),s4,s5,s6,s7,s8,s9,s10,s11,s12))))else(some (.stop (s4,s5,s6,s7,s8,s9,s10,s11,s12)))
def ej(a0:(List ae)):Option (ae):=
  if(decide ((a0.length:Int)<1))=true then(none)else((pH a0 0).bind fun x2=>(oC (cb a0) (1,x2.aA.bd,x2.aA.aQ,x2.aA.av,x2.aA.bh,x2.a7,x2.aM,x2.bv,x2.a8,x2.bp)).bind fun o29=>some (ae.mk (aw.mk o29.1 o29.2.1 o29.2.2.1 o29.2.2.2.1) o29.2.2.2.2.1 o29.2.2.2.2.2.1 o29.2.2.2.2.2.2.1 o29.2.2.2.2.2.2.2.1 o29.2.2.2.2.2.2.2.2))
def mW(a0:(List ae)):Option (ae):=
  if((a0.length:Int)==0)=true then(some (ae.mk (aw.mk [] [] [] []) 0 0 0 0 0))else((ej a0).bind fun x2=>some x2)
def iO(a0:eo)(a1:aD)(a2:aD):Option (Int):=
  (iK a1.bV a2.bV).bind fun x1=>some x1
def fk(a1:Int)(s1:Int):(Int×(List aD))->Option (py (Int×(List aD)) (Int×(List aD))):=fun(s5,s6)=>
  if(decide (s5>a1))=true then((inO s6 s5).bind fun _=>(pH s6 s5).bind fun x13=>(inO s6 (IntKind.wrap .i64 (s5-1))).bind fun _=>(pH s6 (IntKind.wrap .i64 (s5-1))).bind fun x16=>(iO (eo.mk ) x13 x16).bind fun x17=>if(decide (x17<0))=true then((inO s6 (IntKind.wrap .i64 (s5-1))).bind fun _=>(pH s6 (IntKind.wrap .i64 (s5-1))).bind fun x21=>(inO s6 s5).bind fun _=>(pH s6 s5).bind fun x24=>(inO s6 s5).bind fun _=>(sb s6 s5 x21).bind fun x27=>(inO x27 (IntKind.wrap .i64 (s5-1))).bind fun _=>(sb x27 (IntKind.wrap .i64 (s5-1)) x24).bind fun x30=>some (.next ((IntKind.wrap .i64 (s5-1)),x30)))else(some (.stop (s1,s6))))else(some (.stop (s1,s6)))
def fm(a2:Int)(a1:Int):(Int×(List aD))->Option (py (Int×(List aD)) ((List aD))):=fun(s1,s2)=>
  if(decide (s1<a2))=true then((oC (fk a1 s1) (s1,s2)).bind fun o32=>some (.next ((IntKind.wrap .i64 (o32.1+1)),o32.2)))else((some s2).bind fun z33=>some (.stop z33))
def ct(a1:Int)(a2:Int)(d0:(List aD)):Option ((List aD)):=
  (oC (fm a2 a1) ((IntKind.wrap .i64 (a1+1)),d0)).bind fun o35=>some o35
def bS(a2:Int)(a1:Int)(d0:(List aD))(a3:Int):Unit->Option (py (Unit) ((List aD))):=fun _=>
  if(decide ((IntKind.wrap .i64 (a2-a1))<=12))=true then((ct a1 a2 d0).bind fun x3=>some (.stop x3))else(if(a3==0)=true then(none)else(none))
def d9:Nat->Int->Int->Int->(List aD)->Option ((List aD))
  |0,_,_,_,_=>none
  |nfu+1,a1,a2,a3,d0=>
  (oC (bS a2 a1 d0 a3) ()).bind fun o6=>some o6
def cp(a1:Int)(a2:Int)(a3:Int)(d0:(List aD)):Option ((List aD)):=recO fun n=>d9 n a1 a2 a3 d0
def cS(d0:(List aD)):Option ((List aD)):=
  (fu (IntKind.wrap .u64 (d0.length:Int))).bind fun x1=>(cp 0 (d0.length:Int) x1 d0).bind fun x2=>some x2
def jA(x10:aV)(x1:(List ae)×(List al)×Int)(s5:Int)(s6:(List aD)):(Int×(List ae))->Option (py (Int×(List ae)) (Int×(List aD)×(List ae))):=fun(s11,s12)=>
  if(decide (s11<(x10.cj.length:Int)))=true then((pH x10.cj s11).bind fun x18=>(pH x1.1 x18).bind fun x19=>(qq s12 [x19] 104).bind fun x20=>some (.next ((IntKind.wrap .i64 (s11+1)),x20)))else(some (.stop (s5,s6,s12)))
def jB(x3:(List aV)×(List Int)×Int)(x1:(List ae)×(List al)×Int)(a0:aq)(a1:ap):(Int×(List aD))->Option (py (Int×(List aD)) (((List aD))⊕((List aD)×(List ae)×Int))):=fun(s5,s6)=>
  if(decide (s5<(x3.1.length:Int)))=true then((pH x3.1 s5).bind fun x10=>(oC (jA x10 x1 s5 s6) (0,([]:(List ae)))).bind fun o22=>(fM a0 a1 o22.2.2).bind fun x23=>if(x23.2 != 0)=true then(some (.stop (.inr (([]:(List aD)),([]:(List ae)),x23.2))))else((mW x23.1.f5).bind fun x25=>(qq o22.2.1 [(aD.mk x25 x23.1)] 248).bind fun x26=>some (.next ((IntKind.wrap .i64 (o22.1+1)),x26))))else(some (.stop (.inl s6)))
def jC(x3:(List aV)×(List Int)×Int)(x1:(List ae)×(List al)×Int):(Int×(List ae))->Option (py (Int×(List ae)) ((List ae))):=fun(s32,s33)=>
  if(decide (s32<(x3.2.1.length:Int)))=true then((pH x3.2.1 s32).bind fun x37=>(pH x1.1 x37).bind fun x38=>(qq s33 [x38] 104).bind fun x39=>some (.next ((IntKind.wrap .i64 (s32+1)),x39)))else(some (.stop s33))
def jY(a0:aq)(a1:ap)(a2:(List ae)):Option ((List aD)×(List ae)×Int):=
  (lk a0 a1 a2).bind fun x1=>if(x1.2.2 != 0)=true then(some (([]:(List aD)),([]:(List ae)),x1.2.2))else((fo a0.ai x1.2.1).bind fun x3=>if(x3.2.2 != 0)=true then(some (([]:(List aD)),([]:(List ae)),x3.2.2))else((oC (jB x3 x1 a0 a1) (0,([]:(List aD)))).bind fun o28=>match o28 with| .inl y29=>((cS y29).bind fun x31=>(oC (jC x3 x1) (0,([]:(List ae)))).bind fun o41=>some (x31,o41,0))| .inr r30=>(some r30)))
def jg(a0:(List ae))(a1:(List ae)):Int->Option (py (Int) ((Unit)⊕(Bool))):=fun s2=>
  if(decide (s2<(a0.length:Int)))=true then((pH a0 s2).bind fun x5=>(pH a1 s2).bind fun x6=>if(!(((x5.aA.bd==x6.aA.bd)&&((x5.aA.aQ==x6.aA.aQ)&&((x5.aA.av==x6.aA.av)&&((x5.aA.bh==x6.aA.bh)&&true))))&&((x5.a7==x6.a7)&&((x5.aM==x6.aM)&&((x5.bv==x6.bv)&&((x5.a8==x6.a8)&&((x5.bp==x6.bp)&&true)))))))=true then(some (.stop (.inr false)))else(some (.next (IntKind.wrap .i64 (s2+1)))))else(some (.stop (.inl ())))
def eS(a0:(List ae))(a1:(List ae)):Option (Bool):=
  if((a0.length:Int) != (a1.length:Int))=true then(some false)else((oC (jg a0 a1) 0).bind fun o9=>match o9 with| .inl _=>(some true)| .inr r11=>(some r11))
def nf(a0:aY)(a1:aY):Option (Bool):=
  (eS a0.f5 a1.f5).bind fun x1=>if x1=true then(if(((a0.av.aU.fX==a1.av.aU.fX)&&((a0.av.aU.fY==a1.av.aU.fY)&&((a0.av.aU.fZ==a1.av.aU.fZ)&&true)))&&((a0.av.a7==a1.av.a7)&&((a0.av.bi==a1.av.bi)&&((a0.av.eN==a1.av.eN)&&((((a0.av.aZ.aI.fX==a1.av.aZ.aI.fX)&&((a0.av.aZ.aI.fY==a1.av.aZ.aI.fY)&&((a0.av.aZ.aI.fZ==a1.av.aZ.aI.fZ)&&true)))&&(((a0.av.aZ.aC.fX==a1.av.aZ.aC.fX)&&((a0.av.aZ.aC.fY==a1.av.aZ.aC.fY)&&((a0.av.aZ.aC.fZ==a1.av.aZ.aC.fZ)&&true)))&&true))&&true)))))=true then(if((a0.bO.aI==a1.bO.aI)&&((a0.bO.aC==a1.bO.aC)&&true))=true then(some (a0.jc==a1.jc))else(some false))else(some false))else(some false)
def hC(a0:(List aD))(a1:(List aD)):Int->Option (py (Int) ((Unit)⊕(Bool))):=fun s2=>
  if(decide (s2<(a0.length:Int)))=true then((pH a0 s2).bind fun x5=>(pH a1 s2).bind fun x6=>if(!(((x5.bV.aA.bd==x6.bV.aA.bd)&&((x5.bV.aA.aQ==x6.bV.aA.aQ)&&((x5.bV.aA.av==x6.bV.aA.av)&&((x5.bV.aA.bh==x6.bV.aA.bh)&&true))))&&((x5.bV.a7==x6.bV.a7)&&((x5.bV.aM==x6.bV.aM)&&((x5.bV.bv==x6.bV.bv)&&((x5.bV.a8==x6.bV.a8)&&((x5.bV.bp==x6.bV.bp)&&true)))))))=true then(some (.stop (.inr false)))else((pH a0 s2).bind fun x8=>(pH a1 s2).bind fun x9=>(nf x8.aL x9.aL).bind fun x10=>if(!x10)=true then(some (.stop (.inr false)))else(some (.next (IntKind.wrap .i64 (s2+1))))))else(some (.stop (.inl ())))
def lQ(a0:(List aD))(a1:(List aD)):Option (Bool):=
  if((a0.length:Int) != (a1.length:Int))=true then(some false)else((oC (hC a0 a1) 0).bind fun o13=>match o13 with| .inl _=>(some true)| .inr r15=>(some r15))
def cw(x11:(List ae))(x3:ap×ac)(x5:ap×ac)(s8:Int):(Bool×Int)->Option (py (Bool×Int) (Int×Bool×Int)):=fun(s12,s13)=>
  if(decide (s13<(x11.length:Int)))=true then((pH x11 s13).bind fun x19=>if s12=true then(some (.next (true,(IntKind.wrap .i64 (s13+1)))))else((fU x3.1 x5.1 x19).bind fun x21=>some (.next (x21,(IntKind.wrap .i64 (s13+1))))))else(some (.stop (s8,s12,s8)))
def c6(x6:(List (List ae))×Int)(x3:ap×ac)(x5:ap×ac)(x2:aq×ac):Int->Option (py (Int) ((Unit)⊕(Bool))):=fun s8=>
  if(decide (s8<(x6.1.length:Int)))=true then((pH x6.1 s8).bind fun x11=>(oC (cw x11 x3 x5 s8) (false,0)).bind fun o23=>if o23.2.1=true then(some (.next (IntKind.wrap .i64 (o23.2.2+1))))else((pH x6.1 o23.1).bind fun x25=>(jY x2.1 x3.1 x25).bind fun x26=>(pH x6.1 o23.1).bind fun x27=>(jY x2.1 x5.1 x27).bind fun x28=>if(x26.2.2 != x28.2.2)=true then(some (.stop (.inr false)))else((lQ x26.1 x28.1).bind fun x30=>if(!x30)=true then(some (.stop (.inr false)))else((eS x26.2.1 x28.2.1).bind fun x32=>if(!x32)=true then(some (.stop (.inr false)))else(some (.next (IntKind.wrap .i64 (o23.2.2+1))))))))else(some (.stop (.inl ())))
def gO(a0:(List Int)):Option (Bool):=
  (pp a0).bind fun x1=>(ig 3 x1).bind fun x2=>(ly 6 x2.2).bind fun x3=>(mw x2.1 x3.1 8 x3.2).bind fun x4=>(kr x3.1 x4.2).bind fun x5=>(fT x2.1.ai.dn x4.1).bind fun x6=>if(x6.2 != 0)=true then(some false)else((oC (c6 x6 x3 x5 x2) 0).bind fun o35=>match o35 with| .inl _=>((closed47 ).bind fun x38=>some x38)| .inr r37=>(some r37))
end
end Go.Dw.Ed
