
import Derived.Test.YtmmgjlgoggielaaGreatDwNest
import Derived.Test.YtmmgjlgoggielaaGreatDwSortIP
import Derived.Test.YtmmgjlgoggielaaGreatDwSortP

namespace Go.Dw.Em
open Go.Dw
noncomputable section
structure ac where
  fL:(List Int)
  fAt:Int
  deriving DecidableEq
def ac.pd(x:ac):PD:= .agg [.lst (x.fL.map (PD.int .i64)),.int .i64 x.fAt]
structure aa where
  fX:Int
  fY:Int
  fZ:Int
  deriving DecidableEq
def aa.pd(x:aa):PD:= .agg [.int .i64 x.fX,.int .i64 x.fY,.int .i64 x.fZ]
structure ag where
  aI:aa
  aC:aa
  deriving DecidableEq
def ag.pd(x:ag):PD:= .agg [.int .i64 x.aI.fX,.int .i64 x.aI.fY,.int .i64 x.aI.fZ,.int .i64 x.aC.fX,.int .i64 x.aC.fY,.int .i64 x.aC.fZ]
structure aA where
  aZ:Int
  aI:(List Int)
  aC:(List Int)
  deriving DecidableEq
def aA.pd(x:aA):PD:= .agg [.int .i64 x.aZ,.lst (x.aI.map (PD.int .i64)),.lst (x.aC.map (PD.int .i64))]
structure aG where
  aM:ag
  aW:aA
  cG:Int
  bf:Int
  dC:Int
  d9:Int
  co:Int
  deriving DecidableEq
def aG.pd(x:aG):PD:= .agg [.int .i64 x.aM.aI.fX,.int .i64 x.aM.aI.fY,.int .i64 x.aM.aI.fZ,.int .i64 x.aM.aC.fX,.int .i64 x.aM.aC.fY,.int .i64 x.aM.aC.fZ,.int .i64 x.aW.aZ,.lst (x.aW.aI.map (PD.int .i64)),.lst (x.aW.aC.map (PD.int .i64)),.int .i64 x.cG,.int .i64 x.bf,.int .i64 x.dC,.int .i64 x.d9,.int .i64 x.co]
structure bo where
  bC:aA
  bd:Int
  aY:Int
  deriving DecidableEq
def bo.pd(x:bo):PD:= .agg [.int .i64 x.bC.aZ,.lst (x.bC.aI.map (PD.int .i64)),.lst (x.bC.aC.map (PD.int .i64)),.int .i64 x.bd,.int .i64 x.aY]
structure ar where
  ae:aG
  cm:bo
  bf:Int
  deriving DecidableEq
def ar.pd(x:ar):PD:= .agg [.int .i64 x.ae.aM.aI.fX,.int .i64 x.ae.aM.aI.fY,.int .i64 x.ae.aM.aI.fZ,.int .i64 x.ae.aM.aC.fX,.int .i64 x.ae.aM.aC.fY,.int .i64 x.ae.aM.aC.fZ,.int .i64 x.ae.aW.aZ,.lst (x.ae.aW.aI.map (PD.int .i64)),.lst (x.ae.aW.aC.map (PD.int .i64)),.int .i64 x.ae.cG,.int .i64 x.ae.bf,.int .i64 x.ae.dC,.int .i64 x.ae.d9,.int .i64 x.ae.co,.int .i64 x.cm.bC.aZ,.lst (x.cm.bC.aI.map (PD.int .i64)),.lst (x.cm.bC.aC.map (PD.int .i64)),.int .i64 x.cm.bd,.int .i64 x.cm.aY,.int .i64 x.bf]
structure au where
  ba:(List UInt8)
  aN:(List UInt8)
  av:(List UInt8)
  bc:(List UInt8)
  deriving DecidableEq
def au.pd(x:au):PD:= .agg [.str x.ba,.str x.aN,.str x.av,.str x.bc]
structure bi where
  bd:Int
  aY:Int
  deriving DecidableEq
def bi.pd(x:bi):PD:= .agg [.int .i64 x.bd,.int .i64 x.aY]
structure aS where
  a0:Int
  a1:Int
  a2:Int
  deriving DecidableEq
def aS.pd(x:aS):PD:= .agg [.int .i64 x.a0,.int .i64 x.a1,.int .i64 x.a2]
structure aD where
  b8:Int
  bd:aS
  aY:aS
  bN:(List Int)
  bt:Int
  bR:Int
  deriving DecidableEq
def aD.pd(x:aD):PD:= .agg [.int .i64 x.b8,.int .i64 x.bd.a0,.int .i64 x.bd.a1,.int .i64 x.bd.a2,.int .i64 x.aY.a0,.int .i64 x.aY.a1,.int .i64 x.aY.a2,.lst (x.bN.map (PD.int .i64)),.int .i64 x.bt,.int .i64 x.bR]
structure aL where
  aV:(List aD)
  deriving DecidableEq
def aL.pd(x:aL):PD:= .agg [.lst (x.aV.map aD.pd)]
structure ap where
  bj:Int
  fTo:Int
  di:bi
  aP:aa
  bu:aL
  deriving DecidableEq
def ap.pd(x:ap):PD:= .agg [.int .i64 x.bj,.int .i64 x.fTo,.int .i64 x.di.bd,.int .i64 x.di.aY,.int .i64 x.aP.fX,.int .i64 x.aP.fY,.int .i64 x.aP.fZ,.lst (x.bu.aV.map aD.pd)]
structure aq where
  aw:au
  aT:(List ap)
  deriving DecidableEq
def aq.pd(x:aq):PD:= .agg [.str x.aw.ba,.str x.aw.aN,.str x.aw.av,.str x.aw.bc,.lst (x.aT.map ap.pd)]
structure al where
  aJ:(List aq)
  deriving DecidableEq
def al.pd(x:al):PD:= .agg [.lst (x.aJ.map aq.pd)]
structure ai where
  aw:au
  bn:Int
  aQ:Int
  bw:Int
  bg:Int
  bz:Int
  deriving DecidableEq
def ai.pd(x:ai):PD:= .agg [.str x.aw.ba,.str x.aw.aN,.str x.aw.av,.str x.aw.bc,.int .i64 x.bn,.int .i64 x.aQ,.int .i64 x.bw,.int .i64 x.bg,.int .i64 x.bz]
structure aj where
  aN:aa
  aQ:Int
  bw:Int
  bJ:Int
  deriving DecidableEq
def aj.pd(x:aj):PD:= .agg [.int .i64 x.aN.fX,.int .i64 x.aN.fY,.int .i64 x.aN.fZ,.int .i64 x.aQ,.int .i64 x.bw,.int .i64 x.bJ]
structure A4_Int where
  a0:Int
  a1:Int
  a2:Int
  a3:Int
  deriving DecidableEq
def A4_Int.pd(x:A4_Int):PD:= .agg [.int .i64 x.a0,.int .i64 x.a1,.int .i64 x.a2,.int .i64 x.a3]
structure ak where
  aX:aa
  bn:Int
  bq:Int
  fq:Int
  bh:ag
  deriving DecidableEq
def ak.pd(x:ak):PD:= .agg [.int .i64 x.aX.fX,.int .i64 x.aX.fY,.int .i64 x.aX.fZ,.int .i64 x.bn,.int .i64 x.bq,.int .i64 x.fq,.int .i64 x.bh.aI.fX,.int .i64 x.bh.aI.fY,.int .i64 x.bh.aI.fZ,.int .i64 x.bh.aC.fX,.int .i64 x.bh.aC.fY,.int .i64 x.bh.aC.fZ]
structure aB where
  aI:Int
  aC:Int
  deriving DecidableEq
def aB.pd(x:aB):PD:= .agg [.int .i64 x.aI,.int .i64 x.aC]
structure bv where
  ec:(List ai)
  av:ak
  bQ:aB
  lf:Int
  deriving DecidableEq
def bv.pd(x:bv):PD:= .agg [.lst (x.ec.map ai.pd),.int .i64 x.av.aX.fX,.int .i64 x.av.aX.fY,.int .i64 x.av.aX.fZ,.int .i64 x.av.bn,.int .i64 x.av.bq,.int .i64 x.av.fq,.int .i64 x.av.bh.aI.fX,.int .i64 x.av.bh.aI.fY,.int .i64 x.av.bh.aI.fZ,.int .i64 x.av.bh.aC.fX,.int .i64 x.av.bh.aC.fY,.int .i64 x.av.bh.aC.fZ,.int .i64 x.bQ.aI,.int .i64 x.bQ.aC,.int .i64 x.lf]
structure aH where
  cb:ai
  aF:bv
  deriving DecidableEq
def aH.pd(x:aH):PD:= .agg [.str x.cb.aw.ba,.str x.cb.aw.aN,.str x.cb.aw.av,.str x.cb.aw.bc,.int .i64 x.cb.bn,.int .i64 x.cb.aQ,.int .i64 x.cb.bw,.int .i64 x.cb.bg,.int .i64 x.cb.bz,.lst (x.aF.ec.map ai.pd),.int .i64 x.aF.av.aX.fX,.int .i64 x.aF.av.aX.fY,.int .i64 x.aF.av.aX.fZ,.int .i64 x.aF.av.bn,.int .i64 x.aF.av.bq,.int .i64 x.aF.av.fq,.int .i64 x.aF.av.bh.aI.fX,.int .i64 x.aF.av.bh.aI.fY,.int .i64 x.aF.av.bh.aI.fZ,.int .i64 x.aF.av.bh.aC.fX,.int .i64 x.aF.av.bh.aC.fY,.int .i64 x.aF.av.bh.aC.fZ,.int .i64 x.aF.bQ.aI,.int .i64 x.aF.bQ.aC,.int .i64 x.aF.lf]
structure aK where
  bj:Int
  fTo:Int
  deriving DecidableEq
def aK.pd(x:aK):PD:= .agg [.int .i64 x.bj,.int .i64 x.fTo]
structure a8 where
  cz:(List Int)
  aX:aa
  bn:Int
  deriving DecidableEq
def a8.pd(x:a8):PD:= .agg [.lst (x.cz.map (PD.int .i64)),.int .i64 x.aX.fX,.int .i64 x.aX.fY,.int .i64 x.aX.fZ,.int .i64 x.bn]
structure bp where
  n8:(List Int)
  fback:(List Int)
  deriving DecidableEq
def bp.pd(x:bp):PD:= .agg [.lst (x.n8.map (PD.int .i64)),.lst (x.fback.map (PD.int .i64))]
structure ah where
  aM:ag
  aW:aA
  a7:(List aj)
  cG:Int
  deriving DecidableEq
def ah.pd(x:ah):PD:= .agg [.int .i64 x.aM.aI.fX,.int .i64 x.aM.aI.fY,.int .i64 x.aM.aI.fZ,.int .i64 x.aM.aC.fX,.int .i64 x.aM.aC.fY,.int .i64 x.aM.aC.fZ,.int .i64 x.aW.aZ,.lst (x.aW.aI.map (PD.int .i64)),.lst (x.aW.aC.map (PD.int .i64)),.lst (x.a7.map aj.pd),.int .i64 x.cG]
structure am where
  jV:ag
  cu:Int
  gE:Int
  deriving DecidableEq
def am.pd(x:am):PD:= .agg [.int .i64 x.jV.aI.fX,.int .i64 x.jV.aI.fY,.int .i64 x.jV.aI.fZ,.int .i64 x.jV.aC.fX,.int .i64 x.jV.aC.fY,.int .i64 x.jV.aC.fZ,.int .i64 x.cu,.int .i64 x.gE]
structure bO where
  fp:ah
  kF:(List am)
  gE:Int
  ftaken:Int
  ffound:Bool
  bS:ak
  deriving DecidableEq
def bO.pd(x:bO):PD:= .agg [.int .i64 x.fp.aM.aI.fX,.int .i64 x.fp.aM.aI.fY,.int .i64 x.fp.aM.aI.fZ,.int .i64 x.fp.aM.aC.fX,.int .i64 x.fp.aM.aC.fY,.int .i64 x.fp.aM.aC.fZ,.int .i64 x.fp.aW.aZ,.lst (x.fp.aW.aI.map (PD.int .i64)),.lst (x.fp.aW.aC.map (PD.int .i64)),.lst (x.fp.a7.map aj.pd),.int .i64 x.fp.cG,.lst (x.kF.map am.pd),.int .i64 x.gE,.int .i64 x.ftaken,.bool x.ffound,.int .i64 x.bS.aX.fX,.int .i64 x.bS.aX.fY,.int .i64 x.bS.aX.fZ,.int .i64 x.bS.bn,.int .i64 x.bS.bq,.int .i64 x.bS.fq,.int .i64 x.bS.bh.aI.fX,.int .i64 x.bS.bh.aI.fY,.int .i64 x.bS.bh.aI.fZ,.int .i64 x.bS.bh.aC.fX,.int .i64 x.bS.bh.aC.fY,.int .i64 x.bS.bh.aC.fZ]
structure aU where
  dv:(List ai)
  dj:(List aj)
  jG:(List ap)
  deriving DecidableEq
def aU.pd(x:aU):PD:= .agg [.lst (x.dv.map ai.pd),.lst (x.dj.map aj.pd),.lst (x.jG.map ap.pd)]
structure aO where
  bd:(List Int)
  aY:(List Int)
  deriving DecidableEq
def aO.pd(x:aO):PD:= .agg [.lst (x.bd.map (PD.int .i64)),.lst (x.aY.map (PD.int .i64))]
structure eY where
  deriving DecidableEq
def eY.pd(x:eY):PD:= .agg []
def kH(a0:(List Int)):Option (ac):=
  (yW a0 0 (if 2000<(a0.length:Int)then 2000 else(a0.length:Int))).bind fun x1=>some (ac.mk x1 0)
def Src_Raw(d0:ac):Option (Int×ac):=
  if(decide (d0.fAt>=(d0.fL.length:Int)))=true then(some (0,d0))else((eV d0.fL (IntKind.wrap .i64 ((IntKind.wrap .i64 (d0.fAt+1))-1))).bind fun x2=>some (x2,(ac.mk d0.fL (IntKind.wrap .i64 (d0.fAt+1)))))
def oc(a0:Int)(a1:Int):Option (Int):=
  if(decide (a1<1))=true then(some 0)else((vN a0 a1).bind fun x2=>if(decide (x2<0))=true then(some (IntKind.wrap .i64 (x2+a1)))else(some x2))
def dx(a1:Int)(d0:ac):Option (Int×ac):=
  (Src_Raw d0).bind fun x1=>(oc x1.1 a1).bind fun x2=>some (x2,x1.2)
def kc(a1:Int)(d0:ac):Option (aa×ac):=
  (dx (IntKind.wrap .i64 ((IntKind.wrap .i64 (2*a1))+1)) d0).bind fun x1=>(dx (IntKind.wrap .i64 ((IntKind.wrap .i64 (2*a1))+1)) x1.2).bind fun x2=>(dx (IntKind.wrap .i64 (a1+1)) x2.2).bind fun x3=>some ((aa.mk (IntKind.wrap .i64 (x1.1-a1)) (IntKind.wrap .i64 (x2.1-a1)) x3.1),x3.2)
def oq(a1:Int)(a2:Int)(d0:ac):Option (ag×ac):=
  (kc a1 d0).bind fun x1=>(dx (IntKind.wrap .i64 (a2+1)) x1.2).bind fun x2=>(dx (IntKind.wrap .i64 (a2+1)) x2.2).bind fun x3=>(dx (IntKind.wrap .i64 (a2+1)) x3.2).bind fun x4=>some ((ag.mk x1.1 (aa.mk (IntKind.wrap .i64 (x1.1.fX+x2.1)) (IntKind.wrap .i64 (x1.1.fY+x3.1)) (IntKind.wrap .i64 (x1.1.fZ+x4.1)))),x4.2)
def dI(a1:(List Int))(d0:ac):Option (Int×ac):=
  (dx (a1.length:Int) d0).bind fun x1=>(eV a1 x1.1).bind fun x2=>some (x2,x1.2)
def jv(x1:Int×ac):(Int×Int×Int×(List Int)×Int×(List Int)×(List Int))->Option (fR (Int×Int×Int×(List Int)×Int×(List Int)×(List Int)) ((List Int)×Int×(List Int)×(List Int))):=fun(s3,s4,s5,s6,s7,s8,s9)=>
  (su .i64 400 x1.1).bind fun x15=>(dx 3 (ac.mk s6 s7)).bind fun x16=>if(decide (s5<=(IntKind.wrap .i64 (x15+x16.1))))=true then((pS s8 [s3] 8).bind fun x18=>(pS s9 [s4] 8).bind fun x19=>(dI [0,10,20,35] x16.2).bind fun x20=>(su .i64 x1.1 4).bind fun x21=>(dI [0,0,5,30] x20.2).bind fun x22=>some (.next ((IntKind.wrap .i64 (s3+(IntKind.wrap .i64 (x20.1+x21)))),(IntKind.wrap .i64 ((if(IntKind.wrap .i64 (s3+(IntKind.wrap .i64 (x20.1+x21))))>s4 then(IntKind.wrap .i64 (s3+(IntKind.wrap .i64 (x20.1+x21))))else s4)+x22.1)),(IntKind.wrap .i64 (s5+1)),x22.2.fL,x22.2.fAt,x18,x19)))else(some (.stop (x16.2.fL,x16.2.fAt,s8,s9)))
def jb(d0:ac):Option (aA×ac):=
  (dI [20,25,40,100] d0).bind fun x1=>(dx 3 x1.2).bind fun x2=>(dW (jv x1) (0,x2.1,0,x2.2.fL,x2.2.fAt,([]:(List Int)),([]:(List Int)))).bind fun o24=>some ((aA.mk x1.1 o24.2.2.1 o24.2.2.2),(ac.mk o24.1 o24.2.1))
def dR(a1:Int)(d0:ac):Option (aG×ac):=
  (oq 20 a1 d0).bind fun x1=>(jb x1.2).bind fun x2=>(dI [10,50,200] x2.2).bind fun x3=>(dI [0,0,10,40] x3.2).bind fun x4=>(dI [0,50,200,400] x4.2).bind fun x5=>(dI [0,5,20] x5.2).bind fun x6=>(dx 2 x6.2).bind fun x7=>some ((aG.mk x1.1 x2.1 x3.1 x4.1 x5.1 x6.1 (IntKind.wrap .i64 (2+x7.1))),x7.2)
def lF(x1:aA×ac):(Int×(List Int)×(List Int))->Option (fR (Int×(List Int)×(List Int)) ((List Int)×(List Int))):=fun(s4,s5,s6)=>
  if(decide (s4<(x1.1.aI.length:Int)))=true then((inO s5 s4).bind fun _=>(eV s5 s4).bind fun x13=>(su .i64 x13 3).bind fun x14=>(inO s6 s4).bind fun _=>(eV s6 s4).bind fun x17=>(su .i64 x17 3).bind fun x18=>(inO s5 s4).bind fun _=>(tS s5 s4 x14).bind fun x21=>(inO s6 s4).bind fun _=>(tS s6 s4 x18).bind fun x24=>some (.next ((IntKind.wrap .i64 (s4+1)),x21,x24)))else(some (.stop (s5,s6)))
def kd(d0:ac):Option (bo×ac):=
  (jb d0).bind fun x1=>(dx 20 x1.2).bind fun x2=>(dx 9 x2.2).bind fun x3=>(dW (lF x1) (0,x1.1.aI,x1.1.aC)).bind fun o26=>some ((bo.mk (aA.mk x1.1.aZ o26.1 o26.2) x2.1 (IntKind.wrap .i64 (1+x3.1))),x3.2)
def dJ(a1:Int)(d0:ac):Option (ar×ac):=
  (dR a1 d0).bind fun x1=>(kd x1.2).bind fun x2=>(dI [0,0,10,40] x2.2).bind fun x3=>some ((ar.mk x1.1 x2.1 x3.1),x3.2)
def ja:(Int×(List Int)×Int×(List aD))->Option (fR (Int×(List Int)×Int×(List aD)) ((List Int)×Int×(List aD))):=fun(s2,s3,s4,s5)=>
  if(decide (s2>0))=true then((dx 3 (ac.mk s3 s4)).bind fun x11=>if(x11.1==0)=true then((dI [0,1,9,99,1048575] x11.2).bind fun x13=>(dI [0,0,2,9,999] x13.2).bind fun x14=>(pS s5 [(aD.mk x11.1 (aS.mk (IntKind.wrap .i64 (1+x13.1)) 0 0) (aS.mk (IntKind.wrap .i64 (1+x14.1)) 0 0) [] 0 0)] 96).bind fun x15=>some (.next ((IntKind.wrap .i64 (s2-1)),x14.2.fL,x14.2.fAt,x15)))else(if(x11.1==1)=true then((dx 5 x11.2).bind fun x17=>(dx 7 x17.2).bind fun x18=>(dx 3 x18.2).bind fun x19=>(dx 5 x19.2).bind fun x20=>(dx 7 x20.2).bind fun x21=>(dx 3 x21.2).bind fun x22=>(pS s5 [(aD.mk x11.1 (aS.mk x17.1 (IntKind.wrap .i64 (x18.1-3)) (IntKind.wrap .i64 (x19.1-1))) (aS.mk (IntKind.wrap .i64 (1+x20.1)) x21.1 x22.1) [] 0 0)] 96).bind fun x23=>some (.next ((IntKind.wrap .i64 (s2-1)),x22.2.fL,x22.2.fAt,x23)))else((dx 3 x11.2).bind fun x24=>(dx 4 x24.2).bind fun x25=>(pS s5 [(aD.mk x11.1 (aS.mk 0 0 0) (aS.mk 0 0 0) [(IntKind.wrap .i64 (1+x24.1)),2,1] 1 x25.1)] 96).bind fun x26=>some (.next ((IntKind.wrap .i64 (s2-1)),x25.2.fL,x25.2.fAt,x26)))))else(some (.stop (s3,s4,s5)))
def eR(d0:ac):Option (aL×ac):=
  (dx 4 d0).bind fun x1=>(dW (ja) (x1.1,x1.2.fL,x1.2.fAt,([]:(List aD)))).bind fun o28=>some ((aL.mk o28.2.2),(ac.mk o28.1 o28.2.1))
def dm(a0:Int):Option (au):=
  (oc a0 6).bind fun x1=>(eV [[83,49],[83,50],[83,51],[83,52],[83,53],[83,54]] x1).bind fun x2=>some (au.mk [65,66] x2 [48,48] [66,72,90])
def hX(a1:Int):(Int×(List Int)×Int×(List aq))->Option (fR (Int×(List Int)×Int×(List aq)) ((List Int)×Int×(List aq))):=fun(s1,s2,s3,s4)=>
  if(decide (s1<a1))=true then(if(decide (s1<6))=true then((kc 60 (ac.mk s2 s3)).bind fun x11=>(eR x11.2).bind fun x12=>(dm s1).bind fun x13=>(dx 6 x12.2).bind fun x14=>if(x14.1==0)=true then((dx 500 x14.2).bind fun x16=>(kc 60 x16.2).bind fun x17=>(eR x17.2).bind fun x18=>(inO [(ap.mk 0 100000 (bi.mk 100 1) x11.1 x12.1)] 0).bind fun _=>(modO [(ap.mk 0 100000 (bi.mk 100 1) x11.1 x12.1)] 0 (fun(z22:ap)=>(ap.mk z22.bj (IntKind.wrap .i64 (1500+x16.1)) z22.di z22.aP z22.bu))).bind fun x21=>(pS x21 [(ap.mk (IntKind.wrap .i64 (1500+x16.1)) 100000 (bi.mk 100 1) x17.1 x18.1)] 80).bind fun x23=>(pS s4 [(aq.mk x13 x23)] 88).bind fun x24=>some (.next ((IntKind.wrap .i64 (s1+1)),x18.2.fL,x18.2.fAt,x24)))else(if(x14.1==1)=true then((dx 1500 x14.2).bind fun x26=>(inO [(ap.mk 0 100000 (bi.mk 100 1) x11.1 x12.1)] 0).bind fun _=>(modO [(ap.mk 0 100000 (bi.mk 100 1) x11.1 x12.1)] 0 (fun(z30:ap)=>(ap.mk x26.1 z30.fTo z30.di z30.aP z30.bu))).bind fun x29=>(pS s4 [(aq.mk x13 x29)] 88).bind fun x31=>some (.next ((IntKind.wrap .i64 (s1+1)),x26.2.fL,x26.2.fAt,x31)))else((pS s4 [(aq.mk x13 [(ap.mk 0 100000 (bi.mk 100 1) x11.1 x12.1)])] 88).bind fun x32=>some (.next ((IntKind.wrap .i64 (s1+1)),x14.2.fL,x14.2.fAt,x32)))))else(some (.stop (s2,s3,s4))))else(some (.stop (s2,s3,s4)))
def fr(a1:Int)(d0:ac):Option (al×ac):=
  (dW (hX a1) (0,d0.fL,d0.fAt,([]:(List aq)))).bind fun o34=>some ((al.mk o34.2.2),(ac.mk o34.1 o34.2.1))
def mK(a1:Int)(a2:Int)(d0:ac):Option (Int×ac):=
  (dx (IntKind.wrap .i64 ((IntKind.wrap .i64 (a2-a1))+1)) d0).bind fun x1=>some ((IntKind.wrap .i64 (a1+x1.1)),x1.2)
def mJ(a1:ag)(d0:ac):Option (aa×ac):=
  (mK a1.aI.fX a1.aC.fX d0).bind fun x1=>(mK a1.aI.fY a1.aC.fY x1.2).bind fun x2=>(mK a1.aI.fZ a1.aC.fZ x2.2).bind fun x3=>some ((aa.mk x1.1 x2.1 x3.1),x3.2)
def jM(x4:aq)(a1:au)(a2:Int)(s1:Int):Int->Option (fR (Int) ((Int)⊕(aa×Bool))):=fun s5=>
  if(decide (s5<(x4.aT.length:Int)))=true then((eV x4.aT s5).bind fun x9=>if((x4.aw.ba==a1.ba)&&((x4.aw.aN==a1.aN)&&((x4.aw.av==a1.av)&&((x4.aw.bc==a1.bc)&&true))))=true then(if(decide (x9.bj<=a2))=true then(if(decide (a2<x9.fTo))=true then(some (.stop (.inr (x9.aP,true))))else(some (.next (IntKind.wrap .i64 (s5+1)))))else(some (.next (IntKind.wrap .i64 (s5+1)))))else(some (.next (IntKind.wrap .i64 (s5+1)))))else(some (.stop (.inl s1)))
def gV(a0:al)(a1:au)(a2:Int):Int->Option (fR (Int) ((Unit)⊕(aa×Bool))):=fun s1=>
  if(decide (s1<(a0.aJ.length:Int)))=true then((eV a0.aJ s1).bind fun x4=>(dW (jM x4 a1 a2 s1) 0).bind fun o14=>match o14 with| .inl y15=>(some (.next (IntKind.wrap .i64 (y15+1))))| .inr r16=>(some (.stop (.inr r16))))else(some (.stop (.inl ())))
def ny(a0:al)(a1:au)(a2:Int):Option (aa×Bool):=
  (dW (gV a0 a1 a2) 0).bind fun o18=>match o18 with| .inl _=>(some ((aa.mk 0 0 0),false))| .inr r20=>(some r20)
def gB(a0:aa):Option (Bool):=
  if(decide (a0.fX>=(-1048576)))=true then(if(decide (a0.fX<=1048576))=true then(if(decide (a0.fY>=(-1048576)))=true then(if(decide (a0.fY<=1048576))=true then(if(decide (a0.fZ>=(-16384)))=true then(some (decide (a0.fZ<=1048576)))else(some false))else(some false))else(some false))else(some false))else(some false)
def fh(a0:ag):Option (Bool):=
  (gB a0.aI).bind fun x1=>if x1=true then((gB a0.aC).bind fun x3=>if x3=true then(if(decide (a0.aI.fX<=a0.aC.fX))=true then(if(decide (a0.aI.fY<=a0.aC.fY))=true then(some (decide (a0.aI.fZ<=a0.aC.fZ)))else(some false))else(some false))else(some false))else(some false)
def nh(a0:aA):Int->Option (fR (Int) ((Unit)⊕(Int))):=fun s6=>
  if(decide (s6<(a0.aI.length:Int)))=true then((eV a0.aI s6).bind fun x9=>if(decide (x9<0))=true then(some (.stop (.inr 21)))else((eV a0.aC s6).bind fun x11=>if(decide (x11>1099511627776))=true then(some (.stop (.inr 21)))else((eV a0.aI s6).bind fun x13=>(eV a0.aC s6).bind fun x14=>if(decide (x13>x14))=true then(some (.stop (.inr 21)))else(if(decide (s6>0))=true then((eV a0.aI s6).bind fun x17=>(eV a0.aI (IntKind.wrap .i64 (s6-1))).bind fun x18=>if(decide (x17<x18))=true then(some (.stop (.inr 21)))else((eV a0.aC s6).bind fun x20=>(eV a0.aC (IntKind.wrap .i64 (s6-1))).bind fun x21=>if(decide (x20<x21))=true then(some (.stop (.inr 21)))else(some (.next (IntKind.wrap .i64 (s6+1))))))else(some (.next (IntKind.wrap .i64 (s6+1))))))))else(some (.stop (.inl ())))
def eu(a0:aA):Option (Int):=
  if(decide (a0.aZ<1))=true then(some 21)else(if(decide (a0.aZ>1048576))=true then(some 21)else(if((a0.aI.length:Int) != (a0.aC.length:Int))=true then(some 21)else(if(decide ((a0.aI.length:Int)<2))=true then(some 21)else(if(decide ((a0.aI.length:Int)>256))=true then(some 21)else((dW (nh a0) 0).bind fun o24=>match o24 with| .inl _=>(some 0)| .inr r26=>(some r26))))))
def kQ(a0:aG):Option (Bool):=
  (fh a0.aM).bind fun x1=>if x1=true then((eu a0.aW).bind fun x3=>if(x3==0)=true then(if(decide (a0.cG>=1))=true then(if(decide (a0.cG<=1099511627776))=true then(if(decide (a0.bf>=0))=true then(if(decide (a0.bf<=1099511627776))=true then(if(decide (a0.d9>=0))=true then(if(decide (a0.d9<=1099511627776))=true then(if(decide (a0.dC>=0))=true then(if(decide (a0.dC<=1099511627776))=true then(if(decide (a0.co>=2))=true then(some (decide (a0.co<=16)))else(some false))else(some false))else(some false))else(some false))else(some false))else(some false))else(some false))else(some false))else(some false))else(some false))else(some false)
def jm(a0:bo):Option (Bool):=
  (eu a0.bC).bind fun x1=>if(x1==0)=true then(if(decide (a0.bd>=0))=true then(if(decide (a0.bd<=65536))=true then(if(decide (a0.aY>=1))=true then(some (decide (a0.aY<=65536)))else(some false))else(some false))else(some false))else(some false)
def kR(a0:ar):Option (Int):=
  (kQ a0.ae).bind fun x1=>if(!x1)=true then(some 27)else((jm a0.cm).bind fun x3=>if(!x3)=true then(some 27)else(if(decide (a0.bf<0))=true then(some 27)else(if(decide (a0.bf>1099511627776))=true then(some 27)else(some 0))))
def kN(a0:(List UInt8)):Int->Option (fR (Int) ((Unit)⊕(Bool))):=fun s1=>
  if(decide (s1<(a0.length:Int)))=true then((uh a0 s1).bind fun x4=>if(decide (x4>=65))=true then((uh a0 s1).bind fun x6=>if(decide (x6<=90))=true then(some (.next (IntKind.wrap .i64 (s1+1))))else((uh a0 s1).bind fun x8=>if(decide (x8>=48))=true then((uh a0 s1).bind fun x10=>if(!(decide (x10<=57)))=true then(some (.stop (.inr false)))else(some (.next (IntKind.wrap .i64 (s1+1)))))else(some (.stop (.inr false)))))else((uh a0 s1).bind fun x12=>if(decide (x12>=48))=true then((uh a0 s1).bind fun x14=>if(!(decide (x14<=57)))=true then(some (.stop (.inr false)))else(some (.next (IntKind.wrap .i64 (s1+1)))))else(some (.stop (.inr false)))))else(some (.stop (.inl ())))
def iP(a0:(List UInt8))(a1:Int)(a2:Int):Option (Bool):=
  (dW (kN a0) 0).bind fun o17=>match o17 with| .inl _=>(if(decide ((a0.length:Int)>=a1))=true then(some (decide ((a0.length:Int)<=a2)))else(some false))| .inr r19=>(some r19)
def kj(a0:au):Option (Bool):=
  (iP a0.ba 1 2).bind fun x1=>if x1=true then((iP a0.aN 1 5).bind fun x3=>if x3=true then(if(a0.av== [])=true then((iP a0.bc 3 3).bind fun x6=>some x6)else((iP a0.av 2 2).bind fun x7=>if x7=true then((iP a0.bc 3 3).bind fun x9=>some x9)else(some false)))else(some false))else(some false)
def cV(a0:Int)(a1:Int)(a2:Int):Option (Bool):=
  if(decide (a0>=a1))=true then(some (decide (a0<=a2)))else(some false)
def gZ(a0:ai):Option (Bool):=
  (kj a0.aw).bind fun x1=>if x1=true then(if(decide (a0.aQ>=0))=true then(if(decide (a0.aQ<=a0.bn))=true then(if(decide (a0.bn<=a0.bw))=true then(if(decide (a0.bw<=18014398509481984))=true then((cV a0.bg 0 1073741823).bind fun x7=>if x7=true then((cV a0.bz (-1) 1).bind fun x9=>some x9)else(some false))else(some false))else(some false))else(some false))else(some false))else(some false)
def ref02_gcd_l7:(Int×Int)->Option (fR (Int×Int) (Int)):=fun(s1,s2)=>
  if(s2 != 0)=true then((vN s1 s2).bind fun x6=>some (.next (s2,x6)))else(some (.stop s1))
def ref02_gcd(a0:Int)(a1:Int):Option (Int):=
  (dW (ref02_gcd_l7) (a0,a1)).bind fun o8=>some o8
def pN(a0:bi):Option (Bool):=
  (cV a0.bd 1 4096).bind fun x1=>if x1=true then((cV a0.aY 1 4096).bind fun x3=>if x3=true then((ref02_gcd a0.bd a0.aY).bind fun x5=>some (x5==1))else(some false))else(some false)
def kO(a0:(List Int)):Int->Option (fR (Int) ((Unit)⊕(Bool))):=fun s1=>
  if(decide (s1<(a0.length:Int)))=true then((eV a0 s1).bind fun x4=>(cV x4 (-1048576) 1048576).bind fun x5=>if(!x5)=true then(some (.stop (.inr false)))else(some (.next (IntKind.wrap .i64 (s1+1)))))else(some (.stop (.inl ())))
def gA(a0:(List Int)):Option (Bool):=
  (dW (kO a0) 0).bind fun o8=>match o8 with| .inl _=>(some true)| .inr r10=>(some r10)
def ref18_total_l7(a0:(List Int)):(Int×Int)->Option (fR (Int×Int) (Int)):=fun(s1,s2)=>
  if(decide (s2<(a0.length:Int)))=true then((eV a0 s2).bind fun x6=>some (.next ((IntKind.wrap .i64 (s1+x6)),(IntKind.wrap .i64 (s2+1)))))else(some (.stop s1))
def lY(a0:(List Int)):Option (Int):=
  (dW (ref18_total_l7 a0) (0,0)).bind fun o8=>some o8
def jk(a0:aD):Option (Bool):=
  if((a0.bN.length:Int)==0)=true then(if(a0.bt==0)=true then(if(a0.b8==0)=true then(if(a0.bR==0)=true then((cV a0.bd.a0 1 1048576).bind fun x5=>if x5=true then((cV a0.aY.a0 1 1048576).bind fun x7=>if x7=true then(if(a0.bd.a1==0)=true then(if(a0.bd.a2==0)=true then(if(a0.aY.a1==0)=true then(some (a0.aY.a2==0))else(some false))else(some false))else(some false))else(some false))else(some false))else(some false))else(if(a0.b8==1)=true then(if(a0.bR==0)=true then((gA [a0.bd.a0,a0.bd.a1,a0.bd.a2]).bind fun x14=>if x14=true then((gA [a0.aY.a0,a0.aY.a1,a0.aY.a2]).bind fun x16=>if x16=true then(some (a0.aY.a0 != 0))else(some false))else(some false))else(some false))else(if(a0.b8==2)=true then(if((a0.bd.a0==0)&&((a0.bd.a1==0)&&((a0.bd.a2==0)&&true)))=true then(if((a0.aY.a0==0)&&((a0.aY.a1==0)&&((a0.aY.a2==0)&&true)))=true then((cV (a0.bN.length:Int) 1 128).bind fun x21=>if x21=true then((gA a0.bN).bind fun x23=>if x23=true then((lY a0.bN).bind fun x25=>if(x25 != 0)=true then((cV a0.bt 1 64).bind fun x27=>if x27=true then((cV a0.bR 0 40).bind fun x29=>some x29)else(some false))else(some false))else(some false))else(some false))else(some false))else(some false))else(some false))))else(if(a0.b8==0)=true then(some false)else(if(a0.b8==1)=true then(some false)else(if(a0.b8==2)=true then(if((a0.bd.a0==0)&&((a0.bd.a1==0)&&((a0.bd.a2==0)&&true)))=true then(if((a0.aY.a0==0)&&((a0.aY.a1==0)&&((a0.aY.a2==0)&&true)))=true then((cV (a0.bN.length:Int) 1 128).bind fun x35=>if x35=true then((gA a0.bN).bind fun x37=>if x37=true then((lY a0.bN).bind fun x39=>if(x39 != 0)=true then((cV a0.bt 1 64).bind fun x41=>if x41=true then((cV a0.bR 0 40).bind fun x43=>some x43)else(some false))else(some false))else(some false))else(some false))else(some false))else(some false))else(some false)))))else(if(a0.b8==0)=true then(some false)else(if(a0.b8==1)=true then(some false)else(if(a0.b8==2)=true then(if((a0.bd.a0==0)&&((a0.bd.a1==0)&&((a0.bd.a2==0)&&true)))=true then(if((a0.aY.a0==0)&&((a0.aY.a1==0)&&((a0.aY.a2==0)&&true)))=true then((cV (a0.bN.length:Int) 1 128).bind fun x49=>if x49=true then((gA a0.bN).bind fun x51=>if x51=true then((lY a0.bN).bind fun x53=>if(x53 != 0)=true then((cV a0.bt 1 64).bind fun x55=>if x55=true then((cV a0.bR 0 40).bind fun x57=>some x57)else(some false))else(some false))else(some false))else(some false))else(some false))else(some false))else(some false))))
def ml(a0:aL):(Int×Int)->Option (fR (Int×Int) ((Unit)⊕(Bool))):=fun(s1,s2)=>
  if(decide (s2<(a0.aV.length:Int)))=true then((eV a0.aV s2).bind fun x5=>(jk x5).bind fun x6=>if(!x6)=true then(some (.stop (.inr false)))else((eV a0.aV s2).bind fun x8=>if(x8.b8==2)=true then((eV a0.aV s2).bind fun x10=>if(decide ((IntKind.wrap .i64 (s1*x10.bt))>64))=true then(some (.stop (.inr false)))else(some (.next ((IntKind.wrap .i64 (s1*x10.bt)),(IntKind.wrap .i64 (s2+1))))))else(some (.next (s1,(IntKind.wrap .i64 (s2+1)))))))else(some (.stop (.inl ())))
def nE(a0:aL):Option (Bool):=
  (dW (ml a0) (1,0)).bind fun o13=>match o13 with| .inl _=>(some (decide ((a0.aV.length:Int)<=8)))| .inr r15=>(some r15)
def jl(a0:ap):Option (Bool):=
  if(decide (a0.bj>=0))=true then(if(decide (a0.bj<a0.fTo))=true then(if(decide (a0.fTo<=9007199254740992))=true then((pN a0.di).bind fun x4=>if x4=true then((nE a0.bu).bind fun x6=>if x6=true then((cV a0.aP.fX (-1048576) 1048576).bind fun x8=>if x8=true then((cV a0.aP.fY (-1048576) 1048576).bind fun x10=>if x10=true then((cV a0.aP.fZ (-16384) 1048576).bind fun x12=>some x12)else(some false))else(some false))else(some false))else(some false))else(some false))else(some false))else(some false)
def fW(a0:(List UInt8))(a1:(List UInt8)):Option (Int):=
  if(Op.bytesLess a0 a1)=true then(some (-1))else(if(!(Op.bytesLess a0 a1||a0==a1))=true then(some 1)else(some 0))
def lK(a0:au)(a1:au):Option (Int):=
  (fW a0.ba a1.ba).bind fun x1=>(fW a0.aN a1.aN).bind fun x2=>(fW a0.av a1.av).bind fun x3=>(fW a0.bc a1.bc).bind fun x4=>if(x1 != 0)=true then(some x1)else(if(x2 != 0)=true then(some x2)else(if(x3 != 0)=true then(some x3)else(if(x4 != 0)=true then(some x4)else(some 0))))
def jP(x4:aq)(s1:Int):Int->Option (fR (Int) ((Int)⊕(Bool))):=fun s5=>
  if(decide (s5<(x4.aT.length:Int)))=true then((eV x4.aT s5).bind fun x9=>(jl x9).bind fun x10=>if(!x10)=true then(some (.stop (.inr false)))else(if(decide (s5>0))=true then((eV x4.aT s5).bind fun x13=>(eV x4.aT (IntKind.wrap .i64 (s5-1))).bind fun x14=>if(decide (x13.bj<x14.fTo))=true then(some (.stop (.inr false)))else(some (.next (IntKind.wrap .i64 (s5+1)))))else(some (.next (IntKind.wrap .i64 (s5+1))))))else(some (.stop (.inl s1)))
def jO(x4:aq)(s1:Int):Option (fR (Int) ((Unit)⊕(Bool))):=
  (dW (jP x4 s1) 0).bind fun o17=>match o17 with| .inl y18=>(some (.next (IntKind.wrap .i64 (y18+1))))| .inr r19=>(some (.stop (.inr r19)))
def jQ(a0:al):Int->Option (fR (Int) ((Unit)⊕(Bool))):=fun s1=>
  if(decide (s1<(a0.aJ.length:Int)))=true then((eV a0.aJ s1).bind fun x4=>(kj x4.aw).bind fun x21=>if(!x21)=true then(some (.stop (.inr false)))else(if(decide (s1>0))=true then((eV a0.aJ (IntKind.wrap .i64 (s1-1))).bind fun x24=>(lK x24.aw x4.aw).bind fun x25=>if(decide (x25>=0))=true then(some (.stop (.inr false)))else((cV (x4.aT.length:Int) 1 32).bind fun x27=>if(!x27)=true then(some (.stop (.inr false)))else(jO x4 s1)))else((cV (x4.aT.length:Int) 1 32).bind fun x29=>if(!x29)=true then(some (.stop (.inr false)))else(jO x4 s1))))else(some (.stop (.inl ())))
def lZ(a0:al):Option (Bool):=
  (dW (jQ a0) 0).bind fun o32=>match o32 with| .inl _=>(some (decide ((a0.aJ.length:Int)<=128)))| .inr r34=>(some r34)
def jB(a0:aL):(Int×(List aD))->Option (fR (Int×(List aD)) ((List aD))):=fun(s1,s2)=>
  if(decide (s1<(a0.aV.length:Int)))=true then((eV a0.aV s1).bind fun x6=>(pS ([]:List Int) x6.bN 8).bind fun x7=>(pS s2 [(aD.mk x6.b8 x6.bd x6.aY x7 x6.bt x6.bR)] 96).bind fun x8=>some (.next ((IntKind.wrap .i64 (s1+1)),x8)))else(some (.stop s2))
def oQ(a0:aL):Option (aL):=
  (dW (jB a0) (0,([]:(List aD)))).bind fun o10=>some (aL.mk o10)
def jN(a0:ap):Option (ap):=
  (oQ a0.bu).bind fun x1=>some (ap.mk a0.bj a0.fTo a0.di a0.aP x1)
def gq(a0:al)(s1:Int)(s2:(List aq)):(Int×(List ap))->Option (fR (Int×(List ap)) (Int×(List aq)×(List ap))):=fun(s7,s8)=>
  (eV a0.aJ s1).bind fun x13=>if(decide (s7<(x13.aT.length:Int)))=true then((eV a0.aJ s1).bind fun x15=>(eV x15.aT s7).bind fun x16=>(jN x16).bind fun x17=>(pS s8 [x17] 80).bind fun x18=>some (.next ((IntKind.wrap .i64 (s7+1)),x18)))else(some (.stop (s1,s2,s8)))
def iR(a0:al):(Int×(List aq))->Option (fR (Int×(List aq)) ((List aq))):=fun(s1,s2)=>
  if(decide (s1<(a0.aJ.length:Int)))=true then((eV a0.aJ s1).bind fun x6=>(dW (gq a0 s1 s2) (0,([]:(List ap)))).bind fun o20=>(pS o20.2.1 [(aq.mk x6.aw o20.2.2)] 88).bind fun x21=>some (.next ((IntKind.wrap .i64 (o20.1+1)),x21)))else(some (.stop s2))
def ng(a0:al):Option (al):=
  (dW (iR a0) (0,([]:(List aq)))).bind fun o23=>some (al.mk o23)
def nW(a0:al)(a1:au):Int->Option (fR (Int) ((Unit)⊕(aq×Bool))):=fun s1=>
  if(decide (s1<(a0.aJ.length:Int)))=true then((eV a0.aJ s1).bind fun x4=>if((x4.aw.ba==a1.ba)&&((x4.aw.aN==a1.aN)&&((x4.aw.av==a1.av)&&((x4.aw.bc==a1.bc)&&true))))=true then((yW a0.aJ s1 (IntKind.wrap .i64 (s1+1))).bind fun x6=>(ng (al.mk x6)).bind fun x7=>(eV x7.aJ 0).bind fun x8=>some (.stop (.inr (x8,true))))else(some (.next (IntKind.wrap .i64 (s1+1)))))else(some (.stop (.inl ())))
def oR(a0:al)(a1:au):Option (aq×Bool):=
  (dW (nW a0 a1) 0).bind fun o10=>match o10 with| .inl _=>(some ((aq.mk (au.mk [] [] [] []) []),false))| .inr r12=>(some r12)
def mG(x3:aq×Bool)(a2:Int):Int->Option (fR (Int) ((Unit)⊕(ap×Int))):=fun s4=>
  if(decide (s4<(x3.1.aT.length:Int)))=true then((eV x3.1.aT s4).bind fun x7=>if(decide (x7.bj<=a2))=true then((eV x3.1.aT s4).bind fun x9=>if(decide (a2<x9.fTo))=true then((eV x3.1.aT s4).bind fun x11=>some (.stop (.inr (x11,0))))else(some (.next (IntKind.wrap .i64 (s4+1)))))else(some (.next (IntKind.wrap .i64 (s4+1)))))else(some (.stop (.inl ())))
def oi(a0:al)(a1:au)(a2:Int):Option (ap×Int):=
  (lZ a0).bind fun x1=>if(!x1)=true then(some ((ap.mk 0 0 (bi.mk 0 0) (aa.mk 0 0 0) (aL.mk [])),1))else((oR a0 a1).bind fun x3=>(dW (mG x3 a2) 0).bind fun o13=>match o13 with| .inl _=>(some ((ap.mk 0 0 (bi.mk 0 0) (aa.mk 0 0 0) (aL.mk [])),6))| .inr r15=>(some r15))
def lx(a0:Int)(a1:Int)(a2:Int):Option (Int):=
  some (if(IntKind.wrap .i64 (a2-a1))>(if(IntKind.wrap .i64 (a0-a2))>0 then(IntKind.wrap .i64 (a0-a2))else 0)then(IntKind.wrap .i64 (a2-a1))else(if(IntKind.wrap .i64 (a0-a2))>0 then(IntKind.wrap .i64 (a0-a2))else 0))
def dL(a0:Int):Option (Int):=
  some (IntKind.wrap .i64 (a0*a0))
def oS(a0:ag)(a1:aa):Option (Int):=
  (fh a0).bind fun x1=>if(!x1)=true then(some 0)else((gB a1).bind fun x3=>if(!x3)=true then(some 0)else((lx a0.aI.fX a0.aC.fX a1.fX).bind fun x5=>(dL x5).bind fun x6=>(lx a0.aI.fY a0.aC.fY a1.fY).bind fun x7=>(dL x7).bind fun x8=>(lx a0.aI.fZ a0.aC.fZ a1.fZ).bind fun x9=>(dL x9).bind fun x10=>some (IntKind.wrap .i64 ((IntKind.wrap .i64 (x6+x8))+x10))))
def mR(a0:Int)(a1:Int)(a2:Int):Option (Int):=
  some (if(IntKind.wrap .i64 (a1-a2))>(IntKind.wrap .i64 (a2-a0))then(IntKind.wrap .i64 (a1-a2))else(IntKind.wrap .i64 (a2-a0)))
def qe(a0:ag)(a1:aa):Option (Int):=
  (fh a0).bind fun x1=>if(!x1)=true then(some 0)else((gB a1).bind fun x3=>if(!x3)=true then(some 0)else((mR a0.aI.fX a0.aC.fX a1.fX).bind fun x5=>(dL x5).bind fun x6=>(mR a0.aI.fY a0.aC.fY a1.fY).bind fun x7=>(dL x7).bind fun x8=>(mR a0.aI.fZ a0.aC.fZ a1.fZ).bind fun x9=>(dL x9).bind fun x10=>some (IntKind.wrap .i64 ((IntKind.wrap .i64 (x6+x8))+x10))))
def pP(a0:Int):(Int×Int)->Option (fR (Int×Int) (Int)):=fun(s1,s2)=>
  if(decide (s2>0))=true then(if(decide ((IntKind.wrap .i64 (s1+s2))<=3037000499))=true then(if(decide ((IntKind.wrap .i64 ((IntKind.wrap .i64 (s1+s2))*(IntKind.wrap .i64 (s1+s2))))<=a0))=true then(some (.next ((IntKind.wrap .i64 (s1+s2)),(jf .i64 s2 1))))else(some (.next (s1,(jf .i64 s2 1)))))else(some (.next (s1,(jf .i64 s2 1)))))else(some (.stop s1))
def l4(a0:Int):Option (Int):=
  (dW (pP a0) (0,2147483648)).bind fun o9=>some o9
def lw(a0:Int):Option (Int):=
  (l4 a0).bind fun x1=>if(decide (a0>(IntKind.wrap .i64 (x1*x1))))=true then(some (IntKind.wrap .i64 (x1+1)))else(some x1)
def nF(a0:aA):Option (Int):=
  (eu a0).bind fun x1=>if(x1 != 0)=true then(some 0)else(some (IntKind.wrap .i64 (a0.aZ*(IntKind.wrap .i64 ((a0.aI.length:Int)-1)))))
def pQ(a0:aA)(a1:Int):Option (Int):=
  (su .i64 a1 a0.aZ).bind fun x1=>(eV a0.aI x1).bind fun x2=>some x2
def pR(a0:aA)(a1:Int):Option (Int):=
  (su .i64 (IntKind.wrap .i64 ((IntKind.wrap .i64 (a1+a0.aZ))-1)) a0.aZ).bind fun x1=>(eV a0.aC x1).bind fun x2=>some x2
def lL(a0:aA)(a1:Int)(a2:Int):Option (Int×Int×Int):=
  (eu a0).bind fun x1=>if(x1 != 0)=true then(some (0,0,21))else(if(decide (a1<0))=true then(some (0,0,2))else(if(decide (a1>a2))=true then(some (0,0,2))else((lw a2).bind fun x5=>(nF a0).bind fun x6=>if(decide (x5>x6))=true then(some (0,0,22))else((l4 a1).bind fun x8=>(pQ a0 x8).bind fun x9=>(lw a2).bind fun x10=>(pR a0 x10).bind fun x11=>some (x9,x11,0)))))
def kP(a0:aA)(a1:ag)(a2:aa):Option (Int×Int×Int):=
  (eu a0).bind fun x1=>if(x1 != 0)=true then(some (0,0,21))else((fh a1).bind fun x3=>if(!x3)=true then(some (0,0,20))else((gB a2).bind fun x5=>if(!x5)=true then(some (0,0,20))else((oS a1 a2).bind fun x7=>(qe a1 a2).bind fun x8=>(lL a0 x7 x8).bind fun x9=>some (x9.1,x9.2.1,x9.2.2))))
def mH(a0:ar)(a1:al)(a2:ai):Option (aj×Bool):=
  (kR a0).bind fun x1=>if(x1 != 0)=true then(some ((aj.mk (aa.mk 0 0 0) 0 0 0),false))else((gZ a2).bind fun x3=>if(!x3)=true then(some ((aj.mk (aa.mk 0 0 0) 0 0 0),false))else((oi a1 a2.aw a2.bn).bind fun x5=>if(x5.2 != 0)=true then(some ((aj.mk (aa.mk 0 0 0) 0 0 0),false))else((kP a0.ae.aW a0.ae.aM x5.1.aP).bind fun x7=>if(x7.2.2 != 0)=true then(some ((aj.mk (aa.mk 0 0 0) 0 0 0),false))else(some ((aj.mk x5.1.aP a2.aQ a2.bw 1),true)))))
def qw(a0:aa)(a1:aa):Int->Option (fR (Int) (Int)):=fun s1=>
  if(decide ((IntKind.wrap .i64 ((IntKind.wrap .i64 (s1+1))*(IntKind.wrap .i64 (s1+1))))<=(IntKind.wrap .i64 ((IntKind.wrap .i64 ((IntKind.wrap .i64 ((IntKind.wrap .i64 (a0.fX-a1.fX))*(IntKind.wrap .i64 (a0.fX-a1.fX))))+(IntKind.wrap .i64 ((IntKind.wrap .i64 (a0.fY-a1.fY))*(IntKind.wrap .i64 (a0.fY-a1.fY))))))+(IntKind.wrap .i64 ((IntKind.wrap .i64 (a0.fZ-a1.fZ))*(IntKind.wrap .i64 (a0.fZ-a1.fZ))))))))=true then(some (.next (IntKind.wrap .i64 (s1+1))))else(some (.stop s1))
def oH(a0:aa)(a1:aa):Option (Int):=
  (dW (qw a0 a1) 0).bind fun o6=>some o6
def bB(a0:aa):Option (aS):=
  some (aS.mk a0.fX a0.fY a0.fZ)
def c6(a0:aa):Option (Bool):=
  (bB a0).bind fun x1=>if(decide (x1.a0<(-1048576)))=true then(some false)else(if(decide (x1.a0>1048576))=true then(some false)else(if(decide (x1.a1<(-1048576)))=true then(some false)else(if(decide (x1.a1>1048576))=true then(some false)else(if(decide (x1.a2<(-16384)))=true then(some false)else(if(decide (x1.a2>1048576))=true then(some false)else(some true))))))
def bD(a0:ag):Option (Bool):=
  (c6 a0.aI).bind fun x1=>if(!x1)=true then(some false)else((c6 a0.aC).bind fun x3=>if(!x3)=true then(some false)else((bB a0.aC).bind fun x5=>(bB a0.aI).bind fun x6=>if(decide (x6.a0>x5.a0))=true then(some false)else(if(decide (x6.a1>x5.a1))=true then(some false)else(if(decide (x6.a2>x5.a2))=true then(some false)else(some true)))))
def ju(a0:aA):(Int×Int×Int)->Option (fR (Int×Int×Int) ((Unit)⊕(Int))):=fun(s6,s7,s8)=>
  if(decide (s8<(a0.aI.length:Int)))=true then((eV a0.aI s8).bind fun x11=>if(decide (x11<s6))=true then(some (.stop (.inr 21)))else((eV a0.aC s8).bind fun x13=>if(decide (x13<s7))=true then(some (.stop (.inr 21)))else((eV a0.aI s8).bind fun x15=>(eV a0.aC s8).bind fun x16=>if(decide (x15>x16))=true then(some (.stop (.inr 21)))else((eV a0.aC s8).bind fun x18=>if(decide (x18>1099511627776))=true then(some (.stop (.inr 21)))else((eV a0.aI s8).bind fun x20=>(eV a0.aC s8).bind fun x21=>some (.next (x20,x21,(IntKind.wrap .i64 (s8+1)))))))))else(some (.stop (.inl ())))
def cQ(a0:aA):Option (Int):=
  if(decide (a0.aZ<1))=true then(some 21)else(if(decide (a0.aZ>1048576))=true then(some 21)else(if((a0.aI.length:Int) != (a0.aC.length:Int))=true then(some 21)else(if(decide ((a0.aI.length:Int)<2))=true then(some 21)else(if(decide ((a0.aI.length:Int)>256))=true then(some 21)else((dW (ju a0) (0,0,0)).bind fun o23=>match o23 with| .inl _=>(some 0)| .inr r25=>(some r25))))))
def d6(a0:Int)(a1:Int)(a2:Int):Option (Bool):=
  if(decide (a0>=a1))=true then(some (decide (a0<=a2)))else(some false)
def dc(a0:aj):Option (Bool):=
  (c6 a0.aN).bind fun x1=>if x1=true then(if(decide (a0.aQ>=0))=true then(if(decide (a0.aQ<=a0.bw))=true then(if(decide (a0.bw<=18014398509481984))=true then(if(decide (a0.bJ>=1))=true then(some (decide (a0.bJ<=100)))else(some false))else(some false))else(some false))else(some false))else(some false)
def e9(a0:Int)(a1:Int)(a2:Int):Option (Int):=
  some (if 0>(if(IntKind.wrap .i64 (a0-a2))>(IntKind.wrap .i64 (a1-a0))then(IntKind.wrap .i64 (a0-a2))else(IntKind.wrap .i64 (a1-a0)))then 0 else(if(IntKind.wrap .i64 (a0-a2))>(IntKind.wrap .i64 (a1-a0))then(IntKind.wrap .i64 (a0-a2))else(IntKind.wrap .i64 (a1-a0))))
def gH(a0:ag)(a1:aa):Option (Int):=
  (bD a0).bind fun x1=>if(!x1)=true then(some 0)else((c6 a1).bind fun x3=>if(!x3)=true then(some 0)else((bB a0.aI).bind fun x5=>(bB a0.aC).bind fun x6=>(bB a1).bind fun x7=>(e9 x7.a0 x5.a0 x6.a0).bind fun x8=>(e9 x7.a1 x5.a1 x6.a1).bind fun x9=>(e9 x7.a2 x5.a2 x6.a2).bind fun x10=>some (IntKind.wrap .i64 ((IntKind.wrap .i64 ((IntKind.wrap .i64 (0+(IntKind.wrap .i64 (x8*x8))))+(IntKind.wrap .i64 (x9*x9))))+(IntKind.wrap .i64 (x10*x10))))))
def eZ(a0:ag)(a1:aa):Option (Int):=
  (gH a0 a1).bind fun x1=>some x1
def eF(a0:Int)(a1:Int)(a2:Int):Option (Int):=
  some (if(IntKind.wrap .i64 (a0-a1))>(IntKind.wrap .i64 (a2-a0))then(IntKind.wrap .i64 (a0-a1))else(IntKind.wrap .i64 (a2-a0)))
def gg(a0:ag)(a1:aa):Option (Int):=
  (bD a0).bind fun x1=>if(!x1)=true then(some 0)else((c6 a1).bind fun x3=>if(!x3)=true then(some 0)else((bB a0.aI).bind fun x5=>(bB a0.aC).bind fun x6=>(bB a1).bind fun x7=>(eF x7.a0 x5.a0 x6.a0).bind fun x8=>(eF x7.a1 x5.a1 x6.a1).bind fun x9=>(eF x7.a2 x5.a2 x6.a2).bind fun x10=>some (IntKind.wrap .i64 ((IntKind.wrap .i64 ((IntKind.wrap .i64 (0+(IntKind.wrap .i64 (x8*x8))))+(IntKind.wrap .i64 (x9*x9))))+(IntKind.wrap .i64 (x10*x10))))))
def gF(a0:ag)(a1:aa):Option (Int):=
  (gg a0 a1).bind fun x1=>some x1
def ib(a0:aA)(a1:ag)(a2:aa):Option (aA×Int×Int):=
  (eZ a1 a2).bind fun x1=>(gF a1 a2).bind fun x2=>some (a0,x1,x2)
def hY(j3:Int)(j4:Int):Option (Int):=
  if(decide (j3>=256))=true then((uh [0,1,2,2,3,3,3,3,4,4,4,4,4,4,4,4,5,5,5,5,5,5,5,5,5,5,5,5,5,5,5,5,6,6,6,6,6,6,6,6,6,6,6,6,6,6,6,6,6,6,6,6,6,6,6,6,6,6,6,6,6,6,6,6,7,7,7,7,7,7,7,7,7,7,7,7,7,7,7,7,7,7,7,7,7,7,7,7,7,7,7,7,7,7,7,7,7,7,7,7,7,7,7,7,7,7,7,7,7,7,7,7,7,7,7,7,7,7,7,7,7,7,7,7,7,7,7,7,8,8,8,8,8,8,8,8,8,8,8,8,8,8,8,8,8,8,8,8,8,8,8,8,8,8,8,8,8,8,8,8,8,8,8,8,8,8,8,8,8,8,8,8,8,8,8,8,8,8,8,8,8,8,8,8,8,8,8,8,8,8,8,8,8,8,8,8,8,8,8,8,8,8,8,8,8,8,8,8,8,8,8,8,8,8,8,8,8,8,8,8,8,8,8,8,8,8,8,8,8,8,8,8,8,8,8,8,8,8,8,8,8,8,8,8,8,8,8,8,8,8,8,8,8,8,8,8] (IntKind.wrap .u8 (jf .u64 j3 8))).bind fun x6=>some (IntKind.wrap .i64 ((IntKind.wrap .i64 (j4+8))+(IntKind.wrap .i64 x6))))else((uh [0,1,2,2,3,3,3,3,4,4,4,4,4,4,4,4,5,5,5,5,5,5,5,5,5,5,5,5,5,5,5,5,6,6,6,6,6,6,6,6,6,6,6,6,6,6,6,6,6,6,6,6,6,6,6,6,6,6,6,6,6,6,6,6,7,7,7,7,7,7,7,7,7,7,7,7,7,7,7,7,7,7,7,7,7,7,7,7,7,7,7,7,7,7,7,7,7,7,7,7,7,7,7,7,7,7,7,7,7,7,7,7,7,7,7,7,7,7,7,7,7,7,7,7,7,7,7,7,8,8,8,8,8,8,8,8,8,8,8,8,8,8,8,8,8,8,8,8,8,8,8,8,8,8,8,8,8,8,8,8,8,8,8,8,8,8,8,8,8,8,8,8,8,8,8,8,8,8,8,8,8,8,8,8,8,8,8,8,8,8,8,8,8,8,8,8,8,8,8,8,8,8,8,8,8,8,8,8,8,8,8,8,8,8,8,8,8,8,8,8,8,8,8,8,8,8,8,8,8,8,8,8,8,8,8,8,8,8,8,8,8,8,8,8,8,8,8,8,8,8,8,8,8,8,8,8] (IntKind.wrap .u8 j3)).bind fun x7=>some (IntKind.wrap .i64 (j4+(IntKind.wrap .i64 x7))))
def ge(j1:Int)(j2:Int):Option (Int):=
  if(decide (j1>=65536))=true then(hY (jf .u64 j1 16) (IntKind.wrap .i64 (j2+16)))else(hY j1 j2)
def mU(a0:Int):Option (Int):=
  if(decide (a0>=4294967296))=true then(ge (jf .u64 a0 32) 32)else(ge a0 0)
def gd(a0:Int):Option (Int):=
  (mU a0).bind fun x1=>some x1
def gG(a0:Int):(Int×Int)->Option (fR (Int×Int) (Int)):=fun(s5,s6)=>
  if(decide (s6>0))=true then((su .i64 a0 (orI .i64 s5 s6)).bind fun x10=>if(decide ((orI .i64 s5 s6)<=x10))=true then(some (.next ((orI .i64 s5 s6),(jf .i64 s6 1))))else(some (.next (s5,(jf .i64 s6 1)))))else(some (.stop s5))
def ff(a0:Int):Option (Int):=
  if(decide (a0<=0))=true then(some 0)else((gd (IntKind.wrap .u64 a0)).bind fun x2=>(su .i64 (IntKind.wrap .i64 (x2-1)) 2).bind fun x3=>(yb .i64 1 x3).bind fun x4=>(dW (gG a0) (0,x4)).bind fun o13=>some o13)
def ie(a0:Int):Option (Int):=
  (ff a0).bind fun x1=>if(decide ((IntKind.wrap .i64 (x1*x1))<a0))=true then(some (IntKind.wrap .i64 (x1+1)))else(some x1)
def kY(a0:aA):Option (Int):=
  some (IntKind.wrap .i64 (a0.aZ*(IntKind.wrap .i64 ((a0.aI.length:Int)-1))))
def gc(a0:Int)(d0:aA)(d1:Int):Option (Bool):=
  some (decide ((IntKind.wrap .i64 (a0*d0.aZ))>=d1))
def f9(d0:aA)(d1:Int):(Int×Int)->Option (fR (Int×Int) (Int)):=fun(s1,s2)=>
  if(decide (s1<s2))=true then((gc (IntKind.wrap .i64 (jf .u64 (IntKind.wrap .u64 (IntKind.wrap .i64 (s1+s2))) 1)) d0 d1).bind fun x6=>if(!x6)=true then(some (.next ((IntKind.wrap .i64 ((IntKind.wrap .i64 (jf .u64 (IntKind.wrap .u64 (IntKind.wrap .i64 (s1+s2))) 1))+1)),s2)))else(some (.next (s1,(IntKind.wrap .i64 (jf .u64 (IntKind.wrap .u64 (IntKind.wrap .i64 (s1+s2))) 1))))))else(some (.stop s1))
def dF(a0:Int)(d0:aA)(d1:Int):Option (Int):=
  (dW (f9 d0 d1) (0,a0)).bind fun o9=>some o9
def bZ(a0:aA)(a1:Int)(a2:Int):Option (Int×Int×Int):=
  (cQ a0).bind fun x1=>if(x1 != 0)=true then(some (0,0,21))else(if(decide (a1<0))=true then(some (0,0,2))else(if(decide (a1>a2))=true then(some (0,0,2))else((ie a2).bind fun x5=>(kY a0).bind fun x6=>if(decide (x5>x6))=true then(some (0,0,22))else((dF (a0.aC.length:Int) a0 x5).bind fun x8=>(ff a1).bind fun x9=>(su .i64 x9 a0.aZ).bind fun x10=>(eV a0.aI x10).bind fun x11=>(eV a0.aC x8).bind fun x12=>some (x11,x12,0)))))
def d8(a0:aA)(a1:ag)(a2:aa):Option (Int×Int×Int):=
  (cQ a0).bind fun x1=>if(x1 != 0)=true then(some (0,0,x1))else((bD a1).bind fun x3=>if(!x3)=true then(some (0,0,20))else((c6 a2).bind fun x5=>if(!x5)=true then(some (0,0,20))else((ib a0 a1 a2).bind fun x7=>(bZ x7.1 x7.2.1 x7.2.2).bind fun x8=>some (x8.1,x8.2.1,x8.2.2))))
def du(a0:aA)(a1:ag)(a2:aj):Option (aK×Int):=
  (cQ a0).bind fun x1=>if(x1 != 0)=true then(some ((aK.mk 0 0),x1))else((bD a1).bind fun x3=>if(!x3)=true then(some ((aK.mk 0 0),20))else((dc a2).bind fun x5=>if(!x5)=true then(some ((aK.mk 0 0),23))else((d8 a0 a1 a2.aN).bind fun x7=>if(x7.2.2 != 0)=true then(some ((aK.mk 0 0),x7.2.2))else(some ((aK.mk (IntKind.wrap .i64 (a2.aQ-x7.2.1)) (IntKind.wrap .i64 (a2.bw-x7.1))),0)))))
def db(a1:(List aj))(a0:aG):Int->Option (fR (Int) ((Unit)⊕(Int))):=fun s16=>
  if(decide (s16<(a1.length:Int)))=true then((eV a1 s16).bind fun x19=>(du a0.aW a0.aM x19).bind fun x20=>if(x20.2 != 0)=true then(some (.stop (.inr x20.2)))else(some (.next (IntKind.wrap .i64 (s16+1)))))else(some (.stop (.inl ())))
def dt(a0:aG)(a1:(List aj)):Option (Int):=
  (bD a0.aM).bind fun x1=>if(!x1)=true then(some 27)else((cQ a0.aW).bind fun x3=>if(x3 != 0)=true then(some 27)else((d6 a0.cG 1 1099511627776).bind fun x5=>if(!x5)=true then(some 27)else((d6 a0.bf 0 1099511627776).bind fun x7=>if(!x7)=true then(some 27)else((d6 a0.d9 0 1099511627776).bind fun x9=>if(!x9)=true then(some 27)else((d6 a0.dC 0 1099511627776).bind fun x11=>if(!x11)=true then(some 27)else((d6 a0.co 2 16).bind fun x13=>if(!x13)=true then(some 27)else(if(decide ((a1.length:Int)>256))=true then(some 8)else((dW (db a1 a0) 0).bind fun o23=>match o23 with| .inl _=>(some 0)| .inr r25=>(some r25)))))))))
def c7(a0:bo):Option (Bool):=
  (cQ a0.bC).bind fun x1=>if(x1==0)=true then(if(decide (a0.bd>=0))=true then(if(decide (a0.bd<=65536))=true then(if(decide (a0.aY>=1))=true then(some (decide (a0.aY<=65536)))else(some false))else(some false))else(some false))else(some false)
def eJ(a0:ar):Option (Int):=
  (dt a0.ae []).bind fun x1=>if(x1 != 0)=true then(some 27)else((c7 a0.cm).bind fun x3=>if(!x3)=true then(some 27)else(if(decide (a0.bf<0))=true then(some 27)else(if(decide (a0.bf>1099511627776))=true then(some 27)else(some 0))))
def mI(a0:Int):Option (Bool):=
  if(decide (a0>=65))=true then(if(decide (a0<=90))=true then(some true)else(if(decide (a0>=48))=true then(some (decide (a0<=57)))else(some false)))else(if(decide (a0>=48))=true then(some (decide (a0<=57)))else(some false))
def iY(a0:(List UInt8)):Int->Option (fR (Int) ((Unit)⊕(Bool))):=fun s1=>
  if(decide (s1<(a0.length:Int)))=true then((uh a0 s1).bind fun x4=>(mI x4).bind fun x5=>if(!x5)=true then(some (.stop (.inr false)))else(some (.next (IntKind.wrap .i64 (s1+1)))))else(some (.stop (.inl ())))
def fU(a0:(List UInt8))(a1:Int)(a2:Int):Option (Bool):=
  (dW (iY a0) 0).bind fun o8=>match o8 with| .inl _=>(if(decide ((a0.length:Int)>=a1))=true then(some (decide ((a0.length:Int)<=a2)))else(some false))| .inr r10=>(some r10)
def fT(a0:au):Option (Bool):=
  (fU a0.ba 1 2).bind fun x1=>if x1=true then((fU a0.aN 1 5).bind fun x3=>if x3=true then((fU a0.av 0 2).bind fun x5=>if x5=true then(if((a0.av.length:Int) != 1)=true then((fU a0.bc 3 3).bind fun x8=>some x8)else(some false))else(some false))else(some false))else(some false)
def nD(a0:Int)(a1:Int)(a2:Int):Option (Bool):=
  if(decide (a0>=a1))=true then(some (decide (a0<=a2)))else(some false)
def nC:(Int×Int)->Option (fR (Int×Int) (Int)):=fun(s1,s2)=>
  if(s2 != 0)=true then((vN s1 s2).bind fun x6=>some (.next (s2,x6)))else(some (.stop s1))
def lX(a0:Int)(a1:Int):Option (Int):=
  (dW (nC) (a0,a1)).bind fun o8=>some o8
def iO(a0:bi):Option (Bool):=
  (nD a0.bd 1 4096).bind fun x1=>if x1=true then((nD a0.aY 1 4096).bind fun x3=>if x3=true then((lX a0.bd a0.aY).bind fun x5=>some (x5==1))else(some false))else(some false)
def bA(a0:Int)(a1:Int)(a2:Int):Option (Bool):=
  if(decide (a0>=a1))=true then(some (decide (a0<=a2)))else(some false)
def f8(a0:Int):Option (Bool):=
  (bA a0 (-1048576) 1048576).bind fun x1=>some (!x1)
def bX(a0:(List Int)):Int->Option (fR (Int) ((Unit)⊕(Int))):=fun s1=>
  if(decide (s1<(a0.length:Int)))=true then((eV a0 s1).bind fun x4=>(f8 x4).bind fun x5=>if x5=true then(some (.stop (.inr s1)))else(some (.next (IntKind.wrap .i64 (s1+1)))))else(some (.stop (.inl ())))
def cL(a0:(List Int)):Option (Int):=
  (dW (bX a0) 0).bind fun o8=>match o8 with| .inl _=>(some (-1))| .inr r10=>(some r10)
def cj(a0:(List Int)):Option (Bool):=
  (cL a0).bind fun x1=>some (decide (x1>=0))
def ca(a0:(List Int)):Option (Bool):=
  (cj a0).bind fun x1=>some (!x1)
def hC(a0:(List Int)):(Int×Int)->Option (fR (Int×Int) (Int)):=fun(s1,s2)=>
  if(decide (s2<(a0.length:Int)))=true then((eV a0 s2).bind fun x6=>some (.next ((IntKind.wrap .i64 (s1+x6)),(IntKind.wrap .i64 (s2+1)))))else(some (.stop s1))
def cN(a0:(List Int)):Option (Int):=
  (dW (hC a0) (0,0)).bind fun o8=>some o8
def cf(a0:aD):Option (Bool):=
  if((a0.bN.length:Int)==0)=true then(if(a0.bt==0)=true then(if(a0.b8==0)=true then(if(a0.bR==0)=true then(if((a0.bd.a0==a0.bd.a0)&&((a0.bd.a1==0)&&((a0.bd.a2==0)&&true)))=true then(if((a0.aY.a0==a0.aY.a0)&&((a0.aY.a1==0)&&((a0.aY.a2==0)&&true)))=true then((bA a0.bd.a0 1 1048576).bind fun x7=>if x7=true then((bA a0.aY.a0 1 1048576).bind fun x9=>some x9)else(some false))else(some false))else(some false))else(some false))else(if(a0.b8==1)=true then(if(a0.bR==0)=true then((ca [a0.bd.a0,a0.bd.a1,a0.bd.a2]).bind fun x12=>if x12=true then((ca [a0.aY.a0,a0.aY.a1,a0.aY.a2]).bind fun x14=>if x14=true then(some (a0.aY.a0 != 0))else(some false))else(some false))else(some false))else(if(a0.b8==2)=true then(if((a0.bd.a0==0)&&((a0.bd.a1==0)&&((a0.bd.a2==0)&&true)))=true then(if((a0.aY.a0==0)&&((a0.aY.a1==0)&&((a0.aY.a2==0)&&true)))=true then((bA (a0.bN.length:Int) 1 128).bind fun x19=>if x19=true then((ca a0.bN).bind fun x21=>if x21=true then((cN a0.bN).bind fun x23=>if(x23 != 0)=true then((bA a0.bt 1 64).bind fun x25=>if x25=true then((bA a0.bR 0 40).bind fun x27=>some x27)else(some false))else(some false))else(some false))else(some false))else(some false))else(some false))else(some false))))else(if(a0.b8==0)=true then(some false)else(if(a0.b8==1)=true then(some false)else(if(a0.b8==2)=true then(if((a0.bd.a0==0)&&((a0.bd.a1==0)&&((a0.bd.a2==0)&&true)))=true then(if((a0.aY.a0==0)&&((a0.aY.a1==0)&&((a0.aY.a2==0)&&true)))=true then((bA (a0.bN.length:Int) 1 128).bind fun x33=>if x33=true then((ca a0.bN).bind fun x35=>if x35=true then((cN a0.bN).bind fun x37=>if(x37 != 0)=true then((bA a0.bt 1 64).bind fun x39=>if x39=true then((bA a0.bR 0 40).bind fun x41=>some x41)else(some false))else(some false))else(some false))else(some false))else(some false))else(some false))else(some false)))))else(if(a0.b8==0)=true then(some false)else(if(a0.b8==1)=true then(some false)else(if(a0.b8==2)=true then(if((a0.bd.a0==0)&&((a0.bd.a1==0)&&((a0.bd.a2==0)&&true)))=true then(if((a0.aY.a0==0)&&((a0.aY.a1==0)&&((a0.aY.a2==0)&&true)))=true then((bA (a0.bN.length:Int) 1 128).bind fun x47=>if x47=true then((ca a0.bN).bind fun x49=>if x49=true then((cN a0.bN).bind fun x51=>if(x51 != 0)=true then((bA a0.bt 1 64).bind fun x53=>if x53=true then((bA a0.bR 0 40).bind fun x55=>some x55)else(some false))else(some false))else(some false))else(some false))else(some false))else(some false))else(some false))))
def dQ(a0:aD):Option (Bool):=
  (cf a0).bind fun x1=>some (!x1)
def bI(a0:(List aD)):Int->Option (fR (Int) ((Unit)⊕(Int))):=fun s1=>
  if(decide (s1<(a0.length:Int)))=true then((eV a0 s1).bind fun x4=>(dQ x4).bind fun x5=>if x5=true then(some (.stop (.inr s1)))else(some (.next (IntKind.wrap .i64 (s1+1)))))else(some (.stop (.inl ())))
def cr(a0:(List aD)):Option (Int):=
  (dW (bI a0) 0).bind fun o8=>match o8 with| .inl _=>(some (-1))| .inr r10=>(some r10)
def bH(a0:(List aD)):Option (Bool):=
  (cr a0).bind fun x1=>some (decide (x1>=0))
def dU(a0:(List aD)):(Int×Int)->Option (fR (Int×Int) ((Int)⊕(Int))):=fun(s1,s2)=>
  if(decide (s2<(a0.length:Int)))=true then((eV a0 s2).bind fun x6=>if(x6.b8 != 2)=true then(some (.next (s1,(IntKind.wrap .i64 (s2+1)))))else(if(decide ((IntKind.wrap .i64 (s1*x6.bt))>64))=true then(some (.stop (.inr 0)))else(some (.next ((IntKind.wrap .i64 (s1*x6.bt)),(IntKind.wrap .i64 (s2+1)))))))else(some (.stop (.inl s1)))
def dS(a0:(List aD)):Option (Int):=
  (dW (dU a0) (1,0)).bind fun o10=>match o10 with| .inl y11=>(some y11)| .inr r12=>(some r12)
def dM(a0:aL):Option (Bool):=
  if(decide ((a0.aV.length:Int)>8))=true then(some false)else((bH a0.aV).bind fun x2=>if x2=true then(some false)else((dS a0.aV).bind fun x4=>some (decide (x4>0))))
def de(a0:Int)(a1:Int)(a2:Int):Option (Bool):=
  if(decide (a0>=a1))=true then(some (decide (a0<=a2)))else(some false)
def cH(a0:ap):Option (Bool):=
  if(decide (a0.bj>=0))=true then(if(decide (a0.bj<a0.fTo))=true then(if(decide (a0.fTo<=9007199254740992))=true then((iO a0.di).bind fun x4=>if x4=true then((dM a0.bu).bind fun x6=>if x6=true then((de a0.aP.fX (-1048576) 1048576).bind fun x8=>if x8=true then((de a0.aP.fY (-1048576) 1048576).bind fun x10=>if x10=true then((de a0.aP.fZ (-16384) 1048576).bind fun x12=>some x12)else(some false))else(some false))else(some false))else(some false))else(some false))else(some false))else(some false)
def cJ(a0:(List ap)):Int->Option (fR (Int) ((Unit)⊕(Bool))):=fun s1=>
  if(decide (s1<(a0.length:Int)))=true then((eV a0 s1).bind fun x4=>(cH x4).bind fun x5=>if(!x5)=true then(some (.stop (.inr false)))else(if(decide (s1>0))=true then((eV a0 (IntKind.wrap .i64 (s1-1))).bind fun x8=>if(decide (x4.bj<x8.fTo))=true then(some (.stop (.inr false)))else(some (.next (IntKind.wrap .i64 (s1+1)))))else(some (.next (IntKind.wrap .i64 (s1+1))))))else(some (.stop (.inl ())))
def dD(a0:(List ap)):Option (Bool):=
  (dW (cJ a0) 0).bind fun o11=>match o11 with| .inl _=>((de (a0.length:Int) 1 32).bind fun x14=>some x14)| .inr r13=>(some r13)
def gf(a0:(List UInt8)):Option (Bool):=
  some (!(a0==a0))
def bW(a0:(List UInt8))(a1:(List UInt8)):Option (Int):=
  (gf a0).bind fun x1=>(gf a1).bind fun x2=>if x1=true then(if x2=true then(some 0)else(some (-1)))else(if x2=true then(some 1)else(if(Op.bytesLess a0 a1)=true then(some (-1))else(if(!(Op.bytesLess a0 a1||a0==a1))=true then(some 1)else(some 0))))
def dH(a0:(List Int)):Int->Option (fR (Int) ((Unit)⊕(Int))):=fun s1=>
  if(decide (s1<(a0.length:Int)))=true then((eV a0 s1).bind fun x4=>if(x4 != 0)=true then(some (.stop (.inr x4)))else(some (.next (IntKind.wrap .i64 (s1+1)))))else(some (.stop (.inl ())))
def cM(a0:(List Int)):Option (Int):=
  (dW (dH a0) 0).bind fun o7=>match o7 with| .inl _=>(some 0)| .inr r9=>(some r9)
def ey(a0:au)(a1:au):Option (Int):=
  (bW a0.ba a1.ba).bind fun x1=>(bW a0.aN a1.aN).bind fun x2=>(bW a0.av a1.av).bind fun x3=>(bW a0.bc a1.bc).bind fun x4=>(cM [x1,x2,x3,x4]).bind fun x5=>some x5
def cU(a0:al):Int->Option (fR (Int) ((Unit)⊕(Bool))):=fun s1=>
  if(decide (s1<(a0.aJ.length:Int)))=true then((eV a0.aJ s1).bind fun x4=>(fT x4.aw).bind fun x5=>if(!x5)=true then(some (.stop (.inr false)))else((dD x4.aT).bind fun x7=>if(!x7)=true then(some (.stop (.inr false)))else(if(decide (s1>0))=true then((eV a0.aJ (IntKind.wrap .i64 (s1-1))).bind fun x10=>(ey x10.aw x4.aw).bind fun x11=>if(decide (x11>=0))=true then(some (.stop (.inr false)))else(some (.next (IntKind.wrap .i64 (s1+1)))))else(some (.next (IntKind.wrap .i64 (s1+1)))))))else(some (.stop (.inl ())))
def ch(a0:al):Option (Bool):=
  (dW (cU a0) 0).bind fun o14=>match o14 with| .inl _=>(some (decide ((a0.aJ.length:Int)<=128)))| .inr r16=>(some r16)
def jw(a0:Int):Option (Bool):=
  some (a0 != a0)
def bK(a0:Int)(a1:Int):Option (Int):=
  (jw a0).bind fun x1=>(jw a1).bind fun x2=>if x1=true then(if x2=true then(some 0)else(some (-1)))else(if x2=true then(some 1)else(if(decide (a0<a1))=true then(some (-1))else(if(decide (a0>a1))=true then(some 1)else(some 0))))
def cA(a0:ai)(a1:ai):Option (Int):=
  (ey a0.aw a1.aw).bind fun x1=>(bK a0.bn a1.bn).bind fun x2=>(bK a0.aQ a1.aQ).bind fun x3=>(bK a0.bw a1.bw).bind fun x4=>(bK a0.bg a1.bg).bind fun x5=>(bK a0.bz a1.bz).bind fun x6=>(cM [x1,x2,x3,x4,x5,x6]).bind fun x7=>some x7
def gu(s2:Int)(d0:(List ai)):(Int×Int×(List ai))->Option (fR (Int×Int×(List ai)) (Int×(List ai))):=fun(s13,s14,s15)=>
  (lenV s15.length (0+(s2:Int).toNat) (0+((d0.length:Int):Int).toNat)).bind fun x19=>if(decide (s14<x19))=true then((inV s15.length (0+(s2:Int).toNat) (0+((d0.length:Int):Int).toNat) s14).bind fun _=>(eV s15 (((0+(s2:Int).toNat)+(s14:Int).toNat:Nat):Int)).bind fun x22=>(inV s15.length (0+(s2:Int).toNat) (0+((d0.length:Int):Int).toNat) (IntKind.wrap .i64 (s14-1))).bind fun _=>(eV s15 (((0+(s2:Int).toNat)+((IntKind.wrap .i64 (s14-1)):Int).toNat:Nat):Int)).bind fun x24=>if(!(((x22.aw.ba==x24.aw.ba)&&((x22.aw.aN==x24.aw.aN)&&((x22.aw.av==x24.aw.av)&&((x22.aw.bc==x24.aw.bc)&&true))))&&((x22.bn==x24.bn)&&((x22.aQ==x24.aQ)&&((x22.bw==x24.bw)&&((x22.bg==x24.bg)&&((x22.bz==x24.bz)&&true)))))))=true then((inV s15.length (0+(s2:Int).toNat) (0+((d0.length:Int):Int).toNat) s14).bind fun _=>(eV s15 (((0+(s2:Int).toNat)+(s14:Int).toNat:Nat):Int)).bind fun x27=>(inO s15 s13).bind fun _=>(tS s15 s13 x27).bind fun x30=>some (.next ((IntKind.wrap .i64 (s13+1)),(IntKind.wrap .i64 (s14+1)),x30)))else(some (.next (s13,(IntKind.wrap .i64 (s14+1)),s15))))else(some (.stop (s13,s15)))
def gw(d0:(List ai)):Int->Option (fR (Int) ((Unit)⊕((List ai)))):=fun s2=>
  if(decide (s2<(d0.length:Int)))=true then((inO d0 s2).bind fun _=>(eV d0 s2).bind fun x7=>(inO d0 (IntKind.wrap .i64 (s2-1))).bind fun _=>(eV d0 (IntKind.wrap .i64 (s2-1))).bind fun x10=>if(((x7.aw.ba==x10.aw.ba)&&((x7.aw.aN==x10.aw.aN)&&((x7.aw.av==x10.aw.av)&&((x7.aw.bc==x10.aw.bc)&&true))))&&((x7.bn==x10.bn)&&((x7.aQ==x10.aQ)&&((x7.bw==x10.bw)&&((x7.bg==x10.bg)&&((x7.bz==x10.bz)&&true))))))=true then((xg d0.length s2 (d0.length:Int)).bind fun _=>(dW (gu s2 d0) (s2,1,d0)).bind fun o32=>(xg o32.2.length o32.1 (o32.2.length:Int)).bind fun _=>(zw o32.2.length (0+(o32.1:Int).toNat) (0+((o32.2.length:Int):Int).toNat)).bind fun _=>(xg (uG o32.2 (0+(o32.1:Int).toNat) ((0+((o32.2.length:Int):Int).toNat)-(0+(o32.1:Int).toNat)) (ai.mk (au.mk [] [] [] []) 0 0 0 0 0)).length 0 o32.1).bind fun _=>(yp (uG o32.2 (0+(o32.1:Int).toNat) ((0+((o32.2.length:Int):Int).toNat)-(0+(o32.1:Int).toNat)) (ai.mk (au.mk [] [] [] []) 0 0 0 0 0)) (0+(0:Int).toNat) (0+(o32.1:Int).toNat)).bind fun x37=>some (.stop (.inr x37)))else(some (.next (IntKind.wrap .i64 (s2+1)))))else(some (.stop (.inl ())))
def eO(d0:(List ai)):Option ((List ai)):=
  if(decide ((d0.length:Int)<2))=true then(some d0)else((dW (gw d0) 1).bind fun o39=>match o39 with| .inl _=>(some d0)| .inr r41=>(some r41))
def dE(a0:(List ai)):Option ((List ai)):=
  (sQ 104 a0).bind fun x1=>(wT cA x1).bind fun x2=>(eO x2).bind fun x3=>some x3
def fx(a0:Int)(a1:Int)(a2:Int):Option (Bool):=
  if(decide (a0>=a1))=true then(some (decide (a0<=a2)))else(some false)
def df(a0:ai):Option (Bool):=
  (fT a0.aw).bind fun x1=>if x1=true then(if(decide (a0.aQ>=0))=true then(if(decide (a0.aQ<=a0.bn))=true then(if(decide (a0.bn<=a0.bw))=true then(if(decide (a0.bw<=18014398509481984))=true then((fx a0.bg 0 1073741823).bind fun x7=>if x7=true then((fx a0.bz (-1) 1).bind fun x9=>some x9)else(some false))else(some false))else(some false))else(some false))else(some false))else(some false)
def eH(x1:(List aD)):(Int×(List aD))->Option (fR (Int×(List aD)) ((List aD))):=fun(s2,s3)=>
  if(decide (s2<(x1.length:Int)))=true then((inO s3 s2).bind fun _=>(eV s3 s2).bind fun x9=>(sQ 8 x9.bN).bind fun x10=>(inO s3 s2).bind fun _=>(modO s3 s2 (fun(z14:aD)=>(aD.mk z14.b8 z14.bd z14.aY x10 z14.bt z14.bR))).bind fun x13=>some (.next ((IntKind.wrap .i64 (s2+1)),x13)))else(some (.stop s3))
def dP(a0:ap):Option (ap):=
  (sQ 96 a0.bu.aV).bind fun x1=>(dW (eH x1) (0,x1)).bind fun o16=>some (ap.mk a0.bj a0.fTo a0.di a0.aP (aL.mk o16))
def ed(x1:(List ap)):(Int×(List ap))->Option (fR (Int×(List ap)) ((List ap))):=fun(s2,s3)=>
  if(decide (s2<(x1.length:Int)))=true then((inO s3 s2).bind fun _=>(eV s3 s2).bind fun x9=>(dP x9).bind fun x10=>(inO s3 s2).bind fun _=>(tS s3 s2 x10).bind fun x13=>some (.next ((IntKind.wrap .i64 (s2+1)),x13)))else(some (.stop s3))
def fb(a0:aq):Option (aq):=
  (sQ 80 a0.aT).bind fun x1=>(dW (ed x1) (0,x1)).bind fun o15=>some (aq.mk a0.aw o15)
def fF(a0:al)(a1:au):Int->Option (fR (Int) ((Unit)⊕(aq×Bool))):=fun s1=>
  if(decide (s1<(a0.aJ.length:Int)))=true then((eV a0.aJ s1).bind fun x4=>if((x4.aw.ba==a1.ba)&&((x4.aw.aN==a1.aN)&&((x4.aw.av==a1.av)&&((x4.aw.bc==a1.bc)&&true))))=true then((fb x4).bind fun x6=>some (.stop (.inr (x6,true))))else(some (.next (IntKind.wrap .i64 (s1+1)))))else(some (.stop (.inl ())))
def gh(a0:al)(a1:au):Option (aq×Bool):=
  (dW (fF a0 a1) 0).bind fun o8=>match o8 with| .inl _=>(some ((aq.mk (au.mk [] [] [] []) []),false))| .inr r10=>(some r10)
def jJ(a0:aq)(a1:Int):Int->Option (fR (Int) ((Unit)⊕(ap×Bool))):=fun s1=>
  if(decide (s1<(a0.aT.length:Int)))=true then((eV a0.aT s1).bind fun x4=>if(decide (x4.bj<=a1))=true then(if(decide (a1<x4.fTo))=true then(some (.stop (.inr (x4,true))))else(some (.next (IntKind.wrap .i64 (s1+1)))))else(some (.next (IntKind.wrap .i64 (s1+1)))))else(some (.stop (.inl ())))
def jg(a0:aq)(a1:Int):Option (ap×Bool):=
  (dW (jJ a0 a1) 0).bind fun o8=>match o8 with| .inl _=>(some ((ap.mk 0 0 (bi.mk 0 0) (aa.mk 0 0 0) (aL.mk [])),false))| .inr r10=>(some r10)
def fD(a0:al)(a1:au)(a2:Int):Option (ap×Int):=
  (ch a0).bind fun x1=>if(!x1)=true then(some ((ap.mk 0 0 (bi.mk 0 0) (aa.mk 0 0 0) (aL.mk [])),1))else((gh a0 a1).bind fun x3=>(jg x3.1 a2).bind fun x4=>if(!x4.2)=true then(some ((ap.mk 0 0 (bi.mk 0 0) (aa.mk 0 0 0) (aL.mk [])),6))else(some (x4.1,0)))
def da(a0:ar)(a1:al)(a2:ai):Option (aj×ap×Bool):=
  (df a2).bind fun x1=>if(!x1)=true then(some ((aj.mk (aa.mk 0 0 0) 0 0 0),(ap.mk 0 0 (bi.mk 0 0) (aa.mk 0 0 0) (aL.mk [])),false))else((fD a1 a2.aw a2.bn).bind fun x3=>if(x3.2 != 0)=true then(some ((aj.mk (aa.mk 0 0 0) 0 0 0),(ap.mk 0 0 (bi.mk 0 0) (aa.mk 0 0 0) (aL.mk [])),false))else((du a0.ae.aW a0.ae.aM (aj.mk x3.1.aP a2.aQ a2.bw 1)).bind fun x5=>if(x5.2 != 0)=true then(some ((aj.mk (aa.mk 0 0 0) 0 0 0),(ap.mk 0 0 (bi.mk 0 0) (aa.mk 0 0 0) (aL.mk [])),false))else(some ((aj.mk x3.1.aP a2.aQ a2.bw 1),x3.1,true))))
def jS(a0:ar)(a1:al)(a2:ai):Option (aj×Bool):=
  (eJ a0).bind fun x1=>if(x1 != 0)=true then(some ((aj.mk (aa.mk 0 0 0) 0 0 0),false))else((ch a1).bind fun x3=>if(!x3)=true then(some ((aj.mk (aa.mk 0 0 0) 0 0 0),false))else((da a0 a1 a2).bind fun x5=>some (x5.1,x5.2.2)))
def ld(x5:(List ai))(a0:ar)(a1:al):(Int×(List ai)×(List aj))->Option (fR (Int×(List ai)×(List aj)) ((List ai)×(List aj))):=fun(s6,s7,s8)=>
  if(decide (s6<(x5.length:Int)))=true then((eV x5 s6).bind fun x13=>(jS a0 a1 x13).bind fun x14=>if x14.2=true then((pS s7 [x13] 104).bind fun x16=>(pS s8 [x14.1] 48).bind fun x17=>some (.next ((IntKind.wrap .i64 (s6+1)),x16,x17)))else(some (.next ((IntKind.wrap .i64 (s6+1)),s7,s8))))else(some (.stop (s7,s8)))
def mD(a0:ar)(a1:al)(a2:(List ai)):Option ((List ai)×(List aj)×Int):=
  (eJ a0).bind fun x1=>if(x1 != 0)=true then(some (([]:(List ai)),([]:(List aj)),27))else((ch a1).bind fun x3=>if(!x3)=true then(some (([]:(List ai)),([]:(List aj)),1))else((dE a2).bind fun x5=>(dW (ld x5 a0 a1) (0,([]:(List ai)),([]:(List aj)))).bind fun o19=>if(decide ((o19.1.length:Int)>256))=true then(some (([]:(List ai)),([]:(List aj)),8))else(some (o19.1,o19.2,0))))
def dT(a0:aa)(a1:aa):Option (Int):=
  (bK a0.fX a1.fX).bind fun x1=>(bK a0.fY a1.fY).bind fun x2=>(bK a0.fZ a1.fZ).bind fun x3=>(cM [x1,x2,x3]).bind fun x4=>some x4
def iy(a0:aj)(a1:aj):Option (Int):=
  (bK a0.aQ a1.aQ).bind fun x1=>(bK a0.bw a1.bw).bind fun x2=>(dT a0.aN a1.aN).bind fun x3=>(bK a0.bJ a1.bJ).bind fun x4=>(cM [x1,x2,x3,x4]).bind fun x5=>some x5
def fA(a0:Int)(a1:Int)(d0:(List aj)):Option (Int):=
  (eV d0 a0).bind fun x1=>(eV d0 a1).bind fun x2=>(iy x1 x2).bind fun x3=>some x3
def iw(a0:Int)(d1:(List aj))(s1:Int):(Int×(List Int))->Option (fR (Int×(List Int)) (Int×(List Int))):=fun(s5,s6)=>
  if(decide (s5>a0))=true then((inO s6 s5).bind fun _=>(eV s6 s5).bind fun x13=>(inO s6 (IntKind.wrap .i64 (s5-1))).bind fun _=>(eV s6 (IntKind.wrap .i64 (s5-1))).bind fun x16=>(fA x13 x16 d1).bind fun x17=>if(decide (x17<0))=true then((inO s6 (IntKind.wrap .i64 (s5-1))).bind fun _=>(eV s6 (IntKind.wrap .i64 (s5-1))).bind fun x21=>(inO s6 s5).bind fun _=>(eV s6 s5).bind fun x24=>(inO s6 s5).bind fun _=>(tS s6 s5 x21).bind fun x27=>(inO x27 (IntKind.wrap .i64 (s5-1))).bind fun _=>(tS x27 (IntKind.wrap .i64 (s5-1)) x24).bind fun x30=>some (.next ((IntKind.wrap .i64 (s5-1)),x30)))else(some (.stop (s1,s6))))else(some (.stop (s1,s6)))
def ix(a1:Int)(a0:Int)(d1:(List aj)):(Int×(List Int))->Option (fR (Int×(List Int)) ((List Int))):=fun(s1,s2)=>
  if(decide (s1<a1))=true then((dW (iw a0 d1 s1) (s1,s2)).bind fun o32=>some (.next ((IntKind.wrap .i64 (o32.1+1)),o32.2)))else((some s2).bind fun z33=>some (.stop z33))
def cv(a0:Int)(a1:Int)(d0:(List Int))(d1:(List aj)):Option ((List Int)):=
  (dW (ix a1 a0 d1) ((IntKind.wrap .i64 (a0+1)),d0)).bind fun o35=>some o35
def fQ(a0:Int)(d1:(List aj)):(Int×Int×(List Int))->Option (fR (Int×Int×(List Int)) (Int×(List Int))):=fun(s1,s2,s3)=>
  if(decide (s2<=a0))=true then((cv s1 s2 s3 d1).bind fun x8=>some (.next (s2,(IntKind.wrap .i64 (s2+20)),x8)))else(some (.stop (s1,s3)))
def ku(s12:Int)(a0:Int):Unit->Option (fR (Unit) (Int)):=fun _=>
  if(decide ((IntKind.wrap .i64 (2*s12))<=a0))=true then(none)else(some (.stop s12))
def fo(a0:Int)(x11:(List Int)):Int->Option (fR (Int) ((List Int))):=fun s12=>
  if(decide (s12<a0))=true then((dW (ku s12 a0) ()).bind fun o19=>if(decide ((IntKind.wrap .i64 (0+o19))<a0))=true then(none)else(some (.next (IntKind.wrap .i64 (o19*2)))))else((some x11).bind fun z21=>some (.stop z21))
def ew(a0:Int)(d0:(List Int))(d1:(List aj)):Option ((List Int)):=
  (dW (fQ a0 d1) (0,20,d0)).bind fun o10=>(cv o10.1 a0 o10.2 d1).bind fun x11=>(dW (fo a0 x11) 20).bind fun o23=>some o23
def dh(d0:(List Int))(d1:(List aj)):Option ((List Int)):=
  (ew (d0.length:Int) d0 d1).bind fun x1=>some x1
def mq(x1:(List Int)):(Int×(List Int))->Option (fR (Int×(List Int)) ((List Int))):=fun(s2,s3)=>
  if(decide (s2<(x1.length:Int)))=true then((inO s3 s2).bind fun _=>(tS s3 s2 s2).bind fun x9=>some (.next ((IntKind.wrap .i64 (s2+1)),x9)))else(some (.stop s3))
def jE(a0:(List aj)):Option ((List Int)):=
  (mkO (a0.length:Int) 0 8).bind fun x1=>(dW (mq x1) (0,x1)).bind fun o11=>(dh o11 a0).bind fun x12=>some x12
def kz(a0:Int):(Int×(List Int)×(List Int))->Option (fR (Int×(List Int)×(List Int)) ((List Int)×(List Int))):=fun(s3,s4,s5)=>
  if(decide (s3<(IntKind.wrap .i64 (a0+1))))=true then((vN (IntKind.wrap .i64 (s3+1)) (IntKind.wrap .i64 (a0+1))).bind fun x10=>(vN (IntKind.wrap .i64 (s3+1)) (IntKind.wrap .i64 (a0+1))).bind fun x11=>(inO s4 s3).bind fun _=>(tS s4 s3 x11).bind fun x14=>(inO s5 x10).bind fun _=>(tS s5 x10 s3).bind fun x17=>some (.next ((IntKind.wrap .i64 (s3+1)),x14,x17)))else(some (.stop (s4,s5)))
def gD(a0:Int):Option (bp):=
  (mkO (IntKind.wrap .i64 (a0+1)) 0 8).bind fun x1=>(mkO (IntKind.wrap .i64 (a0+1)) 0 8).bind fun x2=>(dW (kz a0) (0,x1,x2)).bind fun o19=>some (bp.mk o19.1 o19.2)
def jc(a0:bp):Option (Int):=
  some (IntKind.wrap .i64 ((a0.n8.length:Int)-1))
def cB(d0:(List Int))(d1:(List Int))(a3:(List Int))(a2:(List aj))(x4:Int)(a1:aG):(Int×(List Int))->Option (fR (Int×(List Int)) ((List Int))):=fun(s5,s6)=>
  (jc (bp.mk d0 d1)).bind fun x9=>if(s5 != x9)=true then(if(decide ((s6.length:Int)<16))=true then((eV a3 s5).bind fun x12=>(eV a2 x12).bind fun x13=>(eV a3 x4).bind fun x14=>(eV a2 x14).bind fun x15=>if(decide ((IntKind.wrap .i64 (x13.aQ-x15.aQ))<=a1.dC))=true then((pS s6 [s5] 8).bind fun x17=>(inO d0 s5).bind fun _=>(eV d0 s5).bind fun x20=>some (.next (x20,x17)))else(some (.stop s6)))else(some (.stop s6)))else(some (.stop s6))
def lH(a1:aG)(a2:(List aj))(a3:(List Int))(d0:(List Int))(d1:(List Int)):Option ((List Int)×(List Int)×(List Int)):=
  (jc (bp.mk d0 d1)).bind fun x1=>(inO d0 x1).bind fun _=>(eV d0 x1).bind fun x4=>(dW (cB d0 d1 a3 a2 x4 a1) (x4,([]:(List Int)))).bind fun o22=>some (o22,d0,d1)
def eC(a0:aG)(a1:(List aj)):Option (ah):=
  some (ah.mk a0.aM a0.aW a1 a0.cG)
def mA(a0:ah):Int->Option (fR (Int) ((Unit)⊕(Int))):=fun s9=>
  if(decide (s9<(a0.a7.length:Int)))=true then((eV a0.a7 s9).bind fun x12=>(du a0.aW a0.aM x12).bind fun x13=>if(x13.2 != 0)=true then(some (.stop (.inr x13.2)))else(some (.next (IntKind.wrap .i64 (s9+1)))))else(some (.stop (.inl ())))
def gX(a0:ah):Option (Int):=
  (bD a0.aM).bind fun x1=>if(!x1)=true then(some 20)else((cQ a0.aW).bind fun x3=>if(x3 != 0)=true then(some x3)else(if((a0.a7.length:Int)==0)=true then(some 24)else(if(decide ((a0.a7.length:Int)>64))=true then(some 8)else(if(decide (a0.cG<1))=true then(some 2)else(if(decide (a0.cG>1099511627776))=true then(some 2)else((dW (mA a0) 0).bind fun o16=>match o16 with| .inl _=>(some 0)| .inr r18=>(some r18)))))))
def fC(a0:ag)(a1:aa):Option (Bool):=
  (bD a0).bind fun x1=>if x1=true then((c6 a1).bind fun x3=>if x3=true then((eZ a0 a1).bind fun x5=>some (x5==0))else(some false))else(some false)
def jI(a0:ag)(a1:ag):Option (Bool):=
  (bD a0).bind fun x1=>if x1=true then((fC a1 a0.aI).bind fun x3=>if x3=true then((fC a1 a0.aC).bind fun x5=>some x5)else(some false))else(some false)
def lu(a0:ah)(a1:ag):(Int×(List aK))->Option (fR (Int×(List aK)) (((List aK))⊕((List aK)×Int))):=fun(s2,s3)=>
  if(decide (s2<(a0.a7.length:Int)))=true then((eV a0.a7 s2).bind fun x7=>(du a0.aW a1 x7).bind fun x8=>if(x8.2 != 0)=true then(some (.stop (.inr (([]:(List aK)),x8.2))))else((pS s3 [x8.1] 16).bind fun x10=>some (.next ((IntKind.wrap .i64 (s2+1)),x10))))else(some (.stop (.inl s3)))
def mF(a0:ah)(a1:ag):Option ((List aK)×Int):=
  (mkCO 0 (a0.a7.length:Int) (aK.mk 0 0) 16).bind fun x1=>(dW (lu a0 a1) (0,x1)).bind fun o12=>match o12 with| .inl y13=>(some (y13,0))| .inr r14=>(some r14)
def fI(a0:ah)(a1:ag):Option ((List aK)×Int):=
  (gX a0).bind fun x1=>if(x1 != 0)=true then(some (([]:(List aK)),x1))else((jI a1 a0.aM).bind fun x3=>if(!x3)=true then(some (([]:(List aK)),20))else((mF a0 a1).bind fun x5=>some (x5.1,x5.2)))
def fw(a0:aK)(a1:Int):Option (Int):=
  some (if 0>(if(IntKind.wrap .i64 (a1-a0.fTo))>(IntKind.wrap .i64 (a0.bj-a1))then(IntKind.wrap .i64 (a1-a0.fTo))else(IntKind.wrap .i64 (a0.bj-a1)))then 0 else(if(IntKind.wrap .i64 (a1-a0.fTo))>(IntKind.wrap .i64 (a0.bj-a1))then(IntKind.wrap .i64 (a1-a0.fTo))else(IntKind.wrap .i64 (a0.bj-a1))))
def mh(a0:ah)(a1:(List aK))(a2:Int):(Int×Int)->Option (fR (Int×Int) (Int)):=fun(s1,s2)=>
  if(decide (s2<(a0.a7.length:Int)))=true then((eV a0.a7 s2).bind fun x6=>if(decide (s2<(a1.length:Int)))=true then((eV a1 s2).bind fun x8=>(fw x8 a2).bind fun x9=>some (.next ((IntKind.wrap .i64 (s1+(IntKind.wrap .i64 (x6.bJ*(if x9<a0.cG then x9 else a0.cG))))),(IntKind.wrap .i64 (s2+1)))))else(some (.next (s1,(IntKind.wrap .i64 (s2+1))))))else(some (.stop s1))
def iJ(a0:ah)(a1:(List aK))(a2:Int):Option (Int):=
  (dW (mh a0 a1 a2) (0,0)).bind fun o11=>some o11
def m5(a1:(List aK)):(Int×(List Int))->Option (fR (Int×(List Int)) ((List Int))):=fun(s2,s3)=>
  if(decide (s2<(a1.length:Int)))=true then((eV a1 s2).bind fun x7=>(pS s3 [x7.bj,x7.fTo] 8).bind fun x8=>some (.next ((IntKind.wrap .i64 (s2+1)),x8)))else(some (.stop s3))
def mg(x20:Int)(o10:(List Int))(a0:ah)(a1:(List aK)):(Int×Int×Int)->Option (fR (Int×Int×Int) (Int×Int)):=fun(s21,s22,s23)=>
  if(decide (s23<x20))=true then((inV o10.length (0+(1:Int).toNat) (0+((o10.length:Int):Int).toNat) s23).bind fun _=>(eV o10 (((0+(1:Int).toNat)+(s23:Int).toNat:Nat):Int)).bind fun x29=>(iJ a0 a1 x29).bind fun x30=>if(decide (x30<s22))=true then(some (.next (x29,x30,(IntKind.wrap .i64 (s23+1)))))else(if(x30==s22)=true then(if(decide (x29<s21))=true then(some (.next (x29,x30,(IntKind.wrap .i64 (s23+1)))))else(some (.next (s21,s22,(IntKind.wrap .i64 (s23+1))))))else(some (.next (s21,s22,(IntKind.wrap .i64 (s23+1)))))))else(some (.stop (s21,s22)))
def iI(a0:ah)(a1:(List aK)):Option (Int×Int):=
  (mkCO 0 (IntKind.wrap .i64 (2*(a1.length:Int))) 0 8).bind fun x1=>(dW (m5 a1) (0,x1)).bind fun o10=>if((o10.length:Int)==0)=true then(some (0,0))else((inO o10 0).bind fun _=>(eV o10 0).bind fun x14=>(inO o10 0).bind fun _=>(eV o10 0).bind fun x17=>(iJ a0 a1 x17).bind fun x18=>(xg o10.length 1 (o10.length:Int)).bind fun _=>(lenV o10.length (0+(1:Int).toNat) (0+((o10.length:Int):Int).toNat)).bind fun x20=>(dW (mg x20 o10 a0 a1) (x14,x18,0)).bind fun o35=>some (o35.1,o35.2))
def eT(a0:ah)(a1:ag):Option (Int×Int):=
  (fI a0 a1).bind fun x1=>if(x1.2 != 0)=true then(some (0,x1.2))else((iI a0 x1.1).bind fun x3=>some (x3.2,0))
def oN(a0:am)(e1:ah)(e2:Int)(e3:Int)(e4:Bool)(e5:ak):Option ((List am)):=
  (pS ([]:List am) [a0] 64).bind fun x1=>some x1
def ik(a0:(List am)):Option (Int):=
  some (a0.length:Int)
def iM(a0:(List am))(a1:Int)(a2:Int):Option (Bool):=
  (eV a0 a1).bind fun x1=>(eV a0 a2).bind fun x2=>(bK x1.cu x2.cu).bind fun x3=>(eV a0 a1).bind fun x4=>(eV a0 a2).bind fun x5=>(bK x4.gE x5.gE).bind fun x6=>(cM [x3,x6]).bind fun x7=>some (decide (x7<0))
def iN(a1:Int)(a2:Int)(d0:(List am)):Option ((List am)):=
  (inO d0 a2).bind fun _=>(eV d0 a2).bind fun x3=>(inO d0 a1).bind fun _=>(eV d0 a1).bind fun x6=>(inO d0 a1).bind fun _=>(tS d0 a1 x3).bind fun x9=>(inO x9 a2).bind fun _=>(tS x9 a2 x6).bind fun x12=>some x12
def nv:(Int×(List am))->Option (fR (Int×(List am)) ((List am))):=fun(s1,s2)=>
  (su .i64 (IntKind.wrap .i64 (s1-1)) 2).bind fun x4=>if(x4==s1)=true then((some s2).bind fun z6=>some (.stop z6))else((iM s2 s1 x4).bind fun x7=>if(!x7)=true then((some s2).bind fun z9=>some (.stop z9))else((iN x4 s1 s2).bind fun x10=>some (.next (x4,x10))))
def oE(a0:Int)(e1:ah)(e2:Int)(e3:Int)(e4:Bool)(e5:ak)(d1:(List am)):Option ((List am)):=
  (dW (nv) (a0,d1)).bind fun o12=>some o12
def mM(a0:am)(e1:ah)(e2:Int)(e3:Int)(e4:Bool)(e5:ak):Option ((List am)):=
  (oN a0 e1 e2 e3 e4 e5).bind fun x1=>(ik x1).bind fun x2=>(oE (IntKind.wrap .i64 (x2-1)) e1 e2 e3 e4 e5 x1).bind fun x3=>some x3
def jC(x1:Int×Int)(j2:Int)(j3:(List am)):Option (Int×(List am)×Int):=
  some (x1.2,j3,j2)
def lz(a0:ag)(e1:ah)(e2:Int)(e3:Int)(e4:Bool)(e5:ak):Option (Int×(List am)×Int):=
  (eT e1 a0).bind fun x1=>if(x1.2==0)=true then((mM (am.mk a0 x1.1 e2) e1 e2 e3 e4 e5).bind fun x6=>jC x1 (IntKind.wrap .i64 (e2+1)) x6)else(jC x1 e2 ([]:List am))
def jn(a0:Int)(e1:ah)(e2:Int)(e3:Int)(e4:Bool)(e5:ak)(d1:(List am)):Option (Bool):=
  if((d1.length:Int)==0)=true then(some true)else(if e4=true then((inO d1 0).bind fun _=>(eV d1 0).bind fun x5=>some (decide ((IntKind.wrap .i64 (e5.bq-x5.cu))<=a0)))else(some false))
def e7(s2:(List am))(s1:Int)(j8:Int):Option (fR (Int×(List am)) (Int×(List am))):=
  (iM s2 j8 s1).bind fun x9=>if(!x9)=true then(some (.stop (s1,s2)))else((iN s1 j8 s2).bind fun x11=>some (.next (j8,x11)))
def nR(a1:Int):(Int×(List am))->Option (fR (Int×(List am)) (Int×(List am))):=fun(s1,s2)=>
  if(decide ((IntKind.wrap .i64 ((IntKind.wrap .i64 (2*s1))+1))>=a1))=true then(some (.stop (s1,s2)))else(if(decide ((IntKind.wrap .i64 ((IntKind.wrap .i64 (2*s1))+1))<0))=true then(some (.stop (s1,s2)))else(if(decide ((IntKind.wrap .i64 ((IntKind.wrap .i64 ((IntKind.wrap .i64 (2*s1))+1))+1))<a1))=true then((iM s2 (IntKind.wrap .i64 ((IntKind.wrap .i64 ((IntKind.wrap .i64 (2*s1))+1))+1)) (IntKind.wrap .i64 ((IntKind.wrap .i64 (2*s1))+1))).bind fun x14=>if x14=true then(e7 s2 s1 (IntKind.wrap .i64 ((IntKind.wrap .i64 ((IntKind.wrap .i64 (2*s1))+1))+1)))else(e7 s2 s1 (IntKind.wrap .i64 ((IntKind.wrap .i64 (2*s1))+1))))else(e7 s2 s1 (IntKind.wrap .i64 ((IntKind.wrap .i64 (2*s1))+1)))))
def mN(a0:Int)(a1:Int)(e2:ah)(e3:Int)(e4:Int)(e5:Bool)(e6:ak)(d1:(List am)):Option (Bool×(List am)):=
  (dW (nR a1) (a0,d1)).bind fun o17=>some ((decide (o17.1>a0)),o17.2)
def qd(e0:ah)(e1:Int)(e2:Int)(e3:Bool)(e4:ak)(d1:(List am)):Option (am×(List am)):=
  (inO d1 (IntKind.wrap .i64 ((d1.length:Int)-1))).bind fun _=>(eV d1 (IntKind.wrap .i64 ((d1.length:Int)-1))).bind fun x3=>(xg d1.length 0 (IntKind.wrap .i64 ((d1.length:Int)-1))).bind fun _=>some (x3,(d1.take ((IntKind.wrap .i64 ((d1.length:Int)-1)):Int).toNat))
def n9(e0:ah)(e1:Int)(e2:Int)(e3:Bool)(e4:ak)(d1:(List am)):Option (am×(List am)):=
  (ik d1).bind fun x1=>(iN 0 (IntKind.wrap .i64 (x1-1)) d1).bind fun x2=>(mN 0 (IntKind.wrap .i64 (x1-1)) e0 e1 e2 e3 e4 x2).bind fun x3=>(qd e0 e1 e2 e3 e4 x3.2).bind fun x4=>some (x4.1,x4.2)
def bP(a0:Int)(a1:Int):Option (Int):=
  (su .i64 (IntKind.wrap .i64 (a1-a0)) 2).bind fun x1=>some (IntKind.wrap .i64 (a0+x1))
def bG(a0:aS):Option (aa):=
  some (aa.mk a0.a0 a0.a1 a0.a2)
def fu(a0:ag):Option (aa):=
  (bD a0).bind fun x1=>if(!x1)=true then(some (aa.mk 0 0 0))else((bB a0.aI).bind fun x3=>(bB a0.aC).bind fun x4=>(bP x3.a0 x4.a0).bind fun x5=>(bP x3.a1 x4.a1).bind fun x6=>(bP x3.a2 x4.a2).bind fun x7=>(bG (aS.mk x5 x6 x7)).bind fun x8=>some x8)
def ij(a0:ah)(a1:aa):Option (Int×Int×Int):=
  (fI a0 (ag.mk a1 a1)).bind fun x1=>if(x1.2 != 0)=true then(some (0,0,x1.2))else((iI a0 x1.1).bind fun x3=>some (x3.1,x3.2,0))
def kk(a0:ag)(e1:ah)(e2:Int)(e3:Int)(e4:Bool)(e5:ak)(d1:(List am)):Option (Int×Bool×ak):=
  (fu a0).bind fun x1=>(ij e1 x1).bind fun x2=>if(x2.2.2 != 0)=true then(some (x2.2.2,e4,e5))else(if(!e4)=true then(some (0,true,(ak.mk x1 x2.1 x2.2.1 0 (ag.mk (aa.mk 0 0 0) (aa.mk 0 0 0)))))else(if(decide (x2.2.1<e5.bq))=true then(some (0,true,(ak.mk x1 x2.1 x2.2.1 0 (ag.mk (aa.mk 0 0 0) (aa.mk 0 0 0)))))else(if(x2.2.1==e5.bq)=true then((dT x1 e5.aX).bind fun x7=>if(decide (x7<0))=true then(some (0,true,(ak.mk x1 x2.1 x2.2.1 0 (ag.mk (aa.mk 0 0 0) (aa.mk 0 0 0)))))else(some (0,e4,e5)))else(some (0,e4,e5)))))
def jH(a0:ag):Option (Int):=
  (bD a0).bind fun x1=>if(!x1)=true then(some 0)else((bB a0.aC).bind fun x3=>(bB a0.aI).bind fun x4=>some (IntKind.wrap .i64 ((IntKind.wrap .i64 ((IntKind.wrap .i64 (1*(IntKind.wrap .i64 ((IntKind.wrap .i64 (x3.a0-x4.a0))+1))))*(IntKind.wrap .i64 ((IntKind.wrap .i64 (x3.a1-x4.a1))+1))))*(IntKind.wrap .i64 ((IntKind.wrap .i64 (x3.a2-x4.a2))+1)))))
def fg(a0:ag):Option (ag×ag×Bool):=
  (jH a0).bind fun x1=>if(decide (x1<2))=true then(some ((ag.mk (aa.mk 0 0 0) (aa.mk 0 0 0)),(ag.mk (aa.mk 0 0 0) (aa.mk 0 0 0)),false))else((bB a0.aI).bind fun x3=>(bB a0.aC).bind fun x4=>if(decide ((IntKind.wrap .i64 (x4.a1-x3.a1))>(IntKind.wrap .i64 (x4.a0-x3.a0))))=true then(if(decide ((IntKind.wrap .i64 (x4.a2-x3.a2))>(IntKind.wrap .i64 (x4.a1-x3.a1))))=true then((bP x3.a2 x4.a2).bind fun x7=>(bG (aS.mk x4.a0 x4.a1 x7)).bind fun x8=>(bG (aS.mk x3.a0 x3.a1 (IntKind.wrap .i64 (x7+1)))).bind fun x9=>some ((ag.mk a0.aI x8),(ag.mk x9 a0.aC),true))else((bP x3.a1 x4.a1).bind fun x10=>(bG (aS.mk x4.a0 x10 x4.a2)).bind fun x11=>(bG (aS.mk x3.a0 (IntKind.wrap .i64 (x10+1)) x3.a2)).bind fun x12=>some ((ag.mk a0.aI x11),(ag.mk x12 a0.aC),true)))else(if(decide ((IntKind.wrap .i64 (x4.a2-x3.a2))>(IntKind.wrap .i64 (x4.a0-x3.a0))))=true then((bP x3.a2 x4.a2).bind fun x14=>(bG (aS.mk x4.a0 x4.a1 x14)).bind fun x15=>(bG (aS.mk x3.a0 x3.a1 (IntKind.wrap .i64 (x14+1)))).bind fun x16=>some ((ag.mk a0.aI x15),(ag.mk x16 a0.aC),true))else((bP x3.a0 x4.a0).bind fun x17=>(bG (aS.mk x17 x4.a1 x4.a2)).bind fun x18=>(bG (aS.mk (IntKind.wrap .i64 (x17+1)) x3.a1 x3.a2)).bind fun x19=>some ((ag.mk a0.aI x18),(ag.mk x19 a0.aC),true))))
def nB(a0:am)(e1:ah)(e2:Int)(e3:Int)(e4:Bool)(e5:ak)(d1:(List am)):Option ((List am)):=
  (pS d1 [a0] 64).bind fun x1=>some x1
def lk(a0:am)(e1:ah)(e2:Int)(e3:Int)(e4:Bool)(e5:ak)(d1:(List am)):Option ((List am)):=
  (nB a0 e1 e2 e3 e4 e5 d1).bind fun x1=>(ik x1).bind fun x2=>(oE (IntKind.wrap .i64 (x2-1)) e1 e2 e3 e4 e5 x1).bind fun x3=>some x3
def iU(x1:Int×Int)(j2:Int)(j3:(List am)):Option (Int×Int×(List am)):=
  some (x1.2,j2,j3)
def iT(a0:ag)(e1:ah)(e2:Int)(e3:Int)(e4:Bool)(e5:ak)(d1:(List am)):Option (Int×Int×(List am)):=
  (eT e1 a0).bind fun x1=>if(x1.2==0)=true then((lk (am.mk a0 x1.1 e2) e1 e2 e3 e4 e5 d1).bind fun x6=>iU x1 (IntKind.wrap .i64 (e2+1)) x6)else(iU x1 e2 d1)
def kl(e0:ah)(e1:Int)(e2:Int)(e3:Bool)(e4:ak)(d1:(List am)):Option (Int×Int×Int×Bool×ak×(List am)):=
  if(e2==3000)=true then(some (25,e1,e2,e3,e4,d1))else((inO d1 0).bind fun _=>(eV d1 0).bind fun x4=>(n9 e0 e1 e2 e3 e4 d1).bind fun x5=>(kk x4.jV e0 e1 (IntKind.wrap .i64 (e2+1)) e3 e4 x5.2).bind fun x6=>if(x6.1 != 0)=true then(some (x6.1,e1,(IntKind.wrap .i64 (e2+1)),x6.2.1,x6.2.2,x5.2))else((fg x4.jV).bind fun x8=>if(!x8.2.2)=true then(some (0,e1,(IntKind.wrap .i64 (e2+1)),x6.2.1,x6.2.2,x5.2))else((iT x8.1 e0 e1 (IntKind.wrap .i64 (e2+1)) x6.2.1 x6.2.2 x5.2).bind fun x10=>if(x10.1 != 0)=true then(some (x10.1,x10.2.1,(IntKind.wrap .i64 (e2+1)),x6.2.1,x6.2.2,x10.2.2))else((iT x8.2.1 e0 x10.2.1 (IntKind.wrap .i64 (e2+1)) x6.2.1 x6.2.2 x10.2.2).bind fun x12=>some (x12.1,x12.2.1,(IntKind.wrap .i64 (e2+1)),x6.2.1,x6.2.2,x12.2.2)))))
def kJ(a1:Int)(a0:ah):(Int×Int×Bool×ak×(List am))->Option (fR (Int×Int×Bool×ak×(List am)) (((List am)×Int×Int×Bool×ak)⊕((Option bO)×Int))):=fun(s6,s7,s8,s9,s10)=>
  (jn a1 a0 s6 s7 s8 s9 s10).bind fun x17=>if(!x17)=true then((kl a0 s6 s7 s8 s9 s10).bind fun x19=>if(x19.1 != 0)=true then(some (.stop (.inr (none,x19.1))))else(some (.next (x19.2.1,x19.2.2.1,x19.2.2.2.1,x19.2.2.2.2.1,x19.2.2.2.2.2))))else(some (.stop (.inl (s10,s6,s7,s8,s9))))
def iG(a0:ah)(a1:Int):Option ((Option bO)×Int):=
  (gX a0).bind fun x1=>if(x1 != 0)=true then(some (none,x1))else(if(decide (a1<0))=true then(some (none,2))else((lz a0.aM a0 0 0 false (ak.mk (aa.mk 0 0 0) 0 0 0 (ag.mk (aa.mk 0 0 0) (aa.mk 0 0 0)))).bind fun x4=>if(x4.1 != 0)=true then(some (none,x4.1))else((dW (kJ a1 a0) (x4.2.2,0,false,(ak.mk (aa.mk 0 0 0) 0 0 0 (ag.mk (aa.mk 0 0 0) (aa.mk 0 0 0))),x4.2.1)).bind fun o22=>match o22 with| .inl y23=>(some ((some (bO.mk a0 y23.1 y23.2.1 y23.2.2.1 y23.2.2.2.1 (ak.mk (aa.mk y23.2.2.2.2.aX.fX y23.2.2.2.2.aX.fY y23.2.2.2.2.aX.fZ) y23.2.2.2.2.bn y23.2.2.2.2.bq y23.2.2.2.2.fq (ag.mk (aa.mk y23.2.2.2.2.bh.aI.fX y23.2.2.2.2.bh.aI.fY y23.2.2.2.2.bh.aI.fZ) (aa.mk y23.2.2.2.2.bh.aC.fX y23.2.2.2.2.bh.aC.fY y23.2.2.2.2.bh.aC.fZ))))),0))| .inr r24=>(some r24))))
def lI(a0:ag)(a1:ag):Option (ag):=
  (bD a0).bind fun x1=>if(!x1)=true then(some (ag.mk (aa.mk 0 0 0) (aa.mk 0 0 0)))else((bD a1).bind fun x3=>if(!x3)=true then(some (ag.mk (aa.mk 0 0 0) (aa.mk 0 0 0)))else((bB a0.aI).bind fun x5=>(bB a0.aC).bind fun x6=>(bB a1.aI).bind fun x7=>(bB a1.aC).bind fun x8=>(bG (aS.mk (if x7.a0<x5.a0 then x7.a0 else x5.a0) (if x7.a1<x5.a1 then x7.a1 else x5.a1) (if x7.a2<x5.a2 then x7.a2 else x5.a2))).bind fun x9=>(bG (aS.mk (if x8.a0>x6.a0 then x8.a0 else x6.a0) (if x8.a1>x6.a1 then x8.a1 else x6.a1) (if x8.a2>x6.a2 then x8.a2 else x6.a2))).bind fun x10=>some (ag.mk x9 x10)))
def kI(y2:bO):(Int×Int×ag)->Option (fR (Int×Int×ag) (Int×ag)):=fun(s5,s6,s7)=>
  if(decide (s5<(y2.kF.length:Int)))=true then((eV y2.kF s5).bind fun x12=>if(decide (x12.cu<y2.bS.bq))=true then((lI s7 x12.jV).bind fun x14=>some (.next ((IntKind.wrap .i64 (s5+1)),(if x12.cu<s6 then x12.cu else s6),x14)))else(some (.next ((IntKind.wrap .i64 (s5+1)),(if x12.cu<s6 then x12.cu else s6),s7))))else(some (.stop (s6,s7)))
def c9(a0:ah)(a1:Int):Option (ak×Int):=
  (iG a0 a1).bind fun x1=>optC x1.1 (if(x1.2 != 0)=true then(some ((ak.mk (aa.mk 0 0 0) 0 0 0 (ag.mk (aa.mk 0 0 0) (aa.mk 0 0 0))),x1.2))else(none)) (fun y2=>if(x1.2 != 0)=true then(some ((ak.mk (aa.mk 0 0 0) 0 0 0 (ag.mk (aa.mk 0 0 0) (aa.mk 0 0 0))),x1.2))else((dW (kI y2) (0,y2.bS.bq,(ag.mk y2.bS.aX y2.bS.aX))).bind fun o16=>some ((ak.mk y2.bS.aX y2.bS.bn y2.bS.bq o16.1 (ag.mk (aa.mk o16.2.aI.fX o16.2.aI.fY o16.2.aI.fZ) (aa.mk o16.2.aC.fX o16.2.aC.fY o16.2.aC.fZ))),0)))
def iK(x1:(List aK)×Int)(a2:Int):(Int×(List Int))->Option (fR (Int×(List Int)) ((List Int))):=fun(s6,s7)=>
  if(decide (s6<(x1.1.length:Int)))=true then((eV x1.1 s6).bind fun x11=>(fw x11 a2).bind fun x12=>(pS s7 [x12] 8).bind fun x13=>some (.next ((IntKind.wrap .i64 (s6+1)),x13)))else(some (.stop s7))
def gm(a0:ah)(a1:aa)(a2:Int):Option ((List Int)×Int):=
  (fI a0 (ag.mk a1 a1)).bind fun x1=>if(x1.2 != 0)=true then(some (([]:(List Int)),x1.2))else(if(decide (a2<(-18014398509481984)))=true then(some (([]:(List Int)),2))else(if(decide (a2>18014398509481984))=true then(some (([]:(List Int)),2))else((mkCO 0 (x1.1.length:Int) 0 8).bind fun x5=>(dW (iK x1 a2) (0,x5)).bind fun o15=>some (o15,0))))
def kA(a1:Int)(d0:(List Int))(d1:(List Int)):Option ((List Int)×(List Int)):=
  (inO d1 a1).bind fun _=>(eV d1 a1).bind fun x3=>(inO d0 a1).bind fun _=>(eV d0 a1).bind fun x6=>(inO d0 a1).bind fun _=>(eV d0 a1).bind fun x9=>(inO d1 a1).bind fun _=>(eV d1 a1).bind fun x12=>(inO d0 x3).bind fun _=>(tS d0 x3 x9).bind fun x15=>(inO d1 x6).bind fun _=>(tS d1 x6 x12).bind fun x18=>some (x15,x18)
def cw(x18:(List Int)×(List Int)×(List Int))(x3:(List Int))(j19:(List a8))(j20:(List Int)):Option (fR ((List a8)×(List Int)×(List Int)×(List Int)) (((List a8)×(List Int))⊕((List a8)×(List Int)×Int))):=
  (eV x18.1 0).bind fun x21=>(eV x3 x21).bind fun x22=>(pS j20 [x22] 8).bind fun x23=>(eV x18.1 0).bind fun x24=>(kA x24 x18.2.1 x18.2.2).bind fun x25=>some (.next (j19,x23,x25.1,x25.2))
def dy(x18:(List Int)×(List Int)×(List Int))(x3:(List Int))(a1:(List aj))(s5:(List a8))(s6:(List Int)):(Int×(List aj))->Option (fR (Int×(List aj)) ((List aj)×(List a8)×(List Int))):=fun(s28,s29)=>
  if(decide (s28<(x18.1.length:Int)))=true then((eV x18.1 s28).bind fun x35=>(eV x3 x35).bind fun x36=>(eV a1 x36).bind fun x37=>(pS s29 [x37] 48).bind fun x38=>some (.next ((IntKind.wrap .i64 (s28+1)),x38)))else(some (.stop (s29,s5,s6)))
def dz(x18:(List Int)×(List Int)×(List Int))(x45:(List Int)×Int)(a0:aG):(Int×(List Int))->Option (fR (Int×(List Int)) ((List Int))):=fun(s47,s48)=>
  if(decide (s47<(x18.1.length:Int)))=true then((eV x18.1 s47).bind fun x52=>(eV x45.1 s47).bind fun x53=>if(decide (x53<=a0.d9))=true then((pS s48 [x52] 8).bind fun x55=>some (.next ((IntKind.wrap .i64 (s47+1)),x55)))else(some (.next ((IntKind.wrap .i64 (s47+1)),s48))))else(some (.stop s48))
def cx(o57:(List Int))(x3:(List Int)):(Int×(List Int)×(List Int)×(List Int))->Option (fR (Int×(List Int)×(List Int)×(List Int)) ((List Int)×(List Int)×(List Int))):=fun(s59,s60,s61,s62)=>
  if(decide (s59<(o57.length:Int)))=true then((inO o57 s59).bind fun _=>(eV o57 s59).bind fun x70=>(kA x70 s60 s61).bind fun x71=>(eV x3 x70).bind fun x72=>(pS s62 [x72] 8).bind fun x73=>some (.next ((IntKind.wrap .i64 (s59+1)),x71.1,x71.2,x73)))else(some (.stop (s60,s61,s62)))
def bV(a0:aG)(a1:(List aj))(x3:(List Int)):((List a8)×(List Int)×(List Int)×(List Int))->Option (fR ((List a8)×(List Int)×(List Int)×(List Int)) (((List a8)×(List Int))⊕((List a8)×(List Int)×Int))):=fun(s5,s6,s7,s8)=>
  (jc (bp.mk s7 s8)).bind fun x12=>(inO s7 x12).bind fun _=>(eV s7 x12).bind fun x15=>(jc (bp.mk s7 s8)).bind fun x16=>if(x15 != x16)=true then((lH a0 a1 x3 s7 s8).bind fun x18=>if(decide ((x18.1.length:Int)>=a0.co))=true then((dW (dy x18 x3 a1 s5 s6) (0,([]:(List aj)))).bind fun o40=>(eC a0 o40.1).bind fun x41=>(c9 x41 a0.bf).bind fun x42=>if(x42.2 != 0)=true then(some (.stop (.inr (([]:(List a8)),([]:(List Int)),x42.2))))else((eC a0 o40.1).bind fun x44=>(gm x44 x42.1.aX x42.1.bn).bind fun x45=>if(x45.2 != 0)=true then(some (.stop (.inr (([]:(List a8)),([]:(List Int)),x45.2))))else((dW (dz x18 x45 a0) (0,([]:(List Int)))).bind fun o57=>if(decide ((o57.length:Int)>=a0.co))=true then((dW (cx o57 x3) (0,x18.2.1,x18.2.2,([]:(List Int)))).bind fun o75=>(tB o75.2.2).bind fun x76=>(pS o40.2.1 [(a8.mk x76 x42.1.aX x42.1.bn)] 56).bind fun x77=>some (.next (x77,o40.2.2,o75.1,o75.2.1)))else(cw x18 x3 o40.2.1 o40.2.2))))else(cw x18 x3 s5 s6))else(some (.stop (.inl (s5,s6))))
def f7(a0:aG)(a1:(List aj)):Option ((List a8)×(List Int)×Int):=
  (dt a0 a1).bind fun x1=>if(x1 != 0)=true then(some (([]:(List a8)),([]:(List Int)),x1))else((jE a1).bind fun x3=>(gD (a1.length:Int)).bind fun x4=>(dW (bV a0 a1 x3) (([]:(List a8)),([]:(List Int)),x4.n8,x4.fback)).bind fun o79=>match o79 with| .inl y80=>((tB y80.2).bind fun x82=>some (y80.1,x82,0))| .inr r81=>(some r81))
def jt(x5:(List ai))(a0:ar)(a1:al):(Int×(List ai)×(List aj)×(List ap))->Option (fR (Int×(List ai)×(List aj)×(List ap)) ((List ai)×(List aj)×(List ap))):=fun(s6,s7,s8,s9)=>
  if(decide (s6<(x5.length:Int)))=true then((eV x5 s6).bind fun x15=>(da a0 a1 x15).bind fun x16=>if x16.2.2=true then((pS s7 [x15] 104).bind fun x18=>(pS s8 [x16.1] 48).bind fun x19=>(pS s9 [x16.2.1] 80).bind fun x20=>some (.next ((IntKind.wrap .i64 (s6+1)),x18,x19,x20)))else(some (.next ((IntKind.wrap .i64 (s6+1)),s7,s8,s9))))else(some (.stop (s7,s8,s9)))
def hJ(a0:ar)(a1:al)(a2:(List ai)):Option (aU×Int):=
  (eJ a0).bind fun x1=>if(x1 != 0)=true then(some ((aU.mk [] [] []),27))else((ch a1).bind fun x3=>if(!x3)=true then(some ((aU.mk [] [] []),1))else((dE a2).bind fun x5=>(dW (jt x5 a0 a1) (0,([]:(List ai)),([]:(List aj)),([]:(List ap)))).bind fun o22=>some ((aU.mk o22.1 o22.2.1 o22.2.2),0)))
def gl(a0:aU)(a1:ar):Option (ah×Int):=
  if((a0.dj.length:Int)==0)=true then(some ((ah.mk (ag.mk (aa.mk 0 0 0) (aa.mk 0 0 0)) (aA.mk 0 [] []) [] 0),24))else(if(decide ((a0.dj.length:Int)>64))=true then(some ((ah.mk (ag.mk (aa.mk 0 0 0) (aa.mk 0 0 0)) (aA.mk 0 [] []) [] 0),8))else((sQ 8 a1.ae.aW.aI).bind fun x3=>(sQ 8 a1.ae.aW.aC).bind fun x4=>some ((ah.mk a1.ae.aM (aA.mk a1.ae.aW.aZ x3 x4) a0.dj a1.ae.cG),0)))
def nat_From_l9:(Int×(List Int))->Option (fR (Int×(List Int)) ((List Int))):=fun(s2,s3)=>
  if(decide (s2>0))=true then((vN s2 1073741824).bind fun x7=>(pS s3 [x7] 8).bind fun x8=>some (.next ((jf .i64 s2 30),x8)))else(some (.stop s3))
def rJ(a0:Int):Option ((List Int)×Int):=
  if(decide (a0<0))=true then(some (([]:(List Int)),2))else((dW (nat_From_l9) (a0,([]:(List Int)))).bind fun o10=>some (o10,0))
def m8(a0:Int):Option (Bool):=
  if(decide (a0<0))=true then(some true)else(some (decide (a0>=1073741824)))
def gC(a0:(List Int)):Int->Option (fR (Int) ((Unit)⊕(Int))):=fun s1=>
  if(decide (s1<(a0.length:Int)))=true then((eV a0 s1).bind fun x4=>(m8 x4).bind fun x5=>if x5=true then(some (.stop (.inr s1)))else(some (.next (IntKind.wrap .i64 (s1+1)))))else(some (.stop (.inl ())))
def fi(a0:(List Int)):Option (Int):=
  (dW (gC a0) 0).bind fun o8=>match o8 with| .inl _=>(some (-1))| .inr r10=>(some r10)
def cK(a0:(List Int)):Option (Bool):=
  (fi a0).bind fun x1=>some (decide (x1>=0))
def kg(a0:(List Int)):Option (Bool):=
  if(decide ((a0.length:Int)>64))=true then(some false)else(if(decide ((a0.length:Int)>0))=true then((eV a0 (IntKind.wrap .i64 ((a0.length:Int)-1))).bind fun x3=>if(x3==0)=true then(some false)else((cK a0).bind fun x5=>some (!x5)))else((cK a0).bind fun x6=>some (!x6)))
def pJ(a0:(List Int))(a1:(List Int)):Option (Bool):=
  (kg a0).bind fun x1=>if x1=true then((kg a1).bind fun x3=>some x3)else(some false)
def mQ(a0:(List Int))(a1:Int):Option (Int):=
  if(decide (a1>=(a0.length:Int)))=true then(some 0)else((eV a0 a1).bind fun x2=>some x2)
def nat_trim_l8:(List Int)->Option (fR ((List Int)) ((List Int))):=fun s1=>
  if(decide ((s1.length:Int)>0))=true then((eV s1 (IntKind.wrap .i64 ((s1.length:Int)-1))).bind fun x5=>if(x5==0)=true then((yW s1 0 (IntKind.wrap .i64 ((s1.length:Int)-1))).bind fun x7=>some (.next x7))else(some (.stop s1)))else(some (.stop s1))
def pK(a0:(List Int)):Option ((List Int)):=
  (dW (nat_trim_l8) a0).bind fun o9=>some o9
def oe(a1:(List Int))(s2:Int)(x7:Int):(Int×Int×(List Int))->Option (fR (Int×Int×(List Int)) (Int×(List Int))):=fun(s8,s9,s10)=>
  if(decide (s9<(IntKind.wrap .i64 ((a1.length:Int)+1))))=true then(if(decide ((IntKind.wrap .i64 (s2+s9))<(s10.length:Int)))=true then((inO s10 (IntKind.wrap .i64 (s2+s9))).bind fun _=>(eV s10 (IntKind.wrap .i64 (s2+s9))).bind fun x18=>(mQ a1 s9).bind fun x19=>(vN (IntKind.wrap .i64 (s8+(IntKind.wrap .i64 (x18+(IntKind.wrap .i64 (x7*x19)))))) 1073741824).bind fun x20=>(inO s10 (IntKind.wrap .i64 (s2+s9))).bind fun _=>(tS s10 (IntKind.wrap .i64 (s2+s9)) x20).bind fun x23=>some (.next ((jf .i64 (IntKind.wrap .i64 (s8+(IntKind.wrap .i64 (x18+(IntKind.wrap .i64 (x7*x19)))))) 30),(IntKind.wrap .i64 (s9+1)),x23)))else(some (.next (s8,(IntKind.wrap .i64 (s9+1)),s10))))else(some (.stop (s2,s10)))
def og(a0:(List Int))(a1:(List Int)):(Int×(List Int))->Option (fR (Int×(List Int)) ((List Int))):=fun(s2,s3)=>
  if(decide (s2<(a0.length:Int)))=true then((eV a0 s2).bind fun x7=>(dW (oe a1 s2 x7) (0,0,s3)).bind fun o25=>some (.next ((IntKind.wrap .i64 (o25.1+1)),o25.2)))else(some (.stop s3))
def ji(a0:(List Int))(a1:(List Int)):Option ((List Int)):=
  (mkO (IntKind.wrap .i64 ((a0.length:Int)+(a1.length:Int))) 0 8).bind fun x1=>(dW (og a0 a1) (0,x1)).bind fun o27=>(pK o27).bind fun x28=>some x28
def iL(a0:(List Int)):Option ((List Int)×Int):=
  (pK a0).bind fun x1=>if(decide ((x1.length:Int)>64))=true then(some (([]:(List Int)),8))else(some (x1,0))
def nat_Mul(a0:(List Int))(a1:(List Int)):Option ((List Int)×Int):=
  (pJ a0 a1).bind fun x1=>if(!x1)=true then(some (([]:(List Int)),1))else((ji a0 a1).bind fun x3=>(iL x3).bind fun x4=>some (x4.1,x4.2))
def dq(a0:Int):Option ((List Int)):=
  (rJ (if(IntKind.wrap .i64 (0-a0))>a0 then(IntKind.wrap .i64 (0-a0))else a0)).bind fun x1=>(nat_Mul x1.1 x1.1).bind fun x2=>some x2.1
def nat_Add_l13(a1:(List Int))(a0:(List Int)):(Int×Int×(List Int))->Option (fR (Int×Int×(List Int)) ((List Int))):=fun(s3,s4,s5)=>
  if(decide (s4<(IntKind.wrap .i64 ((if(a1.length:Int)>(a0.length:Int)then(a1.length:Int)else(a0.length:Int))+1))))=true then((mQ a0 s4).bind fun x9=>(mQ a1 s4).bind fun x10=>(vN (IntKind.wrap .i64 (s3+(IntKind.wrap .i64 (x9+x10)))) 1073741824).bind fun x11=>(pS s5 [x11] 8).bind fun x12=>some (.next ((jf .i64 (IntKind.wrap .i64 (s3+(IntKind.wrap .i64 (x9+x10)))) 30),(IntKind.wrap .i64 (s4+1)),x12)))else(some (.stop s5))
def nat_Add(a0:(List Int))(a1:(List Int)):Option ((List Int)×Int):=
  (pJ a0 a1).bind fun x1=>if(!x1)=true then(some (([]:(List Int)),1))else((dW (nat_Add_l13 a1 a0) (0,0,([]:(List Int)))).bind fun o14=>(iL o14).bind fun x15=>some (x15.1,x15.2))
def gt(a0:aS)(a1:Int)(a2:Int):Option ((List Int)):=
  (dq (IntKind.wrap .i64 ((IntKind.wrap .i64 ((IntKind.wrap .i64 (a0.a0*a2))*a2))-(IntKind.wrap .i64 ((IntKind.wrap .i64 (a0.a2*a1))*a1))))).bind fun x1=>(dq (IntKind.wrap .i64 ((IntKind.wrap .i64 (a0.a1*a1))*a2))).bind fun x2=>(nat_Add x1 x2).bind fun x3=>some x3.1
def lN(a0:aD)(a1:Int)(a2:Int):Option (aO×Bool):=
  if(a0.b8==0)=true then((dq a0.bd.a0).bind fun x2=>(dq a0.aY.a0).bind fun x3=>some ((aO.mk x2 x3),true))else(if(a0.b8==1)=true then((gt a0.bd a1 a2).bind fun x5=>(gt a0.aY a1 a2).bind fun x6=>some ((aO.mk x5 x6),(decide ((x6.length:Int)>0))))else((cN a0.bN).bind fun x7=>(dq x7).bind fun x8=>(yb .i64 1 a0.bR).bind fun x9=>(dq x9).bind fun x10=>some ((aO.mk x8 x10),true)))
def fJ(a0:aO):Option (Bool):=
  (kg a0.bd).bind fun x1=>if x1=true then((kg a0.aY).bind fun x3=>if x3=true then(some (decide ((a0.aY.length:Int)>0)))else(some false))else(some false)
def qb(a0:aO)(a1:aO):Option (aO×Int):=
  (fJ a0).bind fun x1=>if(!x1)=true then(some ((aO.mk [] []),1))else((fJ a1).bind fun x3=>if(!x3)=true then(some ((aO.mk [] []),1))else((ji a0.bd a1.bd).bind fun x5=>(iL x5).bind fun x6=>(ji a0.aY a1.aY).bind fun x7=>(iL x7).bind fun x8=>if(x6.2 != 0)=true then(some ((aO.mk [] []),8))else(if(x8.2 != 0)=true then(some ((aO.mk [] []),8))else(some ((aO.mk x6.1 x8.1),0)))))
def nH(a0:aL)(a1:Int)(a2:Int):(Int×(List Int)×(List Int))->Option (fR (Int×(List Int)×(List Int)) (((List Int)×(List Int))⊕(aO×Int))):=fun(s7,s8,s9)=>
  if(decide (s7<(a0.aV.length:Int)))=true then((eV a0.aV s7).bind fun x14=>(lN x14 a1 a2).bind fun x15=>if(!x15.2)=true then(some (.stop (.inr ((aO.mk [] []),11))))else((qb (aO.mk s8 s9) x15.1).bind fun x17=>if(x17.2 != 0)=true then(some (.stop (.inr ((aO.mk [] []),x17.2))))else(some (.next ((IntKind.wrap .i64 (s7+1)),x17.1.bd,x17.1.aY)))))else(some (.stop (.inl (s8,s9))))
def lM(a0:aL)(a1:Int)(a2:Int):Option (aO×Int):=
  (dM a0).bind fun x1=>if(!x1)=true then(some ((aO.mk [] []),1))else((bA a1 0 65536).bind fun x3=>if(!x3)=true then(some ((aO.mk [] []),2))else((bA a2 1 65536).bind fun x5=>if(!x5)=true then(some ((aO.mk [] []),2))else((dW (nH a0 a1 a2) (0,[1],[1])).bind fun o20=>match o20 with| .inl y21=>(some ((aO.mk y21.1 y21.2),0))| .inr r22=>(some r22))))
def ef(a0:Int)(j15:Int)(j16:Int):Option (Int):=
  some (IntKind.wrap .i64 ((IntKind.wrap .i64 (256*a0))+j16))
def eh(a0:Int)(j13:Int)(j14:Int):Option (Int):=
  if(decide ((jf .i64 (IntKind.wrap .i64 (j13*j13)) 30)>=2147483648))=true then((su .i64 (jf .i64 (IntKind.wrap .i64 (j13*j13)) 30) 2).bind fun x19=>ef a0 x19 (IntKind.wrap .i64 ((IntKind.wrap .i64 (j14*2))+1)))else(ef a0 (jf .i64 (IntKind.wrap .i64 (j13*j13)) 30) (IntKind.wrap .i64 (j14*2)))
def ei(a0:Int)(j11:Int)(j12:Int):Option (Int):=
  if(decide ((jf .i64 (IntKind.wrap .i64 (j11*j11)) 30)>=2147483648))=true then((su .i64 (jf .i64 (IntKind.wrap .i64 (j11*j11)) 30) 2).bind fun x22=>eh a0 x22 (IntKind.wrap .i64 ((IntKind.wrap .i64 (j12*2))+1)))else(eh a0 (jf .i64 (IntKind.wrap .i64 (j11*j11)) 30) (IntKind.wrap .i64 (j12*2)))
def ej(a0:Int)(j9:Int)(j10:Int):Option (Int):=
  if(decide ((jf .i64 (IntKind.wrap .i64 (j9*j9)) 30)>=2147483648))=true then((su .i64 (jf .i64 (IntKind.wrap .i64 (j9*j9)) 30) 2).bind fun x25=>ei a0 x25 (IntKind.wrap .i64 ((IntKind.wrap .i64 (j10*2))+1)))else(ei a0 (jf .i64 (IntKind.wrap .i64 (j9*j9)) 30) (IntKind.wrap .i64 (j10*2)))
def ek(a0:Int)(j7:Int)(j8:Int):Option (Int):=
  if(decide ((jf .i64 (IntKind.wrap .i64 (j7*j7)) 30)>=2147483648))=true then((su .i64 (jf .i64 (IntKind.wrap .i64 (j7*j7)) 30) 2).bind fun x28=>ej a0 x28 (IntKind.wrap .i64 ((IntKind.wrap .i64 (j8*2))+1)))else(ej a0 (jf .i64 (IntKind.wrap .i64 (j7*j7)) 30) (IntKind.wrap .i64 (j8*2)))
def eo(a0:Int)(j5:Int)(j6:Int):Option (Int):=
  if(decide ((jf .i64 (IntKind.wrap .i64 (j5*j5)) 30)>=2147483648))=true then((su .i64 (jf .i64 (IntKind.wrap .i64 (j5*j5)) 30) 2).bind fun x31=>ek a0 x31 (IntKind.wrap .i64 ((IntKind.wrap .i64 (j6*2))+1)))else(ek a0 (jf .i64 (IntKind.wrap .i64 (j5*j5)) 30) (IntKind.wrap .i64 (j6*2)))
def ep(a0:Int)(j3:Int)(j4:Int):Option (Int):=
  if(decide ((jf .i64 (IntKind.wrap .i64 (j3*j3)) 30)>=2147483648))=true then((su .i64 (jf .i64 (IntKind.wrap .i64 (j3*j3)) 30) 2).bind fun x34=>eo a0 x34 (IntKind.wrap .i64 ((IntKind.wrap .i64 (j4*2))+1)))else(eo a0 (jf .i64 (IntKind.wrap .i64 (j3*j3)) 30) (IntKind.wrap .i64 (j4*2)))
def et(a0:Int)(j1:Int)(j2:Int):Option (Int):=
  if(decide ((jf .i64 (IntKind.wrap .i64 (j1*j1)) 30)>=2147483648))=true then((su .i64 (jf .i64 (IntKind.wrap .i64 (j1*j1)) 30) 2).bind fun x37=>ep a0 x37 (IntKind.wrap .i64 ((IntKind.wrap .i64 (j2*2))+1)))else(ep a0 (jf .i64 (IntKind.wrap .i64 (j1*j1)) 30) (IntKind.wrap .i64 (j2*2)))
def gj(a0:Int)(a1:Int):Option (Int):=
  if(decide ((jf .i64 (IntKind.wrap .i64 (a1*a1)) 30)>=2147483648))=true then((su .i64 (jf .i64 (IntKind.wrap .i64 (a1*a1)) 30) 2).bind fun x40=>et a0 x40 1)else(et a0 (jf .i64 (IntKind.wrap .i64 (a1*a1)) 30) 0)
def ig(a0:Int):Option (Int×Int):=
  if(decide (a0<1))=true then(some (0,2))else((gd (IntKind.wrap .u64 a0)).bind fun x2=>if(decide ((IntKind.wrap .i64 (x2-1))<=30))=true then((yb .i64 a0 (IntKind.wrap .i64 (30-(IntKind.wrap .i64 (x2-1))))).bind fun x4=>(gj (IntKind.wrap .i64 (x2-1)) x4).bind fun x5=>some (x5,0))else((shrO .i64 a0 (IntKind.wrap .i64 ((IntKind.wrap .i64 (x2-1))-30))).bind fun x6=>(gj (IntKind.wrap .i64 (x2-1)) x6).bind fun x7=>some (x7,0)))
def gi(a0:(List Int)):Option (Int×Int):=
  (kg a0).bind fun x1=>if(!x1)=true then(some (0,1))else(if(decide ((IntKind.wrap .i64 ((a0.length:Int)-1))<0))=true then(some (0,2))else(if((IntKind.wrap .i64 ((a0.length:Int)-1))==0)=true then((eV a0 0).bind fun x5=>(ig x5).bind fun x6=>some (x6.1,x6.2))else((eV a0 (IntKind.wrap .i64 ((a0.length:Int)-1))).bind fun x7=>(eV a0 (IntKind.wrap .i64 ((IntKind.wrap .i64 ((a0.length:Int)-1))-1))).bind fun x8=>(ig (orI .i64 (shlI .i64 x7 30) x8)).bind fun x9=>some ((IntKind.wrap .i64 (x9.1+(IntKind.wrap .i64 (7680*(IntKind.wrap .i64 ((IntKind.wrap .i64 ((a0.length:Int)-1))-1)))))),x9.2))))
def jh(a0:bo)(a1:aL)(a2:Int):Option (Int×Int):=
  (lM a1 a0.bd a0.aY).bind fun x1=>if(x1.2 != 0)=true then(some (0,x1.2))else((gi x1.1.bd).bind fun x3=>if(x3.2 != 0)=true then(some (0,24))else((gi x1.1.aY).bind fun x5=>if(x5.2 != 0)=true then(some (0,x5.2))else((ig a2).bind fun x7=>some ((IntKind.wrap .i64 ((IntKind.wrap .i64 ((IntKind.wrap .i64 (2*x7.1))+x5.1))-x3.1)),x7.2))))
def iH(a0:Int):Option (Int):=
  some (jf .i64 a0 1)
def lr(a0:Int):Option (Int×Bool):=
  if(decide (a0>=(-16777216)))=true then(some ((IntKind.wrap .i64 (a0*30103)),(decide (a0<=16777216))))else(some ((IntKind.wrap .i64 (a0*30103)),false))
def gW(a0:Int):Option (Int):=
  (lr a0).bind fun x1=>if(!x1.2)=true then(some 0)else((su .i64 x1.1 256000).bind fun x3=>(vN x1.1 256000).bind fun x4=>if(decide (x4<0))=true then(some (IntKind.wrap .i64 (x3-1)))else(some x3))
def kK(a0:Int):Option (Int):=
  (gW (IntKind.wrap .i64 (0-a0))).bind fun x1=>some (IntKind.wrap .i64 (0-x1))
def fH(a0:bo)(a1:aL)(a2:Int)(a3:Int)(a4:Int):Option (aB×Int):=
  (c7 a0).bind fun x1=>if(!x1)=true then(some ((aB.mk 0 0),27))else(if(decide (a2<1))=true then(some ((aB.mk 0 0),2))else(if(decide (a2>1073741823))=true then(some ((aB.mk 0 0),2))else((jh a0 a1 a2).bind fun x5=>if(x5.2 != 0)=true then(some ((aB.mk 0 0),x5.2))else((bZ a0.bC a3 a4).bind fun x7=>if(x7.2.2 != 0)=true then(some ((aB.mk 0 0),x7.2.2))else((iH (IntKind.wrap .i64 (x5.1-2))).bind fun x9=>(gW x9).bind fun x10=>(iH (IntKind.wrap .i64 ((IntKind.wrap .i64 (0-x5.1))-6))).bind fun x11=>(kK (IntKind.wrap .i64 (0-x11))).bind fun x12=>some ((aB.mk (IntKind.wrap .i64 (x10+x7.1)) (IntKind.wrap .i64 (x12+x7.2.1))),0))))))
def dK(a0:aU)(a2:ag)(a1:ar):(Int×(List aB))->Option (fR (Int×(List aB)) ((List aB))):=fun(s1,s2)=>
  if(decide (s1<(a0.dj.length:Int)))=true then((eV a0.dj s1).bind fun x6=>(eV a0.jG s1).bind fun x7=>(eV a0.dv s1).bind fun x8=>(eZ a2 x6.aN).bind fun x9=>(gF a2 x6.aN).bind fun x10=>(fH a1.cm x7.bu x8.bg x9 x10).bind fun x11=>if(x11.2==0)=true then((pS s2 [x11.1] 16).bind fun x13=>some (.next ((IntKind.wrap .i64 (s1+1)),x13)))else(some (.next ((IntKind.wrap .i64 (s1+1)),s2))))else(some (.stop s2))
def c8(a0:aU)(a1:ar)(a2:ag):Option ((List aB)):=
  (dW (dK a0 a2 a1) (0,([]:(List aB)))).bind fun o15=>some o15
def gM(a0:aB):Option (Bool):=
  some (decide (a0.aI>a0.aC))
def dG(a0:(List aB)):Int->Option (fR (Int) ((Unit)⊕(Int))):=fun s1=>
  if(decide (s1<(a0.length:Int)))=true then((eV a0 s1).bind fun x4=>(gM x4).bind fun x5=>if x5=true then(some (.stop (.inr s1)))else(some (.next (IntKind.wrap .i64 (s1+1)))))else(some (.stop (.inl ())))
def dY(a0:(List aB)):Option (Int):=
  (dW (dG a0) 0).bind fun o8=>match o8 with| .inl _=>(some (-1))| .inr r10=>(some r10)
def cS(a0:(List aB)):Option (Bool):=
  (dY a0).bind fun x1=>some (decide (x1>=0))
def gN(a0:aB):Option (Int):=
  some a0.aI
def jy(a0:(List aB)):(Int×(List Int))->Option (fR (Int×(List Int)) ((List Int))):=fun(s1,s2)=>
  if(decide (s1<(a0.length:Int)))=true then((eV a0 s1).bind fun x6=>(gN x6).bind fun x7=>(pS s2 [x7] 8).bind fun x8=>some (.next ((IntKind.wrap .i64 (s1+1)),x8)))else(some (.stop s2))
def fk(a0:(List aB)):Option (Int):=
  (dW (jy a0) (0,([]:(List Int)))).bind fun o10=>(tB o10).bind fun x11=>(su .i64 (IntKind.wrap .i64 ((x11.length:Int)-1)) 2).bind fun x12=>(inO x11 x12).bind fun _=>(eV x11 x12).bind fun x15=>some x15
def gO(a0:aB):Option (Int):=
  some a0.aC
def jz(a0:(List aB)):(Int×(List Int))->Option (fR (Int×(List Int)) ((List Int))):=fun(s1,s2)=>
  if(decide (s1<(a0.length:Int)))=true then((eV a0 s1).bind fun x6=>(gO x6).bind fun x7=>(pS s2 [x7] 8).bind fun x8=>some (.next ((IntKind.wrap .i64 (s1+1)),x8)))else(some (.stop s2))
def fm(a0:(List aB)):Option (Int):=
  (dW (jz a0) (0,([]:(List Int)))).bind fun o10=>(tB o10).bind fun x11=>(su .i64 (IntKind.wrap .i64 ((x11.length:Int)-1)) 2).bind fun x12=>(inO x11 x12).bind fun _=>(eV x11 x12).bind fun x15=>some x15
def fG(a0:(List aB)):Option (aB×Int):=
  if((a0.length:Int)==0)=true then(some ((aB.mk 0 0),24))else((cS a0).bind fun x2=>if x2=true then(some ((aB.mk 0 0),1))else((fk a0).bind fun x4=>(fm a0).bind fun x5=>some ((aB.mk x4 x5),0)))
def gy(a0:ar)(a1:al)(a2:(List ai)):Option (bv×Int):=
  (hJ a0 a1 a2).bind fun x1=>if(x1.2 != 0)=true then(some ((bv.mk [] (ak.mk (aa.mk 0 0 0) 0 0 0 (ag.mk (aa.mk 0 0 0) (aa.mk 0 0 0))) (aB.mk 0 0) 0),x1.2))else((gl x1.1 a0).bind fun x3=>if(x3.2 != 0)=true then(some ((bv.mk [] (ak.mk (aa.mk 0 0 0) 0 0 0 (ag.mk (aa.mk 0 0 0) (aa.mk 0 0 0))) (aB.mk 0 0) 0),x3.2))else((c9 x3.1 a0.bf).bind fun x5=>if(x5.2 != 0)=true then(some ((bv.mk [] (ak.mk (aa.mk 0 0 0) 0 0 0 (ag.mk (aa.mk 0 0 0) (aa.mk 0 0 0))) (aB.mk 0 0) 0),x5.2))else((c8 x1.1 a0 x5.1.bh).bind fun x7=>if(decide ((x7.length:Int)>0))=true then((fG x7).bind fun x9=>if(x9.2 != 0)=true then(some ((bv.mk [] (ak.mk (aa.mk 0 0 0) 0 0 0 (ag.mk (aa.mk 0 0 0) (aa.mk 0 0 0))) (aB.mk 0 0) 0),x9.2))else(some ((bv.mk x1.1.dv x5.1 x9.1 (x7.length:Int)),0)))else(some ((bv.mk x1.1.dv x5.1 (aB.mk 0 0) 0),0)))))
def jx(a0:ai)(a1:ai):Option (Int):=
  (bK a0.bn a1.bn).bind fun x1=>(cA a0 a1).bind fun x2=>(cM [x1,x2]).bind fun x3=>some x3
def ct(a0:(List ai)):(Int×(List UInt8)×(List UInt8)×(List UInt8)×(List UInt8)×Int×Int×Int×Int×Int)->Option (fR (Int×(List UInt8)×(List UInt8)×(List UInt8)×(List UInt8)×Int×Int×Int×Int×Int) ((List UInt8)×(List UInt8)×(List UInt8)×(List UInt8)×Int×Int×Int×Int×Int)):=fun(s3,s4,s5,s6,s7,s8,s9,s10,s11,s12)=>
  if(decide (s3<(a0.length:Int)))=true then((eV a0 s3).bind fun x24=>(jx x24 (ai.mk (au.mk s4 s5 s6 s7) s8 s9 s10 s11 s12)).bind fun x25=>if(decide (x25<0))=true then((eV a0 s3).bind fun x27=>some (.next ((IntKind.wrap .i64 (s3+1)),x27.aw.ba,x27.aw.aN,x27.aw.av,x27.aw.bc,x27.bn,x27.aQ,x27.bw,x27.bg,x27.bz)))else(some (.next ((IntKind.wrap .i64 (s3+1)),s4,s5,s6,s7,s8,s9,s10,s11,s12))))else(some (.stop (s4,s5,s6,s7,s8,s9,s10,s11,s12)))
def eW(a0:(List ai)):Option (ai):=
  if(decide ((a0.length:Int)<1))=true then(none)else((eV a0 0).bind fun x2=>(dW (ct a0) (1,x2.aw.ba,x2.aw.aN,x2.aw.av,x2.aw.bc,x2.bn,x2.aQ,x2.bw,x2.bg,x2.bz)).bind fun o29=>some (ai.mk (au.mk o29.1 o29.2.1 o29.2.2.1 o29.2.2.2.1) o29.2.2.2.2.1 o29.2.2.2.2.2.1 o29.2.2.2.2.2.2.1 o29.2.2.2.2.2.2.2.1 o29.2.2.2.2.2.2.2.2))
def oD(a0:(List ai)):Option (ai):=
  if((a0.length:Int)==0)=true then(some (ai.mk (au.mk [] [] [] []) 0 0 0 0 0))else((eW a0).bind fun x2=>some x2)
def jA(a0:eY)(a1:aH)(a2:aH):Option (Int):=
  (jx a1.cb a2.cb).bind fun x1=>some x1
def f4(a1:Int)(s1:Int):(Int×(List aH))->Option (fR (Int×(List aH)) (Int×(List aH))):=fun(s5,s6)=>
  if(decide (s5>a1))=true then((inO s6 s5).bind fun _=>(eV s6 s5).bind fun x13=>(inO s6 (IntKind.wrap .i64 (s5-1))).bind fun _=>(eV s6 (IntKind.wrap .i64 (s5-1))).bind fun x16=>(jA (eY.mk ) x13 x16).bind fun x17=>if(decide (x17<0))=true then((inO s6 (IntKind.wrap .i64 (s5-1))).bind fun _=>(eV s6 (IntKind.wrap .i64 (s5-1))).bind fun x21=>(inO s6 s5).bind fun _=>(eV s6 s5).bind fun x24=>(inO s6 s5).bind fun _=>(tS s6 s5 x21).bind fun x27=>(inO x27 (IntKind.wrap .i64 (s5-1))).bind fun _=>(tS x27 (IntKind.wrap .i64 (s5-1)) x24).bind fun x30=>some (.next ((IntKind.wrap .i64 (s5-1)),x30)))else(some (.stop (s1,s6))))else(some (.stop (s1,s6)))
def f5(a2:Int)(a1:Int):(Int×(List aH))->Option (fR (Int×(List aH)) ((List aH))):=fun(s1,s2)=>
  if(decide (s1<a2))=true then((dW (f4 a1 s1) (s1,s2)).bind fun o32=>some (.next ((IntKind.wrap .i64 (o32.1+1)),o32.2)))else((some s2).bind fun z33=>some (.stop z33))
def cO(a1:Int)(a2:Int)(d0:(List aH)):Option ((List aH)):=
  (dW (f5 a2 a1) ((IntKind.wrap .i64 (a1+1)),d0)).bind fun o35=>some o35
def bU(a2:Int)(a1:Int)(d0:(List aH))(a3:Int):Unit->Option (fR (Unit) ((List aH))):=fun _=>
  if(decide ((IntKind.wrap .i64 (a2-a1))<=12))=true then((cO a1 a2 d0).bind fun x3=>some (.stop x3))else(if(a3==0)=true then(none)else(none))
def eQ:Nat->Int->Int->Int->(List aH)->Option ((List aH))
  |0,_,_,_,_=>none
  |nfu+1,a1,a2,a3,d0=>
  (dW (bU a2 a1 d0 a3) ()).bind fun o6=>some o6
def cC(a1:Int)(a2:Int)(a3:Int)(d0:(List aH)):Option ((List aH)):=recO fun n=>eQ n a1 a2 a3 d0
def dn(d0:(List aH)):Option ((List aH)):=
  (gd (IntKind.wrap .u64 (d0.length:Int))).bind fun x1=>(cC 0 (d0.length:Int) x1 d0).bind fun x2=>some x2
def kC(x10:a8)(x1:(List ai)×(List aj)×Int)(s5:Int)(s6:(List aH)):(Int×(List ai))->Option (fR (Int×(List ai)) (Int×(List aH)×(List ai))):=fun(s11,s12)=>
  if(decide (s11<(x10.cz.length:Int)))=true then((eV x10.cz s11).bind fun x18=>(eV x1.1 x18).bind fun x19=>(pS s12 [x19] 104).bind fun x20=>some (.next ((IntKind.wrap .i64 (s11+1)),x20)))else(some (.stop (s5,s6,s12)))
def kD(x3:(List a8)×(List Int)×Int)(x1:(List ai)×(List aj)×Int)(a0:ar)(a1:al):(Int×(List aH))->Option (fR (Int×(List aH)) (((List aH))⊕((List aH)×(List ai)×Int))):=fun(s5,s6)=>
  if(decide (s5<(x3.1.length:Int)))=true then((eV x3.1 s5).bind fun x10=>(dW (kC x10 x1 s5 s6) (0,([]:(List ai)))).bind fun o22=>(gy a0 a1 o22.2.2).bind fun x23=>if(x23.2 != 0)=true then(some (.stop (.inr (([]:(List aH)),([]:(List ai)),x23.2))))else((oD x23.1.ec).bind fun x25=>(pS o22.2.1 [(aH.mk x25 x23.1)] 248).bind fun x26=>some (.next ((IntKind.wrap .i64 (o22.1+1)),x26))))else(some (.stop (.inl s6)))
def kE(x3:(List a8)×(List Int)×Int)(x1:(List ai)×(List aj)×Int):(Int×(List ai))->Option (fR (Int×(List ai)) ((List ai))):=fun(s32,s33)=>
  if(decide (s32<(x3.2.1.length:Int)))=true then((eV x3.2.1 s32).bind fun x37=>(eV x1.1 x37).bind fun x38=>(pS s33 [x38] 104).bind fun x39=>some (.next ((IntKind.wrap .i64 (s32+1)),x39)))else(some (.stop s33))
def fe(a0:ar)(a1:al)(a2:(List ai)):Option ((List aH)×(List ai)×Int):=
  (mD a0 a1 a2).bind fun x1=>if(x1.2.2 != 0)=true then(some (([]:(List aH)),([]:(List ai)),x1.2.2))else((f7 a0.ae x1.2.1).bind fun x3=>if(x3.2.2 != 0)=true then(some (([]:(List aH)),([]:(List ai)),x3.2.2))else((dW (kD x3 x1 a0 a1) (0,([]:(List aH)))).bind fun o28=>match o28 with| .inl y29=>((dn y29).bind fun x31=>(dW (kE x3 x1) (0,([]:(List ai)))).bind fun o41=>some (x31,o41,0))| .inr r30=>(some r30)))
def lc(a0:aH)(d0:ai):Option (Bool):=
  some (((a0.cb.aw.ba==d0.aw.ba)&&((a0.cb.aw.aN==d0.aw.aN)&&((a0.cb.aw.av==d0.aw.av)&&((a0.cb.aw.bc==d0.aw.bc)&&true))))&&((a0.cb.bn==d0.bn)&&((a0.cb.aQ==d0.aQ)&&((a0.cb.bw==d0.bw)&&((a0.cb.bg==d0.bg)&&((a0.cb.bz==d0.bz)&&true))))))
def dg(a0:(List aH))(d0:ai):Int->Option (fR (Int) ((Unit)⊕(Int))):=fun s1=>
  if(decide (s1<(a0.length:Int)))=true then((eV a0 s1).bind fun x4=>(lc x4 d0).bind fun x5=>if x5=true then(some (.stop (.inr s1)))else(some (.next (IntKind.wrap .i64 (s1+1)))))else(some (.stop (.inl ())))
def eU(a0:(List aH))(d0:ai):Option (Int):=
  (dW (dg a0 d0) 0).bind fun o8=>match o8 with| .inl _=>(some (-1))| .inr r10=>(some r10)
def iD(a0:(List aH))(a1:ai):Option (Int):=
  (eU a0 a1).bind fun x1=>some x1
def nw:Option (Bool):=
  (kH []).bind fun x1=>(dJ 2 x1).bind fun x2=>(fr 3 x2.2).bind fun x3=>(dm 1).bind fun x4=>(fe x2.1 x3.1 [(ai.mk x4 2500 2500 2500 11 0),(ai.mk x4 2500 2500 2500 10 0)]).bind fun x5=>(fe x2.1 x3.1 []).bind fun x6=>if(x5.2.2==0)=true then(if((x5.1.length:Int)==1)=true then(if((x5.2.1.length:Int)==0)=true then((eV x5.1 0).bind fun x10=>if(((x10.cb.aw.ba==x4.ba)&&((x10.cb.aw.aN==x4.aN)&&((x10.cb.aw.av==x4.av)&&((x10.cb.aw.bc==x4.bc)&&true))))&&((x10.cb.bn==2500)&&((x10.cb.aQ==2500)&&((x10.cb.bw==2500)&&((x10.cb.bg==10)&&((x10.cb.bz==0)&&true))))))=true then((eV x5.1 0).bind fun x12=>if((x12.aF.ec.length:Int)==2)=true then(if(x6.2.2==0)=true then(if((x6.1.length:Int)==0)=true then((iD x5.1 (ai.mk x4 2500 2500 2500 10 0)).bind fun x16=>if(x16==0)=true then((iD x5.1 (ai.mk x4 2500 2500 2500 11 0)).bind fun x18=>some (x18==(-1)))else(some false))else(some false))else(some false))else(some false))else(some false))else(some false))else(some false))else(some false)
def js(x3:al×ac)(x5:Int×ac)(x2:ar×ac)(x4:aa×ac):(Int×(List Int)×Int×(List ai))->Option (fR (Int×(List Int)×Int×(List ai)) (((List ai))⊕(Bool))):=fun(s6,s7,s8,s9)=>
  (dx 4 (ac.mk s7 s8)).bind fun x12=>if(decide (s6<(IntKind.wrap .i64 (3+x12.1))))=true then((dm s6).bind fun x14=>(ny x3.1 x14 (IntKind.wrap .i64 ((IntKind.wrap .i64 (2500+x5.1))+100))).bind fun x15=>if(!x15.2)=true then(some (.stop (.inr false)))else((dm s6).bind fun x17=>(mH (ar.mk (aG.mk x2.1.ae.aM x2.1.ae.aW x2.1.ae.cG 0 2000 x2.1.ae.d9 2) x2.1.cm x2.1.bf) x3.1 (ai.mk x17 (IntKind.wrap .i64 ((IntKind.wrap .i64 (2500+x5.1))+100)) (IntKind.wrap .i64 ((IntKind.wrap .i64 (2500+x5.1))+100)) (IntKind.wrap .i64 ((IntKind.wrap .i64 (2500+x5.1))+100)) 0 0)).bind fun x18=>if(!((x18.1.aN.fX==x15.1.fX)&&((x18.1.aN.fY==x15.1.fY)&&((x18.1.aN.fZ==x15.1.fZ)&&true))))=true then(some (.stop (.inr false)))else((oH x15.1 x4.1).bind fun x20=>(dm s6).bind fun x21=>(su .i64 x20 x2.1.ae.aW.aZ).bind fun x22=>(eV x2.1.ae.aW.aI x22).bind fun x23=>(dx 4 x12.2).bind fun x24=>(dx 4 x24.2).bind fun x25=>(pS s9 [(ai.mk x21 (IntKind.wrap .i64 ((IntKind.wrap .i64 ((IntKind.wrap .i64 (2500+x5.1))+x23))+x24.1)) (IntKind.wrap .i64 ((IntKind.wrap .i64 (2500+x5.1))+x23)) (IntKind.wrap .i64 ((IntKind.wrap .i64 ((IntKind.wrap .i64 ((IntKind.wrap .i64 (2500+x5.1))+x23))+4))+x25.1)) 100 0)] 104).bind fun x26=>some (.next ((IntKind.wrap .i64 (s6+1)),x25.2.fL,x25.2.fAt,x26)))))else(some (.stop (.inl s9)))
def me(a0:(List Int)):Option (Bool):=
  (kH a0).bind fun x1=>(dJ 3 x1).bind fun x2=>(fr 6 x2.2).bind fun x3=>(mJ x2.1.ae.aM x3.2).bind fun x4=>(dx 500 x4.2).bind fun x5=>(dW (js x3 x5 x2 x4) (0,x5.2.fL,x5.2.fAt,([]:(List ai)))).bind fun o28=>match o28 with| .inl y29=>((fe (ar.mk (aG.mk x2.1.ae.aM x2.1.ae.aW x2.1.ae.cG 0 2000 x2.1.ae.d9 2) x2.1.cm x2.1.bf) x3.1 y29).bind fun x31=>if(x31.2.2==0)=true then(if((x31.1.length:Int)==1)=true then(if((x31.2.1.length:Int)==0)=true then((eV x31.1 0).bind fun x35=>if((x35.aF.ec.length:Int)==(y29.length:Int))=true then((eV x31.1 0).bind fun x37=>if(decide (x37.aF.av.bq<=x2.1.bf))=true then((nw ).bind fun x39=>some x39)else(some false))else(some false))else(some false))else(some false))else(some false))| .inr r30=>(some r30)
end
end Go.Dw.Em
