
import Derived.Test.YtmmgjlgoggielaaGreatDwLift4
import Derived.Test.YtmmgjlgoggielaaGreatDwSortP

namespace Go.Dw.Lt
open Go.Dw
noncomputable section
structure ac where
  fL:(List Int)
  fAt:Int
  deriving DecidableEq
def ac.pd(x:ac):PD:= .agg [.lst (x.fL.map (PD.int .i64)),.int .i64 x.fAt]
structure aa where
  fX:Int
  fY:Int
  fZ:Int
  deriving DecidableEq
def aa.pd(x:aa):PD:= .agg [.int .i64 x.fX,.int .i64 x.fY,.int .i64 x.fZ]
structure ag where
  aF:aa
  az:aa
  deriving DecidableEq
def ag.pd(x:ag):PD:= .agg [.int .i64 x.aF.fX,.int .i64 x.aF.fY,.int .i64 x.aF.fZ,.int .i64 x.az.fX,.int .i64 x.az.fY,.int .i64 x.az.fZ]
structure aq where
  aQ:Int
  aF:(List Int)
  az:(List Int)
  deriving DecidableEq
def aq.pd(x:aq):PD:= .agg [.int .i64 x.aQ,.lst (x.aF.map (PD.int .i64)),.lst (x.az.map (PD.int .i64))]
structure aV where
  aG:ag
  aS:aq
  bN:Int
  bJ:Int
  mW:Int
  kW:Int
  kV:Int
  deriving DecidableEq
def aV.pd(x:aV):PD:= .agg [.int .i64 x.aG.aF.fX,.int .i64 x.aG.aF.fY,.int .i64 x.aG.aF.fZ,.int .i64 x.aG.az.fX,.int .i64 x.aG.az.fY,.int .i64 x.aG.az.fZ,.int .i64 x.aS.aQ,.lst (x.aS.aF.map (PD.int .i64)),.lst (x.aS.az.map (PD.int .i64)),.int .i64 x.bN,.int .i64 x.bJ,.int .i64 x.mW,.int .i64 x.kW,.int .i64 x.kV]
structure ba where
  bL:aq
  bo:Int
  bf:Int
  deriving DecidableEq
def ba.pd(x:ba):PD:= .agg [.int .i64 x.bL.aQ,.lst (x.bL.aF.map (PD.int .i64)),.lst (x.bL.az.map (PD.int .i64)),.int .i64 x.bo,.int .i64 x.bf]
structure aw where
  aA:aV
  dY:ba
  bJ:Int
  deriving DecidableEq
def aw.pd(x:aw):PD:= .agg [.int .i64 x.aA.aG.aF.fX,.int .i64 x.aA.aG.aF.fY,.int .i64 x.aA.aG.aF.fZ,.int .i64 x.aA.aG.az.fX,.int .i64 x.aA.aG.az.fY,.int .i64 x.aA.aG.az.fZ,.int .i64 x.aA.aS.aQ,.lst (x.aA.aS.aF.map (PD.int .i64)),.lst (x.aA.aS.az.map (PD.int .i64)),.int .i64 x.aA.bN,.int .i64 x.aA.bJ,.int .i64 x.aA.mW,.int .i64 x.aA.kW,.int .i64 x.aA.kV,.int .i64 x.dY.bL.aQ,.lst (x.dY.bL.aF.map (PD.int .i64)),.lst (x.dY.bL.az.map (PD.int .i64)),.int .i64 x.dY.bo,.int .i64 x.dY.bf,.int .i64 x.bJ]
structure ap where
  aY:(List UInt8)
  aM:(List UInt8)
  aK:(List UInt8)
  bd:(List UInt8)
  deriving DecidableEq
def ap.pd(x:ap):PD:= .agg [.str x.aY,.str x.aM,.str x.aK,.str x.bd]
structure aX where
  bo:Int
  bf:Int
  deriving DecidableEq
def aX.pd(x:aX):PD:= .agg [.int .i64 x.bo,.int .i64 x.bf]
structure aO where
  a0:Int
  a1:Int
  a2:Int
  deriving DecidableEq
def aO.pd(x:aO):PD:= .agg [.int .i64 x.a0,.int .i64 x.a1,.int .i64 x.a2]
structure aD where
  eM:Int
  bo:aO
  bf:aO
  cW:(List Int)
  cM:Int
  c8:Int
  deriving DecidableEq
def aD.pd(x:aD):PD:= .agg [.int .i64 x.eM,.int .i64 x.bo.a0,.int .i64 x.bo.a1,.int .i64 x.bo.a2,.int .i64 x.bf.a0,.int .i64 x.bf.a1,.int .i64 x.bf.a2,.lst (x.cW.map (PD.int .i64)),.int .i64 x.cM,.int .i64 x.c8]
structure aL where
  bn:(List aD)
  deriving DecidableEq
def aL.pd(x:aL):PD:= .agg [.lst (x.bn.map aD.pd)]
structure aj where
  aT:Int
  fTo:Int
  fd:aX
  aW:aa
  br:aL
  deriving DecidableEq
def aj.pd(x:aj):PD:= .agg [.int .i64 x.aT,.int .i64 x.fTo,.int .i64 x.fd.bo,.int .i64 x.fd.bf,.int .i64 x.aW.fX,.int .i64 x.aW.fY,.int .i64 x.aW.fZ,.lst (x.br.bn.map aD.pd)]
structure au where
  aJ:ap
  bu:(List aj)
  deriving DecidableEq
def au.pd(x:au):PD:= .agg [.str x.aJ.aY,.str x.aJ.aM,.str x.aJ.aK,.str x.aJ.bd,.lst (x.bu.map aj.pd)]
structure aB where
  aP:(List au)
  deriving DecidableEq
def aB.pd(x:aB):PD:= .agg [.lst (x.aP.map au.pd)]
structure ar where
  aJ:ap
  bS:Int
  a8:Int
  bF:Int
  bj:Int
  bO:Int
  deriving DecidableEq
def ar.pd(x:ar):PD:= .agg [.str x.aJ.aY,.str x.aJ.aM,.str x.aJ.aK,.str x.aJ.bd,.int .i64 x.bS,.int .i64 x.a8,.int .i64 x.bF,.int .i64 x.bj,.int .i64 x.bO]
structure ai where
  bp:aa
  bS:Int
  aZ:Int
  iH:Int
  bK:ag
  deriving DecidableEq
def ai.pd(x:ai):PD:= .agg [.int .i64 x.bp.fX,.int .i64 x.bp.fY,.int .i64 x.bp.fZ,.int .i64 x.bS,.int .i64 x.aZ,.int .i64 x.iH,.int .i64 x.bK.aF.fX,.int .i64 x.bK.aF.fY,.int .i64 x.bK.aF.fZ,.int .i64 x.bK.az.fX,.int .i64 x.bK.az.fY,.int .i64 x.bK.az.fZ]
structure ak where
  aF:Int
  az:Int
  deriving DecidableEq
def ak.pd(x:ak):PD:= .agg [.int .i64 x.aF,.int .i64 x.az]
structure aU where
  iI:(List ar)
  aK:ai
  dX:ak
  kU:Int
  deriving DecidableEq
def aU.pd(x:aU):PD:= .agg [.lst (x.iI.map ar.pd),.int .i64 x.aK.bp.fX,.int .i64 x.aK.bp.fY,.int .i64 x.aK.bp.fZ,.int .i64 x.aK.bS,.int .i64 x.aK.aZ,.int .i64 x.aK.iH,.int .i64 x.aK.bK.aF.fX,.int .i64 x.aK.bK.aF.fY,.int .i64 x.aK.bK.aF.fZ,.int .i64 x.aK.bK.az.fX,.int .i64 x.aK.bK.az.fY,.int .i64 x.aK.bK.az.fZ,.int .i64 x.dX.aF,.int .i64 x.dX.az,.int .i64 x.kU]
structure aC where
  aM:aa
  a8:Int
  bF:Int
  bt:Int
  deriving DecidableEq
def aC.pd(x:aC):PD:= .agg [.int .i64 x.aM.fX,.int .i64 x.aM.fY,.int .i64 x.aM.fZ,.int .i64 x.a8,.int .i64 x.bF,.int .i64 x.bt]
structure aI where
  cn:(List ar)
  cm:(List aC)
  gL:(List aj)
  deriving DecidableEq
def aI.pd(x:aI):PD:= .agg [.lst (x.cn.map ar.pd),.lst (x.cm.map aC.pd),.lst (x.gL.map aj.pd)]
structure al where
  aT:Int
  fTo:Int
  deriving DecidableEq
def al.pd(x:al):PD:= .agg [.int .i64 x.aT,.int .i64 x.fTo]
structure ae where
  aG:ag
  aS:aq
  aN:(List aC)
  bN:Int
  deriving DecidableEq
def ae.pd(x:ae):PD:= .agg [.int .i64 x.aG.aF.fX,.int .i64 x.aG.aF.fY,.int .i64 x.aG.aF.fZ,.int .i64 x.aG.az.fX,.int .i64 x.aG.az.fY,.int .i64 x.aG.az.fZ,.int .i64 x.aS.aQ,.lst (x.aS.aF.map (PD.int .i64)),.lst (x.aS.az.map (PD.int .i64)),.lst (x.aN.map aC.pd),.int .i64 x.bN]
structure ah where
  gU:ag
  bQ:Int
  er:Int
  deriving DecidableEq
def ah.pd(x:ah):PD:= .agg [.int .i64 x.gU.aF.fX,.int .i64 x.gU.aF.fY,.int .i64 x.gU.aF.fZ,.int .i64 x.gU.az.fX,.int .i64 x.gU.az.fY,.int .i64 x.gU.az.fZ,.int .i64 x.bQ,.int .i64 x.er]
structure bz where
  fp:ae
  im:(List ah)
  er:Int
  ftaken:Int
  ffound:Bool
  bC:ai
  deriving DecidableEq
def bz.pd(x:bz):PD:= .agg [.int .i64 x.fp.aG.aF.fX,.int .i64 x.fp.aG.aF.fY,.int .i64 x.fp.aG.aF.fZ,.int .i64 x.fp.aG.az.fX,.int .i64 x.fp.aG.az.fY,.int .i64 x.fp.aG.az.fZ,.int .i64 x.fp.aS.aQ,.lst (x.fp.aS.aF.map (PD.int .i64)),.lst (x.fp.aS.az.map (PD.int .i64)),.lst (x.fp.aN.map aC.pd),.int .i64 x.fp.bN,.lst (x.im.map ah.pd),.int .i64 x.er,.int .i64 x.ftaken,.bool x.ffound,.int .i64 x.bC.bp.fX,.int .i64 x.bC.bp.fY,.int .i64 x.bC.bp.fZ,.int .i64 x.bC.bS,.int .i64 x.bC.aZ,.int .i64 x.bC.iH,.int .i64 x.bC.bK.aF.fX,.int .i64 x.bC.bK.aF.fY,.int .i64 x.bC.bK.aF.fZ,.int .i64 x.bC.bK.az.fX,.int .i64 x.bC.bK.az.fY,.int .i64 x.bC.bK.az.fZ]
structure aH where
  bo:(List Int)
  bf:(List Int)
  deriving DecidableEq
def aH.pd(x:aH):PD:= .agg [.lst (x.bo.map (PD.int .i64)),.lst (x.bf.map (PD.int .i64))]
def ip(a0:(List Int)):Option (ac):=
  (cutO a0 0 (if 2000<(a0.length:Int)then 2000 else(a0.length:Int))).bind fun x1=>some (ac.mk x1 0)
def Src_Raw(d0:ac):Option (Int×ac):=
  if(decide (d0.fAt>=(d0.fL.length:Int)))=true then(some (0,d0))else((nZ d0.fL (IntKind.wrap .i64 ((IntKind.wrap .i64 (d0.fAt+1))-1))).bind fun x2=>some (x2,(ac.mk d0.fL (IntKind.wrap .i64 (d0.fAt+1)))))
def lk(a0:Int)(a1:Int):Option (Int):=
  if(decide (a1<1))=true then(some 0)else((vO a0 a1).bind fun x2=>if(decide (x2<0))=true then(some (IntKind.wrap .i64 (x2+a1)))else(some x2))
def cb(a1:Int)(d0:ac):Option (Int×ac):=
  (Src_Raw d0).bind fun x1=>(lk x1.1 a1).bind fun x2=>some (x2,x1.2)
def hF(a1:Int)(d0:ac):Option (aa×ac):=
  (cb (IntKind.wrap .i64 ((IntKind.wrap .i64 (2*a1))+1)) d0).bind fun x1=>(cb (IntKind.wrap .i64 ((IntKind.wrap .i64 (2*a1))+1)) x1.2).bind fun x2=>(cb (IntKind.wrap .i64 (a1+1)) x2.2).bind fun x3=>some ((aa.mk (IntKind.wrap .i64 (x1.1-a1)) (IntKind.wrap .i64 (x2.1-a1)) x3.1),x3.2)
def lv(a1:Int)(a2:Int)(d0:ac):Option (ag×ac):=
  (hF a1 d0).bind fun x1=>(cb (IntKind.wrap .i64 (a2+1)) x1.2).bind fun x2=>(cb (IntKind.wrap .i64 (a2+1)) x2.2).bind fun x3=>(cb (IntKind.wrap .i64 (a2+1)) x3.2).bind fun x4=>some ((ag.mk x1.1 (aa.mk (IntKind.wrap .i64 (x1.1.fX+x2.1)) (IntKind.wrap .i64 (x1.1.fY+x3.1)) (IntKind.wrap .i64 (x1.1.fZ+x4.1)))),x4.2)
def cA(a1:(List Int))(d0:ac):Option (Int×ac):=
  (cb (a1.length:Int) d0).bind fun x1=>(nZ a1 x1.1).bind fun x2=>some (x2,x1.2)
def gE(x1:Int×ac):(Int×Int×Int×(List Int)×Int×(List Int)×(List Int))->Option (nX (Int×Int×Int×(List Int)×Int×(List Int)×(List Int)) ((List Int)×Int×(List Int)×(List Int))):=fun(s3,s4,s5,s6,s7,s8,s9)=>
  (pr .i64 400 x1.1).bind fun x15=>(cb 3 (ac.mk s6 s7)).bind fun x16=>if(decide (s5<=(IntKind.wrap .i64 (x15+x16.1))))=true then((px s8 [s3] 8).bind fun x18=>(px s9 [s4] 8).bind fun x19=>(cA [0,10,20,35] x16.2).bind fun x20=>(pr .i64 x1.1 4).bind fun x21=>(cA [0,0,5,30] x20.2).bind fun x22=>some (.next ((IntKind.wrap .i64 (s3+(IntKind.wrap .i64 (x20.1+x21)))),(IntKind.wrap .i64 ((if(IntKind.wrap .i64 (s3+(IntKind.wrap .i64 (x20.1+x21))))>s4 then(IntKind.wrap .i64 (s3+(IntKind.wrap .i64 (x20.1+x21))))else s4)+x22.1)),(IntKind.wrap .i64 (s5+1)),x22.2.fL,x22.2.fAt,x18,x19)))else(some (.stop (x16.2.fL,x16.2.fAt,s8,s9)))
def gh(d0:ac):Option (aq×ac):=
  (cA [20,25,40,100] d0).bind fun x1=>(cb 3 x1.2).bind fun x2=>(nW (gE x1) (0,x2.1,0,x2.2.fL,x2.2.fAt,([]:(List Int)),([]:(List Int)))).bind fun o24=>some ((aq.mk x1.1 o24.2.2.1 o24.2.2.2),(ac.mk o24.1 o24.2.1))
def cV(a1:Int)(d0:ac):Option (aV×ac):=
  (lv 20 a1 d0).bind fun x1=>(gh x1.2).bind fun x2=>(cA [10,50,200] x2.2).bind fun x3=>(cA [0,0,10,40] x3.2).bind fun x4=>(cA [0,50,200,400] x4.2).bind fun x5=>(cA [0,5,20] x5.2).bind fun x6=>(cb 2 x6.2).bind fun x7=>some ((aV.mk x1.1 x2.1 x3.1 x4.1 x5.1 x6.1 (IntKind.wrap .i64 (2+x7.1))),x7.2)
def ja(x1:aq×ac):(Int×(List Int)×(List Int))->Option (nX (Int×(List Int)×(List Int)) ((List Int)×(List Int))):=fun(s4,s5,s6)=>
  if(decide (s4<(x1.1.aF.length:Int)))=true then((inO s5 s4).bind fun _=>(nZ s5 s4).bind fun x13=>(pr .i64 x13 3).bind fun x14=>(inO s6 s4).bind fun _=>(nZ s6 s4).bind fun x17=>(pr .i64 x17 3).bind fun x18=>(inO s5 s4).bind fun _=>(sZ s5 s4 x14).bind fun x21=>(inO s6 s4).bind fun _=>(sZ s6 s4 x18).bind fun x24=>some (.next ((IntKind.wrap .i64 (s4+1)),x21,x24)))else(some (.stop (s5,s6)))
def hJ(d0:ac):Option (ba×ac):=
  (gh d0).bind fun x1=>(cb 20 x1.2).bind fun x2=>(cb 9 x2.2).bind fun x3=>(nW (ja x1) (0,x1.1.aF,x1.1.az)).bind fun o26=>some ((ba.mk (aq.mk x1.1.aQ o26.1 o26.2) x2.1 (IntKind.wrap .i64 (1+x3.1))),x3.2)
def cK(a1:Int)(d0:ac):Option (aw×ac):=
  (cV a1 d0).bind fun x1=>(hJ x1.2).bind fun x2=>(cA [0,0,10,40] x2.2).bind fun x3=>some ((aw.mk x1.1 x2.1 x3.1),x3.2)
def gg:(Int×(List Int)×Int×(List aD))->Option (nX (Int×(List Int)×Int×(List aD)) ((List Int)×Int×(List aD))):=fun(s2,s3,s4,s5)=>
  if(decide (s2>0))=true then((cb 3 (ac.mk s3 s4)).bind fun x11=>if(x11.1==0)=true then((cA [0,1,9,99,1048575] x11.2).bind fun x13=>(cA [0,0,2,9,999] x13.2).bind fun x14=>(px s5 [(aD.mk x11.1 (aO.mk (IntKind.wrap .i64 (1+x13.1)) 0 0) (aO.mk (IntKind.wrap .i64 (1+x14.1)) 0 0) [] 0 0)] 96).bind fun x15=>some (.next ((IntKind.wrap .i64 (s2-1)),x14.2.fL,x14.2.fAt,x15)))else(if(x11.1==1)=true then((cb 5 x11.2).bind fun x17=>(cb 7 x17.2).bind fun x18=>(cb 3 x18.2).bind fun x19=>(cb 5 x19.2).bind fun x20=>(cb 7 x20.2).bind fun x21=>(cb 3 x21.2).bind fun x22=>(px s5 [(aD.mk x11.1 (aO.mk x17.1 (IntKind.wrap .i64 (x18.1-3)) (IntKind.wrap .i64 (x19.1-1))) (aO.mk (IntKind.wrap .i64 (1+x20.1)) x21.1 x22.1) [] 0 0)] 96).bind fun x23=>some (.next ((IntKind.wrap .i64 (s2-1)),x22.2.fL,x22.2.fAt,x23)))else((cb 3 x11.2).bind fun x24=>(cb 4 x24.2).bind fun x25=>(px s5 [(aD.mk x11.1 (aO.mk 0 0 0) (aO.mk 0 0 0) [(IntKind.wrap .i64 (1+x24.1)),2,1] 1 x25.1)] 96).bind fun x26=>some (.next ((IntKind.wrap .i64 (s2-1)),x25.2.fL,x25.2.fAt,x26)))))else(some (.stop (s3,s4,s5)))
def dJ(d0:ac):Option (aL×ac):=
  (cb 4 d0).bind fun x1=>(nW (gg) (x1.1,x1.2.fL,x1.2.fAt,([]:(List aD)))).bind fun o28=>some ((aL.mk o28.2.2),(ac.mk o28.1 o28.2.1))
def c7(a0:Int):Option (ap):=
  (lk a0 6).bind fun x1=>(nZ [[83,49],[83,50],[83,51],[83,52],[83,53],[83,54]] x1).bind fun x2=>some (ap.mk [65,66] x2 [48,48] [66,72,90])
def gD(a1:Int):(Int×(List Int)×Int×(List au))->Option (nX (Int×(List Int)×Int×(List au)) ((List Int)×Int×(List au))):=fun(s1,s2,s3,s4)=>
  if(decide (s1<a1))=true then(if(decide (s1<6))=true then((hF 60 (ac.mk s2 s3)).bind fun x11=>(dJ x11.2).bind fun x12=>(c7 s1).bind fun x13=>(cb 6 x12.2).bind fun x14=>if(x14.1==0)=true then((cb 500 x14.2).bind fun x16=>(hF 60 x16.2).bind fun x17=>(dJ x17.2).bind fun x18=>(inO [(aj.mk 0 100000 (aX.mk 100 1) x11.1 x12.1)] 0).bind fun _=>(modO [(aj.mk 0 100000 (aX.mk 100 1) x11.1 x12.1)] 0 (fun(z22:aj)=>(aj.mk z22.aT (IntKind.wrap .i64 (1500+x16.1)) z22.fd z22.aW z22.br))).bind fun x21=>(px x21 [(aj.mk (IntKind.wrap .i64 (1500+x16.1)) 100000 (aX.mk 100 1) x17.1 x18.1)] 80).bind fun x23=>(px s4 [(au.mk x13 x23)] 88).bind fun x24=>some (.next ((IntKind.wrap .i64 (s1+1)),x18.2.fL,x18.2.fAt,x24)))else(if(x14.1==1)=true then((cb 1500 x14.2).bind fun x26=>(inO [(aj.mk 0 100000 (aX.mk 100 1) x11.1 x12.1)] 0).bind fun _=>(modO [(aj.mk 0 100000 (aX.mk 100 1) x11.1 x12.1)] 0 (fun(z30:aj)=>(aj.mk x26.1 z30.fTo z30.fd z30.aW z30.br))).bind fun x29=>(px s4 [(au.mk x13 x29)] 88).bind fun x31=>some (.next ((IntKind.wrap .i64 (s1+1)),x26.2.fL,x26.2.fAt,x31)))else((px s4 [(au.mk x13 [(aj.mk 0 100000 (aX.mk 100 1) x11.1 x12.1)])] 88).bind fun x32=>some (.next ((IntKind.wrap .i64 (s1+1)),x14.2.fL,x14.2.fAt,x32)))))else(some (.stop (s2,s3,s4))))else(some (.stop (s2,s3,s4)))
def eP(a1:Int)(d0:ac):Option (aB×ac):=
  (nW (gD a1) (0,d0.fL,d0.fAt,([]:(List au)))).bind fun o34=>some ((aB.mk o34.2.2),(ac.mk o34.1 o34.2.1))
def jL(a1:Int)(a2:Int)(d0:ac):Option (Int×ac):=
  (cb (IntKind.wrap .i64 ((IntKind.wrap .i64 (a2-a1))+1)) d0).bind fun x1=>some ((IntKind.wrap .i64 (a1+x1.1)),x1.2)
def lc(a1:ag)(d0:ac):Option (aa×ac):=
  (jL a1.aF.fX a1.az.fX d0).bind fun x1=>(jL a1.aF.fY a1.az.fY x1.2).bind fun x2=>(jL a1.aF.fZ a1.az.fZ x2.2).bind fun x3=>some ((aa.mk x1.1 x2.1 x3.1),x3.2)
def ma(x4:au)(a1:ap)(a2:Int)(s1:Int):Int->Option (nX (Int) ((Int)⊕(aa×Bool))):=fun s5=>
  if(decide (s5<(x4.bu.length:Int)))=true then((nZ x4.bu s5).bind fun x9=>if((x4.aJ.aY==a1.aY)&&((x4.aJ.aM==a1.aM)&&((x4.aJ.aK==a1.aK)&&((x4.aJ.bd==a1.bd)&&true))))=true then(if(decide (x9.aT<=a2))=true then(if(decide (a2<x9.fTo))=true then(some (.stop (.inr (x9.aW,true))))else(some (.next (IntKind.wrap .i64 (s5+1)))))else(some (.next (IntKind.wrap .i64 (s5+1)))))else(some (.next (IntKind.wrap .i64 (s5+1)))))else(some (.stop (.inl s1)))
def mb(a0:aB)(a1:ap)(a2:Int):Int->Option (nX (Int) ((Unit)⊕(aa×Bool))):=fun s1=>
  if(decide (s1<(a0.aP.length:Int)))=true then((nZ a0.aP s1).bind fun x4=>(nW (ma x4 a1 a2 s1) 0).bind fun o14=>match o14 with| .inl y15=>(some (.next (IntKind.wrap .i64 (y15+1))))| .inr r16=>(some (.stop (.inr r16))))else(some (.stop (.inl ())))
def lF(a0:aB)(a1:ap)(a2:Int):Option (aa×Bool):=
  (nW (mb a0 a1 a2) 0).bind fun o18=>match o18 with| .inl _=>(some ((aa.mk 0 0 0),false))| .inr r20=>(some r20)
def mE(a0:Int):Option (Int):=
  some (IntKind.wrap .i64 (a0*a0))
def eI(x18:ap)(x19:Int×ac)(x20:Int×ac)(j22:Int)(j23:Int)(j24:(List Int))(j25:Int)(j26:(List ar))(j27:Int)(j28:Int)(j29:Int)(j30:Int):Option (nX (Int×Int×(List Int)×Int×(List ar)×Int×Int×Int) ((List ar)×(List Int)×Int)):=
  (cb 5 (ac.mk j24 j25)).bind fun x31=>(cb 5 x31.2).bind fun x32=>(px j26 [(ar.mk x18 (IntKind.wrap .i64 (j30+x31.1)) j30 (IntKind.wrap .i64 ((IntKind.wrap .i64 (j30+x31.1))+x32.1)) x19.1 (IntKind.wrap .i64 (x20.1-1)))] 104).bind fun x33=>some (.next (j22,(IntKind.wrap .i64 (j23-1)),x32.2.fL,x32.2.fAt,x33,j27,j28,j29))
def kS(x40:aa×Bool)(s9:Int)(s10:Int)(s11:Int)(s4:Int)(s5:Int)(s8:(List ar)):Int->Option (nX (Int) (Int×Int×Int×(List ar)×Int×Int×Int)):=fun s42=>
  (mE (IntKind.wrap .i64 (x40.1.fX-s9))).bind fun x51=>(mE (IntKind.wrap .i64 (x40.1.fY-s10))).bind fun x52=>(mE (IntKind.wrap .i64 (x40.1.fZ-s11))).bind fun x53=>if(decide ((IntKind.wrap .i64 (s42*s42))<(IntKind.wrap .i64 ((IntKind.wrap .i64 (x51+x52))+x53))))=true then(some (.next (IntKind.wrap .i64 (s42+1))))else(some (.stop (s4,s5,s42,s8,s9,s10,s11)))
def mV(a1:aw)(a2:aB):(Int×Int×(List Int)×Int×(List ar)×Int×Int×Int)->Option (nX (Int×Int×(List Int)×Int×(List ar)×Int×Int×Int) ((List ar)×(List Int)×Int)):=fun(s4,s5,s6,s7,s8,s9,s10,s11)=>
  if(decide (s5>0))=true then((cb 6 (ac.mk s6 s7)).bind fun x17=>(c7 x17.1).bind fun x18=>(cA [0,1,50,1000,1048576] x17.2).bind fun x19=>(cb 3 x19.2).bind fun x20=>(cb 2000 x20.2).bind fun x21=>(cb 6 x21.2).bind fun x35=>if(x35.1==0)=true then((lc a1.aA.aG x35.2).bind fun x37=>(cb 900 x37.2).bind fun x38=>eI x18 x19 x20 (IntKind.wrap .i64 (s4+x38.1)) s5 x38.2.fL x38.2.fAt s8 x37.1.fX x37.1.fY x37.1.fZ (IntKind.wrap .i64 (1000+x21.1)))else(if(x35.1==1)=true then(eI x18 x19 x20 s4 s5 x35.2.fL x35.2.fAt s8 s9 s10 s11 (IntKind.wrap .i64 (1000+x21.1)))else((lF a2 x18 s4).bind fun x40=>if x40.2=true then((nW (kS x40 s9 s10 s11 s4 s5 s8) 0).bind fun o56=>(pr .i64 o56.2.2.1 a1.aA.aS.aQ).bind fun x57=>(nZ a1.aA.aS.aF (if(IntKind.wrap .i64 ((a1.aA.aS.aF.length:Int)-1))<x57 then(IntKind.wrap .i64 ((a1.aA.aS.aF.length:Int)-1))else x57)).bind fun x58=>(cb 6 x35.2).bind fun x59=>eI x18 x19 x20 o56.1 o56.2.1 x59.2.fL x59.2.fAt o56.2.2.2.1 o56.2.2.2.2.1 o56.2.2.2.2.2.1 o56.2.2.2.2.2.2 (IntKind.wrap .i64 ((IntKind.wrap .i64 (o56.1+x58))+x59.1)))else(eI x18 x19 x20 s4 s5 x35.2.fL x35.2.fAt s8 s9 s10 s11 (IntKind.wrap .i64 (1000+x21.1))))))else(some (.stop (s8,s6,s7)))
def mB(a1:aw)(a2:aB)(a3:Int)(d0:ac):Option ((List ar)×ac):=
  (lc a1.aA.aG d0).bind fun x1=>(cb 500 x1.2).bind fun x2=>(cb (IntKind.wrap .i64 (a3+1)) x2.2).bind fun x3=>(nW (mV a1 a2) ((IntKind.wrap .i64 (1000+x2.1)),x3.1,x3.2.fL,x3.2.fAt,([]:(List ar)),x1.1.fX,x1.1.fY,x1.1.fZ)).bind fun o61=>some (o61.1,(ac.mk o61.2.1 o61.2.2))
def bc(a0:aa):Option (aO):=
  some (aO.mk a0.fX a0.fY a0.fZ)
def cg(a0:aa):Option (Bool):=
  (bc a0).bind fun x1=>if(decide (x1.a0<(-1048576)))=true then(some false)else(if(decide (x1.a0>1048576))=true then(some false)else(if(decide (x1.a1<(-1048576)))=true then(some false)else(if(decide (x1.a1>1048576))=true then(some false)else(if(decide (x1.a2<(-16384)))=true then(some false)else(if(decide (x1.a2>1048576))=true then(some false)else(some true))))))
def bg(a0:ag):Option (Bool):=
  (cg a0.aF).bind fun x1=>if(!x1)=true then(some false)else((cg a0.az).bind fun x3=>if(!x3)=true then(some false)else((bc a0.az).bind fun x5=>(bc a0.aF).bind fun x6=>if(decide (x6.a0>x5.a0))=true then(some false)else(if(decide (x6.a1>x5.a1))=true then(some false)else(if(decide (x6.a2>x5.a2))=true then(some false)else(some true)))))
def gC(a0:aq):(Int×Int×Int)->Option (nX (Int×Int×Int) ((Unit)⊕(Int))):=fun(s6,s7,s8)=>
  if(decide (s8<(a0.aF.length:Int)))=true then((nZ a0.aF s8).bind fun x11=>if(decide (x11<s6))=true then(some (.stop (.inr 21)))else((nZ a0.az s8).bind fun x13=>if(decide (x13<s7))=true then(some (.stop (.inr 21)))else((nZ a0.aF s8).bind fun x15=>(nZ a0.az s8).bind fun x16=>if(decide (x15>x16))=true then(some (.stop (.inr 21)))else((nZ a0.az s8).bind fun x18=>if(decide (x18>1099511627776))=true then(some (.stop (.inr 21)))else((nZ a0.aF s8).bind fun x20=>(nZ a0.az s8).bind fun x21=>some (.next (x20,x21,(IntKind.wrap .i64 (s8+1)))))))))else(some (.stop (.inl ())))
def bY(a0:aq):Option (Int):=
  if(decide (a0.aQ<1))=true then(some 21)else(if(decide (a0.aQ>1048576))=true then(some 21)else(if((a0.aF.length:Int) != (a0.az.length:Int))=true then(some 21)else(if(decide ((a0.aF.length:Int)<2))=true then(some 21)else(if(decide ((a0.aF.length:Int)>256))=true then(some 21)else((nW (gC a0) (0,0,0)).bind fun o23=>match o23 with| .inl _=>(some 0)| .inr r25=>(some r25))))))
def ep(a0:Int)(a1:Int)(a2:Int):Option (Bool):=
  if(decide (a0>=a1))=true then(some (decide (a0<=a2)))else(some false)
def cj(a0:aC):Option (Bool):=
  (cg a0.aM).bind fun x1=>if x1=true then(if(decide (a0.a8>=0))=true then(if(decide (a0.a8<=a0.bF))=true then(if(decide (a0.bF<=18014398509481984))=true then(if(decide (a0.bt>=1))=true then(some (decide (a0.bt<=100)))else(some false))else(some false))else(some false))else(some false))else(some false)
def dS(a0:Int)(a1:Int)(a2:Int):Option (Int):=
  some (if 0>(if(IntKind.wrap .i64 (a0-a2))>(IntKind.wrap .i64 (a1-a0))then(IntKind.wrap .i64 (a0-a2))else(IntKind.wrap .i64 (a1-a0)))then 0 else(if(IntKind.wrap .i64 (a0-a2))>(IntKind.wrap .i64 (a1-a0))then(IntKind.wrap .i64 (a0-a2))else(IntKind.wrap .i64 (a1-a0))))
def fk(a0:ag)(a1:aa):Option (Int):=
  (bg a0).bind fun x1=>if(!x1)=true then(some 0)else((cg a1).bind fun x3=>if(!x3)=true then(some 0)else((bc a0.aF).bind fun x5=>(bc a0.az).bind fun x6=>(bc a1).bind fun x7=>(dS x7.a0 x5.a0 x6.a0).bind fun x8=>(dS x7.a1 x5.a1 x6.a1).bind fun x9=>(dS x7.a2 x5.a2 x6.a2).bind fun x10=>some (IntKind.wrap .i64 ((IntKind.wrap .i64 ((IntKind.wrap .i64 (0+(IntKind.wrap .i64 (x8*x8))))+(IntKind.wrap .i64 (x9*x9))))+(IntKind.wrap .i64 (x10*x10))))))
def dP(a0:ag)(a1:aa):Option (Int):=
  (fk a0 a1).bind fun x1=>some x1
def dC(a0:Int)(a1:Int)(a2:Int):Option (Int):=
  some (if(IntKind.wrap .i64 (a0-a1))>(IntKind.wrap .i64 (a2-a0))then(IntKind.wrap .i64 (a0-a1))else(IntKind.wrap .i64 (a2-a0)))
def eU(a0:ag)(a1:aa):Option (Int):=
  (bg a0).bind fun x1=>if(!x1)=true then(some 0)else((cg a1).bind fun x3=>if(!x3)=true then(some 0)else((bc a0.aF).bind fun x5=>(bc a0.az).bind fun x6=>(bc a1).bind fun x7=>(dC x7.a0 x5.a0 x6.a0).bind fun x8=>(dC x7.a1 x5.a1 x6.a1).bind fun x9=>(dC x7.a2 x5.a2 x6.a2).bind fun x10=>some (IntKind.wrap .i64 ((IntKind.wrap .i64 ((IntKind.wrap .i64 (0+(IntKind.wrap .i64 (x8*x8))))+(IntKind.wrap .i64 (x9*x9))))+(IntKind.wrap .i64 (x10*x10))))))
def fi(a0:ag)(a1:aa):Option (Int):=
  (eU a0 a1).bind fun x1=>some x1
def fI(a0:aq)(a1:ag)(a2:aa):Option (aq×Int×Int):=
  (dP a1 a2).bind fun x1=>(fi a1 a2).bind fun x2=>some (a0,x1,x2)
def fH(j3:Int)(j4:Int):Option (Int):=
  if(decide (j3>=256))=true then((tC [0,1,2,2,3,3,3,3,4,4,4,4,4,4,4,4,5,5,5,5,5,5,5,5,5,5,5,5,5,5,5,5,6,6,6,6,6,6,6,6,6,6,6,6,6,6,6,6,6,6,6,6,6,6,6,6,6,6,6,6,6,6,6,6,7,7,7,7,7,7,7,7,7,7,7,7,7,7,7,7,7,7,7,7,7,7,7,7,7,7,7,7,7,7,7,7,7,7,7,7,7,7,7,7,7,7,7,7,7,7,7,7,7,7,7,7,7,7,7,7,7,7,7,7,7,7,7,7,8,8,8,8,8,8,8,8,8,8,8,8,8,8,8,8,8,8,8,8,8,8,8,8,8,8,8,8,8,8,8,8,8,8,8,8,8,8,8,8,8,8,8,8,8,8,8,8,8,8,8,8,8,8,8,8,8,8,8,8,8,8,8,8,8,8,8,8,8,8,8,8,8,8,8,8,8,8,8,8,8,8,8,8,8,8,8,8,8,8,8,8,8,8,8,8,8,8,8,8,8,8,8,8,8,8,8,8,8,8,8,8,8,8,8,8,8,8,8,8,8,8,8,8,8,8,8,8] (IntKind.wrap .u8 (oj .u64 j3 8))).bind fun x6=>some (IntKind.wrap .i64 ((IntKind.wrap .i64 (j4+8))+(IntKind.wrap .i64 x6))))else((tC [0,1,2,2,3,3,3,3,4,4,4,4,4,4,4,4,5,5,5,5,5,5,5,5,5,5,5,5,5,5,5,5,6,6,6,6,6,6,6,6,6,6,6,6,6,6,6,6,6,6,6,6,6,6,6,6,6,6,6,6,6,6,6,6,7,7,7,7,7,7,7,7,7,7,7,7,7,7,7,7,7,7,7,7,7,7,7,7,7,7,7,7,7,7,7,7,7,7,7,7,7,7,7,7,7,7,7,7,7,7,7,7,7,7,7,7,7,7,7,7,7,7,7,7,7,7,7,7,8,8,8,8,8,8,8,8,8,8,8,8,8,8,8,8,8,8,8,8,8,8,8,8,8,8,8,8,8,8,8,8,8,8,8,8,8,8,8,8,8,8,8,8,8,8,8,8,8,8,8,8,8,8,8,8,8,8,8,8,8,8,8,8,8,8,8,8,8,8,8,8,8,8,8,8,8,8,8,8,8,8,8,8,8,8,8,8,8,8,8,8,8,8,8,8,8,8,8,8,8,8,8,8,8,8,8,8,8,8,8,8,8,8,8,8,8,8,8,8,8,8,8,8,8,8,8,8] (IntKind.wrap .u8 j3)).bind fun x7=>some (IntKind.wrap .i64 (j4+(IntKind.wrap .i64 x7))))
def eR(j1:Int)(j2:Int):Option (Int):=
  if(decide (j1>=65536))=true then(fH (oj .u64 j1 16) (IntKind.wrap .i64 (j2+16)))else(fH j1 j2)
def jT(a0:Int):Option (Int):=
  if(decide (a0>=4294967296))=true then(eR (oj .u64 a0 32) 32)else(eR a0 0)
def eQ(a0:Int):Option (Int):=
  (jT a0).bind fun x1=>some x1
def fj(a0:Int):(Int×Int)->Option (nX (Int×Int) (Int)):=fun(s5,s6)=>
  if(decide (s6>0))=true then((pr .i64 a0 (orI .i64 s5 s6)).bind fun x10=>if(decide ((orI .i64 s5 s6)<=x10))=true then(some (.next ((orI .i64 s5 s6),(oj .i64 s6 1))))else(some (.next (s5,(oj .i64 s6 1)))))else(some (.stop s5))
def dZ(a0:Int):Option (Int):=
  if(decide (a0<=0))=true then(some 0)else((eQ (IntKind.wrap .u64 a0)).bind fun x2=>(pr .i64 (IntKind.wrap .i64 (x2-1)) 2).bind fun x3=>(vq .i64 1 x3).bind fun x4=>(nW (fj a0) (0,x4)).bind fun o13=>some o13)
def fJ(a0:Int):Option (Int):=
  (dZ a0).bind fun x1=>if(decide ((IntKind.wrap .i64 (x1*x1))<a0))=true then(some (IntKind.wrap .i64 (x1+1)))else(some x1)
def iE(a0:aq):Option (Int):=
  some (IntKind.wrap .i64 (a0.aQ*(IntKind.wrap .i64 ((a0.aF.length:Int)-1))))
def eO(a0:Int)(d0:aq)(d1:Int):Option (Bool):=
  some (decide ((IntKind.wrap .i64 (a0*d0.aQ))>=d1))
def eN(d0:aq)(d1:Int):(Int×Int)->Option (nX (Int×Int) (Int)):=fun(s1,s2)=>
  if(decide (s1<s2))=true then((eO (IntKind.wrap .i64 (oj .u64 (IntKind.wrap .u64 (IntKind.wrap .i64 (s1+s2))) 1)) d0 d1).bind fun x6=>if(!x6)=true then(some (.next ((IntKind.wrap .i64 ((IntKind.wrap .i64 (oj .u64 (IntKind.wrap .u64 (IntKind.wrap .i64 (s1+s2))) 1))+1)),s2)))else(some (.next (s1,(IntKind.wrap .i64 (oj .u64 (IntKind.wrap .u64 (IntKind.wrap .i64 (s1+s2))) 1))))))else(some (.stop s1))
def cE(a0:Int)(d0:aq)(d1:Int):Option (Int):=
  (nW (eN d0 d1) (0,a0)).bind fun o9=>some o9
def bI(a0:aq)(a1:Int)(a2:Int):Option (Int×Int×Int):=
  (bY a0).bind fun x1=>if(x1 != 0)=true then(some (0,0,21))else(if(decide (a1<0))=true then(some (0,0,2))else(if(decide (a1>a2))=true then(some (0,0,2))else((fJ a2).bind fun x5=>(iE a0).bind fun x6=>if(decide (x5>x6))=true then(some (0,0,22))else((cE (a0.az.length:Int) a0 x5).bind fun x8=>(dZ a1).bind fun x9=>(pr .i64 x9 a0.aQ).bind fun x10=>(nZ a0.aF x10).bind fun x11=>(nZ a0.az x8).bind fun x12=>some (x11,x12,0)))))
def cL(a0:aq)(a1:ag)(a2:aa):Option (Int×Int×Int):=
  (bY a0).bind fun x1=>if(x1 != 0)=true then(some (0,0,x1))else((bg a1).bind fun x3=>if(!x3)=true then(some (0,0,20))else((cg a2).bind fun x5=>if(!x5)=true then(some (0,0,20))else((fI a0 a1 a2).bind fun x7=>(bI x7.1 x7.2.1 x7.2.2).bind fun x8=>some (x8.1,x8.2.1,x8.2.2))))
def cf(a0:aq)(a1:ag)(a2:aC):Option (al×Int):=
  (bY a0).bind fun x1=>if(x1 != 0)=true then(some ((al.mk 0 0),x1))else((bg a1).bind fun x3=>if(!x3)=true then(some ((al.mk 0 0),20))else((cj a2).bind fun x5=>if(!x5)=true then(some ((al.mk 0 0),23))else((cL a0 a1 a2.aM).bind fun x7=>if(x7.2.2 != 0)=true then(some ((al.mk 0 0),x7.2.2))else(some ((al.mk (IntKind.wrap .i64 (a2.a8-x7.2.1)) (IntKind.wrap .i64 (a2.bF-x7.1))),0)))))
def fh(a1:(List aC))(a0:aV):Int->Option (nX (Int) ((Unit)⊕(Int))):=fun s16=>
  if(decide (s16<(a1.length:Int)))=true then((nZ a1 s16).bind fun x19=>(cf a0.aS a0.aG x19).bind fun x20=>if(x20.2 != 0)=true then(some (.stop (.inr x20.2)))else(some (.next (IntKind.wrap .i64 (s16+1)))))else(some (.stop (.inl ())))
def fg(a0:aV)(a1:(List aC)):Option (Int):=
  (bg a0.aG).bind fun x1=>if(!x1)=true then(some 27)else((bY a0.aS).bind fun x3=>if(x3 != 0)=true then(some 27)else((ep a0.bN 1 1099511627776).bind fun x5=>if(!x5)=true then(some 27)else((ep a0.bJ 0 1099511627776).bind fun x7=>if(!x7)=true then(some 27)else((ep a0.kW 0 1099511627776).bind fun x9=>if(!x9)=true then(some 27)else((ep a0.mW 0 1099511627776).bind fun x11=>if(!x11)=true then(some 27)else((ep a0.kV 2 16).bind fun x13=>if(!x13)=true then(some 27)else(if(decide ((a1.length:Int)>256))=true then(some 8)else((nW (fh a1 a0) 0).bind fun o23=>match o23 with| .inl _=>(some 0)| .inr r25=>(some r25)))))))))
def ch(a0:ba):Option (Bool):=
  (bY a0.bL).bind fun x1=>if(x1==0)=true then(if(decide (a0.bo>=0))=true then(if(decide (a0.bo<=65536))=true then(if(decide (a0.bf>=1))=true then(some (decide (a0.bf<=65536)))else(some false))else(some false))else(some false))else(some false)
def eE(a0:aw):Option (Int):=
  (fg a0.aA []).bind fun x1=>if(x1 != 0)=true then(some 27)else((ch a0.dY).bind fun x3=>if(!x3)=true then(some 27)else(if(decide (a0.bJ<0))=true then(some 27)else(if(decide (a0.bJ>1099511627776))=true then(some 27)else(some 0))))
def jK(a0:Int):Option (Bool):=
  if(decide (a0>=65))=true then(if(decide (a0<=90))=true then(some true)else(if(decide (a0>=48))=true then(some (decide (a0<=57)))else(some false)))else(if(decide (a0>=48))=true then(some (decide (a0<=57)))else(some false))
def gf(a0:(List UInt8)):Int->Option (nX (Int) ((Unit)⊕(Bool))):=fun s1=>
  if(decide (s1<(a0.length:Int)))=true then((tC a0 s1).bind fun x4=>(jK x4).bind fun x5=>if(!x5)=true then(some (.stop (.inr false)))else(some (.next (IntKind.wrap .i64 (s1+1)))))else(some (.stop (.inl ())))
def eF(a0:(List UInt8))(a1:Int)(a2:Int):Option (Bool):=
  (nW (gf a0) 0).bind fun o8=>match o8 with| .inl _=>(if(decide ((a0.length:Int)>=a1))=true then(some (decide ((a0.length:Int)<=a2)))else(some false))| .inr r10=>(some r10)
def fB(a0:ap):Option (Bool):=
  (eF a0.aY 1 2).bind fun x1=>if x1=true then((eF a0.aM 1 5).bind fun x3=>if x3=true then((eF a0.aK 0 2).bind fun x5=>if x5=true then(if((a0.aK.length:Int) != 1)=true then((eF a0.bd 3 3).bind fun x8=>some x8)else(some false))else(some false))else(some false))else(some false)
def mI(a0:Int)(a1:Int)(a2:Int):Option (Bool):=
  if(decide (a0>=a1))=true then(some (decide (a0<=a2)))else(some false)
def rate_gcd_l7:(Int×Int)->Option (nX (Int×Int) (Int)):=fun(s1,s2)=>
  if(s2 != 0)=true then((vO s1 s2).bind fun x6=>some (.next (s2,x6)))else(some (.stop s1))
def ml(a0:Int)(a1:Int):Option (Int):=
  (nW (rate_gcd_l7) (a0,a1)).bind fun o8=>some o8
def iQ(a0:aX):Option (Bool):=
  (mI a0.bo 1 4096).bind fun x1=>if x1=true then((mI a0.bf 1 4096).bind fun x3=>if x3=true then((ml a0.bo a0.bf).bind fun x5=>some (x5==1))else(some false))else(some false)
def a7(a0:Int)(a1:Int)(a2:Int):Option (Bool):=
  if(decide (a0>=a1))=true then(some (decide (a0<=a2)))else(some false)
def gA(a0:Int):Option (Bool):=
  (a7 a0 (-1048576) 1048576).bind fun x1=>some (!x1)
def cx(a0:(List Int)):Int->Option (nX (Int) ((Unit)⊕(Int))):=fun s1=>
  if(decide (s1<(a0.length:Int)))=true then((nZ a0 s1).bind fun x4=>(gA x4).bind fun x5=>if x5=true then(some (.stop (.inr s1)))else(some (.next (IntKind.wrap .i64 (s1+1)))))else(some (.stop (.inl ())))
def co(a0:(List Int)):Option (Int):=
  (nW (cx a0) 0).bind fun o8=>match o8 with| .inl _=>(some (-1))| .inr r10=>(some r10)
def bX(a0:(List Int)):Option (Bool):=
  (co a0).bind fun x1=>some (decide (x1>=0))
def bT(a0:(List Int)):Option (Bool):=
  (bX a0).bind fun x1=>some (!x1)
def ju(a0:(List Int)):(Int×Int)->Option (nX (Int×Int) (Int)):=fun(s1,s2)=>
  if(decide (s2<(a0.length:Int)))=true then((nZ a0 s2).bind fun x6=>some (.next ((IntKind.wrap .i64 (s1+x6)),(IntKind.wrap .i64 (s2+1)))))else(some (.stop s1))
def cP(a0:(List Int)):Option (Int):=
  (nW (ju a0) (0,0)).bind fun o8=>some o8
def b7(a0:aD):Option (Bool):=
  if((a0.cW.length:Int)==0)=true then(if(a0.cM==0)=true then(if(a0.eM==0)=true then(if(a0.c8==0)=true then(if((a0.bo.a0==a0.bo.a0)&&((a0.bo.a1==0)&&((a0.bo.a2==0)&&true)))=true then(if((a0.bf.a0==a0.bf.a0)&&((a0.bf.a1==0)&&((a0.bf.a2==0)&&true)))=true then((a7 a0.bo.a0 1 1048576).bind fun x7=>if x7=true then((a7 a0.bf.a0 1 1048576).bind fun x9=>some x9)else(some false))else(some false))else(some false))else(some false))else(if(a0.eM==1)=true then(if(a0.c8==0)=true then((bT [a0.bo.a0,a0.bo.a1,a0.bo.a2]).bind fun x12=>if x12=true then((bT [a0.bf.a0,a0.bf.a1,a0.bf.a2]).bind fun x14=>if x14=true then(some (a0.bf.a0 != 0))else(some false))else(some false))else(some false))else(if(a0.eM==2)=true then(if((a0.bo.a0==0)&&((a0.bo.a1==0)&&((a0.bo.a2==0)&&true)))=true then(if((a0.bf.a0==0)&&((a0.bf.a1==0)&&((a0.bf.a2==0)&&true)))=true then((a7 (a0.cW.length:Int) 1 128).bind fun x19=>if x19=true then((bT a0.cW).bind fun x21=>if x21=true then((cP a0.cW).bind fun x23=>if(x23 != 0)=true then((a7 a0.cM 1 64).bind fun x25=>if x25=true then((a7 a0.c8 0 40).bind fun x27=>some x27)else(some false))else(some false))else(some false))else(some false))else(some false))else(some false))else(some false))))else(if(a0.eM==0)=true then(some false)else(if(a0.eM==1)=true then(some false)else(if(a0.eM==2)=true then(if((a0.bo.a0==0)&&((a0.bo.a1==0)&&((a0.bo.a2==0)&&true)))=true then(if((a0.bf.a0==0)&&((a0.bf.a1==0)&&((a0.bf.a2==0)&&true)))=true then((a7 (a0.cW.length:Int) 1 128).bind fun x33=>if x33=true then((bT a0.cW).bind fun x35=>if x35=true then((cP a0.cW).bind fun x37=>if(x37 != 0)=true then((a7 a0.cM 1 64).bind fun x39=>if x39=true then((a7 a0.c8 0 40).bind fun x41=>some x41)else(some false))else(some false))else(some false))else(some false))else(some false))else(some false))else(some false)))))else(if(a0.eM==0)=true then(some false)else(if(a0.eM==1)=true then(some false)else(if(a0.eM==2)=true then(if((a0.bo.a0==0)&&((a0.bo.a1==0)&&((a0.bo.a2==0)&&true)))=true then(if((a0.bf.a0==0)&&((a0.bf.a1==0)&&((a0.bf.a2==0)&&true)))=true then((a7 (a0.cW.length:Int) 1 128).bind fun x47=>if x47=true then((bT a0.cW).bind fun x49=>if x49=true then((cP a0.cW).bind fun x51=>if(x51 != 0)=true then((a7 a0.cM 1 64).bind fun x53=>if x53=true then((a7 a0.c8 0 40).bind fun x55=>some x55)else(some false))else(some false))else(some false))else(some false))else(some false))else(some false))else(some false))))
def dG(a0:aD):Option (Bool):=
  (b7 a0).bind fun x1=>some (!x1)
def bU(a0:(List aD)):Int->Option (nX (Int) ((Unit)⊕(Int))):=fun s1=>
  if(decide (s1<(a0.length:Int)))=true then((nZ a0 s1).bind fun x4=>(dG x4).bind fun x5=>if x5=true then(some (.stop (.inr s1)))else(some (.next (IntKind.wrap .i64 (s1+1)))))else(some (.stop (.inl ())))
def b9(a0:(List aD)):Option (Int):=
  (nW (bU a0) 0).bind fun o8=>match o8 with| .inl _=>(some (-1))| .inr r10=>(some r10)
def bM(a0:(List aD)):Option (Bool):=
  (b9 a0).bind fun x1=>some (decide (x1>=0))
def fA(a0:(List aD)):(Int×Int)->Option (nX (Int×Int) ((Int)⊕(Int))):=fun(s1,s2)=>
  if(decide (s2<(a0.length:Int)))=true then((nZ a0 s2).bind fun x6=>if(x6.eM != 2)=true then(some (.next (s1,(IntKind.wrap .i64 (s2+1)))))else(if(decide ((IntKind.wrap .i64 (s1*x6.cM))>64))=true then(some (.stop (.inr 0)))else(some (.next ((IntKind.wrap .i64 (s1*x6.cM)),(IntKind.wrap .i64 (s2+1)))))))else(some (.stop (.inl s1)))
def ek(a0:(List aD)):Option (Int):=
  (nW (fA a0) (1,0)).bind fun o10=>match o10 with| .inl y11=>(some y11)| .inr r12=>(some r12)
def d7(a0:aL):Option (Bool):=
  if(decide ((a0.bn.length:Int)>8))=true then(some false)else((bM a0.bn).bind fun x2=>if x2=true then(some false)else((ek a0.bn).bind fun x4=>some (decide (x4>0))))
def cv(a0:Int)(a1:Int)(a2:Int):Option (Bool):=
  if(decide (a0>=a1))=true then(some (decide (a0<=a2)))else(some false)
def cB(a0:aj):Option (Bool):=
  if(decide (a0.aT>=0))=true then(if(decide (a0.aT<a0.fTo))=true then(if(decide (a0.fTo<=9007199254740992))=true then((iQ a0.fd).bind fun x4=>if x4=true then((d7 a0.br).bind fun x6=>if x6=true then((cv a0.aW.fX (-1048576) 1048576).bind fun x8=>if x8=true then((cv a0.aW.fY (-1048576) 1048576).bind fun x10=>if x10=true then((cv a0.aW.fZ (-16384) 1048576).bind fun x12=>some x12)else(some false))else(some false))else(some false))else(some false))else(some false))else(some false))else(some false)
def dm(a0:(List aj)):Int->Option (nX (Int) ((Unit)⊕(Bool))):=fun s1=>
  if(decide (s1<(a0.length:Int)))=true then((nZ a0 s1).bind fun x4=>(cB x4).bind fun x5=>if(!x5)=true then(some (.stop (.inr false)))else(if(decide (s1>0))=true then((nZ a0 (IntKind.wrap .i64 (s1-1))).bind fun x8=>if(decide (x4.aT<x8.fTo))=true then(some (.stop (.inr false)))else(some (.next (IntKind.wrap .i64 (s1+1)))))else(some (.next (IntKind.wrap .i64 (s1+1))))))else(some (.stop (.inl ())))
def dU(a0:(List aj)):Option (Bool):=
  (nW (dm a0) 0).bind fun o11=>match o11 with| .inl _=>((cv (a0.length:Int) 1 32).bind fun x14=>some x14)| .inr r13=>(some r13)
def eT(a0:(List UInt8)):Option (Bool):=
  some (!(a0==a0))
def bH(a0:(List UInt8))(a1:(List UInt8)):Option (Int):=
  (eT a0).bind fun x1=>(eT a1).bind fun x2=>if x1=true then(if x2=true then(some 0)else(some (-1)))else(if x2=true then(some 1)else(if(Op.bytesLess a0 a1)=true then(some (-1))else(if(!(Op.bytesLess a0 a1||a0==a1))=true then(some 1)else(some 0))))
def cH(a0:(List Int)):Int->Option (nX (Int) ((Unit)⊕(Int))):=fun s1=>
  if(decide (s1<(a0.length:Int)))=true then((nZ a0 s1).bind fun x4=>if(x4 != 0)=true then(some (.stop (.inr x4)))else(some (.next (IntKind.wrap .i64 (s1+1)))))else(some (.stop (.inl ())))
def cp(a0:(List Int)):Option (Int):=
  (nW (cH a0) 0).bind fun o7=>match o7 with| .inl _=>(some 0)| .inr r9=>(some r9)
def dB(a0:ap)(a1:ap):Option (Int):=
  (bH a0.aY a1.aY).bind fun x1=>(bH a0.aM a1.aM).bind fun x2=>(bH a0.aK a1.aK).bind fun x3=>(bH a0.bd a1.bd).bind fun x4=>(cp [x1,x2,x3,x4]).bind fun x5=>some x5
def dF(a0:aB):Int->Option (nX (Int) ((Unit)⊕(Bool))):=fun s1=>
  if(decide (s1<(a0.aP.length:Int)))=true then((nZ a0.aP s1).bind fun x4=>(fB x4.aJ).bind fun x5=>if(!x5)=true then(some (.stop (.inr false)))else((dU x4.bu).bind fun x7=>if(!x7)=true then(some (.stop (.inr false)))else(if(decide (s1>0))=true then((nZ a0.aP (IntKind.wrap .i64 (s1-1))).bind fun x10=>(dB x10.aJ x4.aJ).bind fun x11=>if(decide (x11>=0))=true then(some (.stop (.inr false)))else(some (.next (IntKind.wrap .i64 (s1+1)))))else(some (.next (IntKind.wrap .i64 (s1+1)))))))else(some (.stop (.inl ())))
def c6(a0:aB):Option (Bool):=
  (nW (dF a0) 0).bind fun o14=>match o14 with| .inl _=>(some (decide ((a0.aP.length:Int)<=128)))| .inr r16=>(some r16)
def dO(a0:Int):Option (Bool):=
  some (a0 != a0)
def bA(a0:Int)(a1:Int):Option (Int):=
  (dO a0).bind fun x1=>(dO a1).bind fun x2=>if x1=true then(if x2=true then(some 0)else(some (-1)))else(if x2=true then(some 1)else(if(decide (a0<a1))=true then(some (-1))else(if(decide (a0>a1))=true then(some 1)else(some 0))))
def bW(a0:ar)(a1:ar):Option (Int):=
  (dB a0.aJ a1.aJ).bind fun x1=>(bA a0.bS a1.bS).bind fun x2=>(bA a0.a8 a1.a8).bind fun x3=>(bA a0.bF a1.bF).bind fun x4=>(bA a0.bj a1.bj).bind fun x5=>(bA a0.bO a1.bO).bind fun x6=>(cp [x1,x2,x3,x4,x5,x6]).bind fun x7=>some x7
def fb(s2:Int)(d0:(List ar)):(Int×Int×(List ar))->Option (nX (Int×Int×(List ar)) (Int×(List ar))):=fun(s13,s14,s15)=>
  (lenV s15.length (0+(s2:Int).toNat) (0+((d0.length:Int):Int).toNat)).bind fun x19=>if(decide (s14<x19))=true then((inV s15.length (0+(s2:Int).toNat) (0+((d0.length:Int):Int).toNat) s14).bind fun _=>(nZ s15 (((0+(s2:Int).toNat)+(s14:Int).toNat:Nat):Int)).bind fun x22=>(inV s15.length (0+(s2:Int).toNat) (0+((d0.length:Int):Int).toNat) (IntKind.wrap .i64 (s14-1))).bind fun _=>(nZ s15 (((0+(s2:Int).toNat)+((IntKind.wrap .i64 (s14-1)):Int).toNat:Nat):Int)).bind fun x24=>if(!(((x22.aJ.aY==x24.aJ.aY)&&((x22.aJ.aM==x24.aJ.aM)&&((x22.aJ.aK==x24.aJ.aK)&&((x22.aJ.bd==x24.aJ.bd)&&true))))&&((x22.bS==x24.bS)&&((x22.a8==x24.a8)&&((x22.bF==x24.bF)&&((x22.bj==x24.bj)&&((x22.bO==x24.bO)&&true)))))))=true then((inV s15.length (0+(s2:Int).toNat) (0+((d0.length:Int):Int).toNat) s14).bind fun _=>(nZ s15 (((0+(s2:Int).toNat)+(s14:Int).toNat:Nat):Int)).bind fun x27=>(inO s15 s13).bind fun _=>(sZ s15 s13 x27).bind fun x30=>some (.next ((IntKind.wrap .i64 (s13+1)),(IntKind.wrap .i64 (s14+1)),x30)))else(some (.next (s13,(IntKind.wrap .i64 (s14+1)),s15))))else(some (.stop (s13,s15)))
def fc(d0:(List ar)):Int->Option (nX (Int) ((Unit)⊕((List ar)))):=fun s2=>
  if(decide (s2<(d0.length:Int)))=true then((inO d0 s2).bind fun _=>(nZ d0 s2).bind fun x7=>(inO d0 (IntKind.wrap .i64 (s2-1))).bind fun _=>(nZ d0 (IntKind.wrap .i64 (s2-1))).bind fun x10=>if(((x7.aJ.aY==x10.aJ.aY)&&((x7.aJ.aM==x10.aJ.aM)&&((x7.aJ.aK==x10.aJ.aK)&&((x7.aJ.bd==x10.aJ.bd)&&true))))&&((x7.bS==x10.bS)&&((x7.a8==x10.a8)&&((x7.bF==x10.bF)&&((x7.bj==x10.bj)&&((x7.bO==x10.bO)&&true))))))=true then((uI d0.length s2 (d0.length:Int)).bind fun _=>(nW (fb s2 d0) (s2,1,d0)).bind fun o32=>(uI o32.2.length o32.1 (o32.2.length:Int)).bind fun _=>(xm o32.2.length (0+(o32.1:Int).toNat) (0+((o32.2.length:Int):Int).toNat)).bind fun _=>(uI (rm o32.2 (0+(o32.1:Int).toNat) ((0+((o32.2.length:Int):Int).toNat)-(0+(o32.1:Int).toNat)) (ar.mk (ap.mk [] [] [] []) 0 0 0 0 0)).length 0 o32.1).bind fun _=>(wh (rm o32.2 (0+(o32.1:Int).toNat) ((0+((o32.2.length:Int):Int).toNat)-(0+(o32.1:Int).toNat)) (ar.mk (ap.mk [] [] [] []) 0 0 0 0 0)) (0+(0:Int).toNat) (0+(o32.1:Int).toNat)).bind fun x37=>some (.stop (.inr x37)))else(some (.next (IntKind.wrap .i64 (s2+1)))))else(some (.stop (.inl ())))
def dH(d0:(List ar)):Option ((List ar)):=
  if(decide ((d0.length:Int)<2))=true then(some d0)else((nW (fc d0) 1).bind fun o39=>match o39 with| .inl _=>(some d0)| .inr r41=>(some r41))
def ey(a0:(List ar)):Option ((List ar)):=
  (py 104 a0).bind fun x1=>(ug bW x1).bind fun x2=>(dH x2).bind fun x3=>some x3
def gr(a0:Int)(a1:Int)(a2:Int):Option (Bool):=
  if(decide (a0>=a1))=true then(some (decide (a0<=a2)))else(some false)
def dV(a0:ar):Option (Bool):=
  (fB a0.aJ).bind fun x1=>if x1=true then(if(decide (a0.a8>=0))=true then(if(decide (a0.a8<=a0.bS))=true then(if(decide (a0.bS<=a0.bF))=true then(if(decide (a0.bF<=18014398509481984))=true then((gr a0.bj 0 1073741823).bind fun x7=>if x7=true then((gr a0.bO (-1) 1).bind fun x9=>some x9)else(some false))else(some false))else(some false))else(some false))else(some false))else(some false)
def dD(x1:(List aD)):(Int×(List aD))->Option (nX (Int×(List aD)) ((List aD))):=fun(s2,s3)=>
  if(decide (s2<(x1.length:Int)))=true then((inO s3 s2).bind fun _=>(nZ s3 s2).bind fun x9=>(py 8 x9.cW).bind fun x10=>(inO s3 s2).bind fun _=>(modO s3 s2 (fun(z14:aD)=>(aD.mk z14.eM z14.bo z14.bf x10 z14.cM z14.c8))).bind fun x13=>some (.next ((IntKind.wrap .i64 (s2+1)),x13)))else(some (.stop s3))
def cU(a0:aj):Option (aj):=
  (py 96 a0.br.bn).bind fun x1=>(nW (dD x1) (0,x1)).bind fun o16=>some (aj.mk a0.aT a0.fTo a0.fd a0.aW (aL.mk o16))
def dl(x1:(List aj)):(Int×(List aj))->Option (nX (Int×(List aj)) ((List aj))):=fun(s2,s3)=>
  if(decide (s2<(x1.length:Int)))=true then((inO s3 s2).bind fun _=>(nZ s3 s2).bind fun x9=>(cU x9).bind fun x10=>(inO s3 s2).bind fun _=>(sZ s3 s2 x10).bind fun x13=>some (.next ((IntKind.wrap .i64 (s2+1)),x13)))else(some (.stop s3))
def dT(a0:au):Option (au):=
  (py 80 a0.bu).bind fun x1=>(nW (dl x1) (0,x1)).bind fun o15=>some (au.mk a0.aJ o15)
def eu(a0:aB)(a1:ap):Int->Option (nX (Int) ((Unit)⊕(au×Bool))):=fun s1=>
  if(decide (s1<(a0.aP.length:Int)))=true then((nZ a0.aP s1).bind fun x4=>if((x4.aJ.aY==a1.aY)&&((x4.aJ.aM==a1.aM)&&((x4.aJ.aK==a1.aK)&&((x4.aJ.bd==a1.bd)&&true))))=true then((dT x4).bind fun x6=>some (.stop (.inr (x6,true))))else(some (.next (IntKind.wrap .i64 (s1+1)))))else(some (.stop (.inl ())))
def eV(a0:aB)(a1:ap):Option (au×Bool):=
  (nW (eu a0 a1) 0).bind fun o8=>match o8 with| .inl _=>(some ((au.mk (ap.mk [] [] [] []) []),false))| .inr r10=>(some r10)
def gO(a0:au)(a1:Int):Int->Option (nX (Int) ((Unit)⊕(aj×Bool))):=fun s1=>
  if(decide (s1<(a0.bu.length:Int)))=true then((nZ a0.bu s1).bind fun x4=>if(decide (x4.aT<=a1))=true then(if(decide (a1<x4.fTo))=true then(some (.stop (.inr (x4,true))))else(some (.next (IntKind.wrap .i64 (s1+1)))))else(some (.next (IntKind.wrap .i64 (s1+1)))))else(some (.stop (.inl ())))
def gn(a0:au)(a1:Int):Option (aj×Bool):=
  (nW (gO a0 a1) 0).bind fun o8=>match o8 with| .inl _=>(some ((aj.mk 0 0 (aX.mk 0 0) (aa.mk 0 0 0) (aL.mk [])),false))| .inr r10=>(some r10)
def gm(a0:aB)(a1:ap)(a2:Int):Option (aj×Int):=
  (c6 a0).bind fun x1=>if(!x1)=true then(some ((aj.mk 0 0 (aX.mk 0 0) (aa.mk 0 0 0) (aL.mk [])),1))else((eV a0 a1).bind fun x3=>(gn x3.1 a2).bind fun x4=>if(!x4.2)=true then(some ((aj.mk 0 0 (aX.mk 0 0) (aa.mk 0 0 0) (aL.mk [])),6))else(some (x4.1,0)))
def cJ(a0:aw)(a1:aB)(a2:ar):Option (aC×aj×Bool):=
  (dV a2).bind fun x1=>if(!x1)=true then(some ((aC.mk (aa.mk 0 0 0) 0 0 0),(aj.mk 0 0 (aX.mk 0 0) (aa.mk 0 0 0) (aL.mk [])),false))else((gm a1 a2.aJ a2.bS).bind fun x3=>if(x3.2 != 0)=true then(some ((aC.mk (aa.mk 0 0 0) 0 0 0),(aj.mk 0 0 (aX.mk 0 0) (aa.mk 0 0 0) (aL.mk [])),false))else((cf a0.aA.aS a0.aA.aG (aC.mk x3.1.aW a2.a8 a2.bF 1)).bind fun x5=>if(x5.2 != 0)=true then(some ((aC.mk (aa.mk 0 0 0) 0 0 0),(aj.mk 0 0 (aX.mk 0 0) (aa.mk 0 0 0) (aL.mk [])),false))else(some ((aC.mk x3.1.aW a2.a8 a2.bF 1),x3.1,true))))
def gB(x5:(List ar))(a0:aw)(a1:aB):(Int×(List ar)×(List aC)×(List aj))->Option (nX (Int×(List ar)×(List aC)×(List aj)) ((List ar)×(List aC)×(List aj))):=fun(s6,s7,s8,s9)=>
  if(decide (s6<(x5.length:Int)))=true then((nZ x5 s6).bind fun x15=>(cJ a0 a1 x15).bind fun x16=>if x16.2.2=true then((px s7 [x15] 104).bind fun x18=>(px s8 [x16.1] 48).bind fun x19=>(px s9 [x16.2.1] 80).bind fun x20=>some (.next ((IntKind.wrap .i64 (s6+1)),x18,x19,x20)))else(some (.next ((IntKind.wrap .i64 (s6+1)),s7,s8,s9))))else(some (.stop (s7,s8,s9)))
def eo(a0:aw)(a1:aB)(a2:(List ar)):Option (aI×Int):=
  (eE a0).bind fun x1=>if(x1 != 0)=true then(some ((aI.mk [] [] []),27))else((c6 a1).bind fun x3=>if(!x3)=true then(some ((aI.mk [] [] []),1))else((ey a2).bind fun x5=>(nW (gB x5 a0 a1) (0,([]:(List ar)),([]:(List aC)),([]:(List aj)))).bind fun o22=>some ((aI.mk o22.1 o22.2.1 o22.2.2),0)))
def cC(a0:aI)(a1:aw):Option (ae×Int):=
  if((a0.cm.length:Int)==0)=true then(some ((ae.mk (ag.mk (aa.mk 0 0 0) (aa.mk 0 0 0)) (aq.mk 0 [] []) [] 0),24))else(if(decide ((a0.cm.length:Int)>64))=true then(some ((ae.mk (ag.mk (aa.mk 0 0 0) (aa.mk 0 0 0)) (aq.mk 0 [] []) [] 0),8))else((py 8 a1.aA.aS.aF).bind fun x3=>(py 8 a1.aA.aS.az).bind fun x4=>some ((ae.mk a1.aA.aG (aq.mk a1.aA.aS.aQ x3 x4) a0.cm a1.aA.bN),0)))
def jD(a0:ae):Int->Option (nX (Int) ((Unit)⊕(Int))):=fun s9=>
  if(decide (s9<(a0.aN.length:Int)))=true then((nZ a0.aN s9).bind fun x12=>(cf a0.aS a0.aG x12).bind fun x13=>if(x13.2 != 0)=true then(some (.stop (.inr x13.2)))else(some (.next (IntKind.wrap .i64 (s9+1)))))else(some (.stop (.inl ())))
def fF(a0:ae):Option (Int):=
  (bg a0.aG).bind fun x1=>if(!x1)=true then(some 20)else((bY a0.aS).bind fun x3=>if(x3 != 0)=true then(some x3)else(if((a0.aN.length:Int)==0)=true then(some 24)else(if(decide ((a0.aN.length:Int)>64))=true then(some 8)else(if(decide (a0.bN<1))=true then(some 2)else(if(decide (a0.bN>1099511627776))=true then(some 2)else((nW (jD a0) 0).bind fun o16=>match o16 with| .inl _=>(some 0)| .inr r18=>(some r18)))))))
def et(a0:ag)(a1:aa):Option (Bool):=
  (bg a0).bind fun x1=>if x1=true then((cg a1).bind fun x3=>if x3=true then((dP a0 a1).bind fun x5=>some (x5==0))else(some false))else(some false)
def gN(a0:ag)(a1:ag):Option (Bool):=
  (bg a0).bind fun x1=>if x1=true then((et a1 a0.aF).bind fun x3=>if x3=true then((et a1 a0.az).bind fun x5=>some x5)else(some false))else(some false)
def iO(a0:ae)(a1:ag):(Int×(List al))->Option (nX (Int×(List al)) (((List al))⊕((List al)×Int))):=fun(s2,s3)=>
  if(decide (s2<(a0.aN.length:Int)))=true then((nZ a0.aN s2).bind fun x7=>(cf a0.aS a1 x7).bind fun x8=>if(x8.2 != 0)=true then(some (.stop (.inr (([]:(List al)),x8.2))))else((px s3 [x8.1] 16).bind fun x10=>some (.next ((IntKind.wrap .i64 (s2+1)),x10))))else(some (.stop (.inl s3)))
def jI(a0:ae)(a1:ag):Option ((List al)×Int):=
  (mkCO 0 (a0.aN.length:Int) (al.mk 0 0) 16).bind fun x1=>(nW (iO a0 a1) (0,x1)).bind fun o12=>match o12 with| .inl y13=>(some (y13,0))| .inr r14=>(some r14)
def fx(a0:ae)(a1:ag):Option ((List al)×Int):=
  (fF a0).bind fun x1=>if(x1 != 0)=true then(some (([]:(List al)),x1))else((gN a1 a0.aG).bind fun x3=>if(!x3)=true then(some (([]:(List al)),20))else((jI a0 a1).bind fun x5=>some (x5.1,x5.2)))
def fE(a0:al)(a1:Int):Option (Int):=
  some (if 0>(if(IntKind.wrap .i64 (a1-a0.fTo))>(IntKind.wrap .i64 (a0.aT-a1))then(IntKind.wrap .i64 (a1-a0.fTo))else(IntKind.wrap .i64 (a0.aT-a1)))then 0 else(if(IntKind.wrap .i64 (a1-a0.fTo))>(IntKind.wrap .i64 (a0.aT-a1))then(IntKind.wrap .i64 (a1-a0.fTo))else(IntKind.wrap .i64 (a0.aT-a1))))
def js(a0:ae)(a1:(List al))(a2:Int):(Int×Int)->Option (nX (Int×Int) (Int)):=fun(s1,s2)=>
  if(decide (s2<(a0.aN.length:Int)))=true then((nZ a0.aN s2).bind fun x6=>if(decide (s2<(a1.length:Int)))=true then((nZ a1 s2).bind fun x8=>(fE x8 a2).bind fun x9=>some (.next ((IntKind.wrap .i64 (s1+(IntKind.wrap .i64 (x6.bt*(if x9<a0.bN then x9 else a0.bN))))),(IntKind.wrap .i64 (s2+1)))))else(some (.next (s1,(IntKind.wrap .i64 (s2+1))))))else(some (.stop s1))
def f4(a0:ae)(a1:(List al))(a2:Int):Option (Int):=
  (nW (js a0 a1 a2) (0,0)).bind fun o11=>some o11
def kc(a1:(List al)):(Int×(List Int))->Option (nX (Int×(List Int)) ((List Int))):=fun(s2,s3)=>
  if(decide (s2<(a1.length:Int)))=true then((nZ a1 s2).bind fun x7=>(px s3 [x7.aT,x7.fTo] 8).bind fun x8=>some (.next ((IntKind.wrap .i64 (s2+1)),x8)))else(some (.stop s3))
def jr(x20:Int)(o10:(List Int))(a0:ae)(a1:(List al)):(Int×Int×Int)->Option (nX (Int×Int×Int) (Int×Int)):=fun(s21,s22,s23)=>
  if(decide (s23<x20))=true then((inV o10.length (0+(1:Int).toNat) (0+((o10.length:Int):Int).toNat) s23).bind fun _=>(nZ o10 (((0+(1:Int).toNat)+(s23:Int).toNat:Nat):Int)).bind fun x29=>(f4 a0 a1 x29).bind fun x30=>if(decide (x30<s22))=true then(some (.next (x29,x30,(IntKind.wrap .i64 (s23+1)))))else(if(x30==s22)=true then(if(decide (x29<s21))=true then(some (.next (x29,x30,(IntKind.wrap .i64 (s23+1)))))else(some (.next (s21,s22,(IntKind.wrap .i64 (s23+1))))))else(some (.next (s21,s22,(IntKind.wrap .i64 (s23+1)))))))else(some (.stop (s21,s22)))
def fW(a0:ae)(a1:(List al)):Option (Int×Int):=
  (mkCO 0 (IntKind.wrap .i64 (2*(a1.length:Int))) 0 8).bind fun x1=>(nW (kc a1) (0,x1)).bind fun o10=>if((o10.length:Int)==0)=true then(some (0,0))else((inO o10 0).bind fun _=>(nZ o10 0).bind fun x14=>(inO o10 0).bind fun _=>(nZ o10 0).bind fun x17=>(f4 a0 a1 x17).bind fun x18=>(uI o10.length 1 (o10.length:Int)).bind fun _=>(lenV o10.length (0+(1:Int).toNat) (0+((o10.length:Int):Int).toNat)).bind fun x20=>(nW (jr x20 o10 a0 a1) (x14,x18,0)).bind fun o35=>some (o35.1,o35.2))
def dL(a0:ae)(a1:ag):Option (Int×Int):=
  (fx a0 a1).bind fun x1=>if(x1.2 != 0)=true then(some (0,x1.2))else((fW a0 x1.1).bind fun x3=>some (x3.2,0))
def lJ(a0:ah)(e1:ae)(e2:Int)(e3:Int)(e4:Bool)(e5:ai):Option ((List ah)):=
  (px ([]:List ah) [a0] 64).bind fun x1=>some x1
def eK(d0:(List ah)):Option (Int×(List ah)):=
  some ((d0.length:Int),d0)
def f7(a1:Int)(a2:Int)(d0:(List ah)):Option ((List ah)):=
  (inO d0 a2).bind fun _=>(nZ d0 a2).bind fun x3=>(inO d0 a1).bind fun _=>(nZ d0 a1).bind fun x6=>(inO d0 a1).bind fun _=>(sZ d0 a1 x3).bind fun x9=>(inO x9 a2).bind fun _=>(sZ x9 a2 x6).bind fun x12=>some x12
def fe(a1:Int)(a2:Int)(d0:(List ah)):Option (Bool×(List ah)):=
  (inO d0 a1).bind fun _=>(nZ d0 a1).bind fun x3=>(inO d0 a2).bind fun _=>(nZ d0 a2).bind fun x6=>(bA x3.bQ x6.bQ).bind fun x7=>(inO d0 a1).bind fun _=>(nZ d0 a1).bind fun x10=>(inO d0 a2).bind fun _=>(nZ d0 a2).bind fun x13=>(bA x10.er x13.er).bind fun x14=>(cp [x7,x14]).bind fun x15=>some ((decide (x15<0)),d0)
def kC:(Int×(List ah))->Option (nX (Int×(List ah)) ((List ah))):=fun(s1,s2)=>
  (pr .i64 (IntKind.wrap .i64 (s1-1)) 2).bind fun x4=>if(x4==s1)=true then((some s2).bind fun z6=>some (.stop z6))else((fe s1 x4 s2).bind fun x7=>if(!x7.1)=true then((some x7.2).bind fun z9=>some (.stop z9))else((f7 x4 s1 x7.2).bind fun x10=>some (.next (x4,x10))))
def lC(a0:Int)(e1:ae)(e2:Int)(e3:Int)(e4:Bool)(e5:ai)(d1:(List ah)):Option ((List ah)):=
  (nW (kC) (a0,d1)).bind fun o12=>some o12
def jN(a0:ah)(e1:ae)(e2:Int)(e3:Int)(e4:Bool)(e5:ai):Option ((List ah)):=
  (lJ a0 e1 e2 e3 e4 e5).bind fun x1=>(eK x1).bind fun x2=>(lC (IntKind.wrap .i64 (x2.1-1)) e1 e2 e3 e4 e5 x2.2).bind fun x3=>some x3
def gK(x1:Int×Int)(j2:Int)(j3:(List ah)):Option (Int×(List ah)×Int):=
  some (x1.2,j3,j2)
def iW(a0:ag)(e1:ae)(e2:Int)(e3:Int)(e4:Bool)(e5:ai):Option (Int×(List ah)×Int):=
  (dL e1 a0).bind fun x1=>if(x1.2==0)=true then((jN (ah.mk a0 x1.1 e2) e1 e2 e3 e4 e5).bind fun x6=>gK x1 (IntKind.wrap .i64 (e2+1)) x6)else(gK x1 e2 ([]:List ah))
def gt(a0:Int)(e1:ae)(e2:Int)(e3:Int)(e4:Bool)(e5:ai)(d1:(List ah)):Option (Bool):=
  if((d1.length:Int)==0)=true then(some true)else(if e4=true then((inO d1 0).bind fun _=>(nZ d1 0).bind fun x5=>some (decide ((IntKind.wrap .i64 (e5.aZ-x5.bQ))<=a0)))else(some false))
def dQ(s1:Int)(j8:Int)(j9:(List ah)):Option (nX (Int×(List ah)) (Int×(List ah))):=
  (fe j8 s1 j9).bind fun x10=>if(!x10.1)=true then(some (.stop (s1,x10.2)))else((f7 s1 j8 x10.2).bind fun x12=>some (.next (j8,x12)))
def kX(a1:Int):(Int×(List ah))->Option (nX (Int×(List ah)) (Int×(List ah))):=fun(s1,s2)=>
  if(decide ((IntKind.wrap .i64 ((IntKind.wrap .i64 (2*s1))+1))>=a1))=true then(some (.stop (s1,s2)))else(if(decide ((IntKind.wrap .i64 ((IntKind.wrap .i64 (2*s1))+1))<0))=true then(some (.stop (s1,s2)))else(if(decide ((IntKind.wrap .i64 ((IntKind.wrap .i64 ((IntKind.wrap .i64 (2*s1))+1))+1))<a1))=true then((fe (IntKind.wrap .i64 ((IntKind.wrap .i64 ((IntKind.wrap .i64 (2*s1))+1))+1)) (IntKind.wrap .i64 ((IntKind.wrap .i64 (2*s1))+1)) s2).bind fun x15=>if x15.1=true then(dQ s1 (IntKind.wrap .i64 ((IntKind.wrap .i64 ((IntKind.wrap .i64 (2*s1))+1))+1)) x15.2)else(dQ s1 (IntKind.wrap .i64 ((IntKind.wrap .i64 (2*s1))+1)) x15.2))else(dQ s1 (IntKind.wrap .i64 ((IntKind.wrap .i64 (2*s1))+1)) s2)))
def jO(a0:Int)(a1:Int)(e2:ae)(e3:Int)(e4:Int)(e5:Bool)(e6:ai)(d1:(List ah)):Option (Bool×(List ah)):=
  (nW (kX a1) (a0,d1)).bind fun o18=>some ((decide (o18.1>a0)),o18.2)
def mH(e0:ae)(e1:Int)(e2:Int)(e3:Bool)(e4:ai)(d1:(List ah)):Option (ah×(List ah)):=
  (inO d1 (IntKind.wrap .i64 ((d1.length:Int)-1))).bind fun _=>(nZ d1 (IntKind.wrap .i64 ((d1.length:Int)-1))).bind fun x3=>(uI d1.length 0 (IntKind.wrap .i64 ((d1.length:Int)-1))).bind fun _=>some (x3,(d1.take ((IntKind.wrap .i64 ((d1.length:Int)-1)):Int).toNat))
def lg(e0:ae)(e1:Int)(e2:Int)(e3:Bool)(e4:ai)(d1:(List ah)):Option (ah×(List ah)):=
  (eK d1).bind fun x1=>(f7 0 (IntKind.wrap .i64 (x1.1-1)) x1.2).bind fun x2=>(jO 0 (IntKind.wrap .i64 (x1.1-1)) e0 e1 e2 e3 e4 x2).bind fun x3=>(mH e0 e1 e2 e3 e4 x3.2).bind fun x4=>some (x4.1,x4.2)
def bB(a0:Int)(a1:Int):Option (Int):=
  (pr .i64 (IntKind.wrap .i64 (a1-a0)) 2).bind fun x1=>some (IntKind.wrap .i64 (a0+x1))
def bi(a0:aO):Option (aa):=
  some (aa.mk a0.a0 a0.a1 a0.a2)
def ei(a0:ag):Option (aa):=
  (bg a0).bind fun x1=>if(!x1)=true then(some (aa.mk 0 0 0))else((bc a0.aF).bind fun x3=>(bc a0.az).bind fun x4=>(bB x3.a0 x4.a0).bind fun x5=>(bB x3.a1 x4.a1).bind fun x6=>(bB x3.a2 x4.a2).bind fun x7=>(bi (aO.mk x5 x6 x7)).bind fun x8=>some x8)
def eY(a0:ae)(a1:aa):Option (Int×Int×Int):=
  (fx a0 (ag.mk a1 a1)).bind fun x1=>if(x1.2 != 0)=true then(some (0,0,x1.2))else((fW a0 x1.1).bind fun x3=>some (x3.1,x3.2,0))
def gj(a0:aa)(a1:aa):Option (Int):=
  (bA a0.fX a1.fX).bind fun x1=>(bA a0.fY a1.fY).bind fun x2=>(bA a0.fZ a1.fZ).bind fun x3=>(cp [x1,x2,x3]).bind fun x4=>some x4
def ia(a0:ag)(e1:ae)(e2:Int)(e3:Int)(e4:Bool)(e5:ai)(d1:(List ah)):Option (Int×Bool×ai):=
  (ei a0).bind fun x1=>(eY e1 x1).bind fun x2=>if(x2.2.2 != 0)=true then(some (x2.2.2,e4,e5))else(if(!e4)=true then(some (0,true,(ai.mk x1 x2.1 x2.2.1 0 (ag.mk (aa.mk 0 0 0) (aa.mk 0 0 0)))))else(if(decide (x2.2.1<e5.aZ))=true then(some (0,true,(ai.mk x1 x2.1 x2.2.1 0 (ag.mk (aa.mk 0 0 0) (aa.mk 0 0 0)))))else(if(x2.2.1==e5.aZ)=true then((gj x1 e5.bp).bind fun x7=>if(decide (x7<0))=true then(some (0,true,(ai.mk x1 x2.1 x2.2.1 0 (ag.mk (aa.mk 0 0 0) (aa.mk 0 0 0)))))else(some (0,e4,e5)))else(some (0,e4,e5)))))
def gM(a0:ag):Option (Int):=
  (bg a0).bind fun x1=>if(!x1)=true then(some 0)else((bc a0.az).bind fun x3=>(bc a0.aF).bind fun x4=>some (IntKind.wrap .i64 ((IntKind.wrap .i64 ((IntKind.wrap .i64 (1*(IntKind.wrap .i64 ((IntKind.wrap .i64 (x3.a0-x4.a0))+1))))*(IntKind.wrap .i64 ((IntKind.wrap .i64 (x3.a1-x4.a1))+1))))*(IntKind.wrap .i64 ((IntKind.wrap .i64 (x3.a2-x4.a2))+1)))))
def d4(a0:ag):Option (ag×ag×Bool):=
  (gM a0).bind fun x1=>if(decide (x1<2))=true then(some ((ag.mk (aa.mk 0 0 0) (aa.mk 0 0 0)),(ag.mk (aa.mk 0 0 0) (aa.mk 0 0 0)),false))else((bc a0.aF).bind fun x3=>(bc a0.az).bind fun x4=>if(decide ((IntKind.wrap .i64 (x4.a1-x3.a1))>(IntKind.wrap .i64 (x4.a0-x3.a0))))=true then(if(decide ((IntKind.wrap .i64 (x4.a2-x3.a2))>(IntKind.wrap .i64 (x4.a1-x3.a1))))=true then((bB x3.a2 x4.a2).bind fun x7=>(bi (aO.mk x4.a0 x4.a1 x7)).bind fun x8=>(bi (aO.mk x3.a0 x3.a1 (IntKind.wrap .i64 (x7+1)))).bind fun x9=>some ((ag.mk a0.aF x8),(ag.mk x9 a0.az),true))else((bB x3.a1 x4.a1).bind fun x10=>(bi (aO.mk x4.a0 x10 x4.a2)).bind fun x11=>(bi (aO.mk x3.a0 (IntKind.wrap .i64 (x10+1)) x3.a2)).bind fun x12=>some ((ag.mk a0.aF x11),(ag.mk x12 a0.az),true)))else(if(decide ((IntKind.wrap .i64 (x4.a2-x3.a2))>(IntKind.wrap .i64 (x4.a0-x3.a0))))=true then((bB x3.a2 x4.a2).bind fun x14=>(bi (aO.mk x4.a0 x4.a1 x14)).bind fun x15=>(bi (aO.mk x3.a0 x3.a1 (IntKind.wrap .i64 (x14+1)))).bind fun x16=>some ((ag.mk a0.aF x15),(ag.mk x16 a0.az),true))else((bB x3.a0 x4.a0).bind fun x17=>(bi (aO.mk x17 x4.a1 x4.a2)).bind fun x18=>(bi (aO.mk (IntKind.wrap .i64 (x17+1)) x3.a1 x3.a2)).bind fun x19=>some ((ag.mk a0.aF x18),(ag.mk x19 a0.az),true))))
def kG(a0:ah)(e1:ae)(e2:Int)(e3:Int)(e4:Bool)(e5:ai)(d1:(List ah)):Option ((List ah)):=
  (px d1 [a0] 64).bind fun x1=>some x1
def iK(a0:ah)(e1:ae)(e2:Int)(e3:Int)(e4:Bool)(e5:ai)(d1:(List ah)):Option ((List ah)):=
  (kG a0 e1 e2 e3 e4 e5 d1).bind fun x1=>(eK x1).bind fun x2=>(lC (IntKind.wrap .i64 (x2.1-1)) e1 e2 e3 e4 e5 x2.2).bind fun x3=>some x3
def gc(x1:Int×Int)(j2:Int)(j3:(List ah)):Option (Int×Int×(List ah)):=
  some (x1.2,j2,j3)
def f9(a0:ag)(e1:ae)(e2:Int)(e3:Int)(e4:Bool)(e5:ai)(d1:(List ah)):Option (Int×Int×(List ah)):=
  (dL e1 a0).bind fun x1=>if(x1.2==0)=true then((iK (ah.mk a0 x1.1 e2) e1 e2 e3 e4 e5 d1).bind fun x6=>gc x1 (IntKind.wrap .i64 (e2+1)) x6)else(gc x1 e2 d1)
def ib(e0:ae)(e1:Int)(e2:Int)(e3:Bool)(e4:ai)(d1:(List ah)):Option (Int×Int×Int×Bool×ai×(List ah)):=
  if(e2==3000)=true then(some (25,e1,e2,e3,e4,d1))else((inO d1 0).bind fun _=>(nZ d1 0).bind fun x4=>(lg e0 e1 e2 e3 e4 d1).bind fun x5=>(ia x4.gU e0 e1 (IntKind.wrap .i64 (e2+1)) e3 e4 x5.2).bind fun x6=>if(x6.1 != 0)=true then(some (x6.1,e1,(IntKind.wrap .i64 (e2+1)),x6.2.1,x6.2.2,x5.2))else((d4 x4.gU).bind fun x8=>if(!x8.2.2)=true then(some (0,e1,(IntKind.wrap .i64 (e2+1)),x6.2.1,x6.2.2,x5.2))else((f9 x8.1 e0 e1 (IntKind.wrap .i64 (e2+1)) x6.2.1 x6.2.2 x5.2).bind fun x10=>if(x10.1 != 0)=true then(some (x10.1,x10.2.1,(IntKind.wrap .i64 (e2+1)),x6.2.1,x6.2.2,x10.2.2))else((f9 x8.2.1 e0 x10.2.1 (IntKind.wrap .i64 (e2+1)) x6.2.1 x6.2.2 x10.2.2).bind fun x12=>some (x12.1,x12.2.1,(IntKind.wrap .i64 (e2+1)),x6.2.1,x6.2.2,x12.2.2)))))
def ir(a1:Int)(a0:ae):(Int×Int×Bool×ai×(List ah))->Option (nX (Int×Int×Bool×ai×(List ah)) (((List ah)×Int×Int×Bool×ai)⊕((Option bz)×Int))):=fun(s6,s7,s8,s9,s10)=>
  (gt a1 a0 s6 s7 s8 s9 s10).bind fun x17=>if(!x17)=true then((ib a0 s6 s7 s8 s9 s10).bind fun x19=>if(x19.1 != 0)=true then(some (.stop (.inr (none,x19.1))))else(some (.next (x19.2.1,x19.2.2.1,x19.2.2.2.1,x19.2.2.2.2.1,x19.2.2.2.2.2))))else(some (.stop (.inl (s10,s6,s7,s8,s9))))
def fU(a0:ae)(a1:Int):Option ((Option bz)×Int):=
  (fF a0).bind fun x1=>if(x1 != 0)=true then(some (none,x1))else(if(decide (a1<0))=true then(some (none,2))else((iW a0.aG a0 0 0 false (ai.mk (aa.mk 0 0 0) 0 0 0 (ag.mk (aa.mk 0 0 0) (aa.mk 0 0 0)))).bind fun x4=>if(x4.1 != 0)=true then(some (none,x4.1))else((nW (ir a1 a0) (x4.2.2,0,false,(ai.mk (aa.mk 0 0 0) 0 0 0 (ag.mk (aa.mk 0 0 0) (aa.mk 0 0 0))),x4.2.1)).bind fun o22=>match o22 with| .inl y23=>(some ((some (bz.mk a0 y23.1 y23.2.1 y23.2.2.1 y23.2.2.2.1 (ai.mk (aa.mk y23.2.2.2.2.bp.fX y23.2.2.2.2.bp.fY y23.2.2.2.2.bp.fZ) y23.2.2.2.2.bS y23.2.2.2.2.aZ y23.2.2.2.2.iH (ag.mk (aa.mk y23.2.2.2.2.bK.aF.fX y23.2.2.2.2.bK.aF.fY y23.2.2.2.2.bK.aF.fZ) (aa.mk y23.2.2.2.2.bK.az.fX y23.2.2.2.2.bK.az.fY y23.2.2.2.2.bK.az.fZ))))),0))| .inr r24=>(some r24))))
def jc(a0:ag)(a1:ag):Option (ag):=
  (bg a0).bind fun x1=>if(!x1)=true then(some (ag.mk (aa.mk 0 0 0) (aa.mk 0 0 0)))else((bg a1).bind fun x3=>if(!x3)=true then(some (ag.mk (aa.mk 0 0 0) (aa.mk 0 0 0)))else((bc a0.aF).bind fun x5=>(bc a0.az).bind fun x6=>(bc a1.aF).bind fun x7=>(bc a1.az).bind fun x8=>(bi (aO.mk (if x7.a0<x5.a0 then x7.a0 else x5.a0) (if x7.a1<x5.a1 then x7.a1 else x5.a1) (if x7.a2<x5.a2 then x7.a2 else x5.a2))).bind fun x9=>(bi (aO.mk (if x8.a0>x6.a0 then x8.a0 else x6.a0) (if x8.a1>x6.a1 then x8.a1 else x6.a1) (if x8.a2>x6.a2 then x8.a2 else x6.a2))).bind fun x10=>some (ag.mk x9 x10)))
def iq(y2:bz):(Int×Int×ag)->Option (nX (Int×Int×ag) (Int×ag)):=fun(s5,s6,s7)=>
  if(decide (s5<(y2.im.length:Int)))=true then((nZ y2.im s5).bind fun x12=>if(decide (x12.bQ<y2.bC.aZ))=true then((jc s7 x12.gU).bind fun x14=>some (.next ((IntKind.wrap .i64 (s5+1)),(if x12.bQ<s6 then x12.bQ else s6),x14)))else(some (.next ((IntKind.wrap .i64 (s5+1)),(if x12.bQ<s6 then x12.bQ else s6),s7))))else(some (.stop (s6,s7)))
def eJ(a0:ae)(a1:Int):Option (ai×Int):=
  (fU a0 a1).bind fun x1=>optC x1.1 (if(x1.2 != 0)=true then(some ((ai.mk (aa.mk 0 0 0) 0 0 0 (ag.mk (aa.mk 0 0 0) (aa.mk 0 0 0))),x1.2))else(none)) (fun y2=>if(x1.2 != 0)=true then(some ((ai.mk (aa.mk 0 0 0) 0 0 0 (ag.mk (aa.mk 0 0 0) (aa.mk 0 0 0))),x1.2))else((nW (iq y2) (0,y2.bC.aZ,(ag.mk y2.bC.bp y2.bC.bp))).bind fun o16=>some ((ai.mk y2.bC.bp y2.bC.bS y2.bC.aZ o16.1 (ag.mk (aa.mk o16.2.aF.fX o16.2.aF.fY o16.2.aF.fZ) (aa.mk o16.2.az.fX o16.2.az.fY o16.2.az.fZ))),0)))
def nat_From_l9:(Int×(List Int))->Option (nX (Int×(List Int)) ((List Int))):=fun(s2,s3)=>
  if(decide (s2>0))=true then((vO s2 1073741824).bind fun x7=>(px s3 [x7] 8).bind fun x8=>some (.next ((oj .i64 s2 30),x8)))else(some (.stop s3))
def nI(a0:Int):Option ((List Int)×Int):=
  if(decide (a0<0))=true then(some (([]:(List Int)),2))else((nW (nat_From_l9) (a0,([]:(List Int)))).bind fun o10=>some (o10,0))
def ke(a0:Int):Option (Bool):=
  if(decide (a0<0))=true then(some true)else(some (decide (a0>=1073741824)))
def ff(a0:(List Int)):Int->Option (nX (Int) ((Unit)⊕(Int))):=fun s1=>
  if(decide (s1<(a0.length:Int)))=true then((nZ a0 s1).bind fun x4=>(ke x4).bind fun x5=>if x5=true then(some (.stop (.inr s1)))else(some (.next (IntKind.wrap .i64 (s1+1)))))else(some (.stop (.inl ())))
def d8(a0:(List Int)):Option (Int):=
  (nW (ff a0) 0).bind fun o8=>match o8 with| .inl _=>(some (-1))| .inr r10=>(some r10)
def bV(a0:(List Int)):Option (Bool):=
  (d8 a0).bind fun x1=>some (decide (x1>=0))
def hZ(a0:(List Int)):Option (Bool):=
  if(decide ((a0.length:Int)>64))=true then(some false)else(if(decide ((a0.length:Int)>0))=true then((nZ a0 (IntKind.wrap .i64 ((a0.length:Int)-1))).bind fun x3=>if(x3==0)=true then(some false)else((bV a0).bind fun x5=>some (!x5)))else((bV a0).bind fun x6=>some (!x6)))
def mi(a0:(List Int))(a1:(List Int)):Option (Bool):=
  (hZ a0).bind fun x1=>if x1=true then((hZ a1).bind fun x3=>some x3)else(some false)
def jP(a0:(List Int))(a1:Int):Option (Int):=
  if(decide (a1>=(a0.length:Int)))=true then(some 0)else((nZ a0 a1).bind fun x2=>some x2)
def nat_trim_l8:(List Int)->Option (nX ((List Int)) ((List Int))):=fun s1=>
  if(decide ((s1.length:Int)>0))=true then((nZ s1 (IntKind.wrap .i64 ((s1.length:Int)-1))).bind fun x5=>if(x5==0)=true then((cutO s1 0 (IntKind.wrap .i64 ((s1.length:Int)-1))).bind fun x7=>some (.next x7))else(some (.stop s1)))else(some (.stop s1))
def mj(a0:(List Int)):Option ((List Int)):=
  (nW (nat_trim_l8) a0).bind fun o9=>some o9
def ln(a1:(List Int))(s2:Int)(x7:Int):(Int×Int×(List Int))->Option (nX (Int×Int×(List Int)) (Int×(List Int))):=fun(s8,s9,s10)=>
  if(decide (s9<(IntKind.wrap .i64 ((a1.length:Int)+1))))=true then(if(decide ((IntKind.wrap .i64 (s2+s9))<(s10.length:Int)))=true then((inO s10 (IntKind.wrap .i64 (s2+s9))).bind fun _=>(nZ s10 (IntKind.wrap .i64 (s2+s9))).bind fun x18=>(jP a1 s9).bind fun x19=>(vO (IntKind.wrap .i64 (s8+(IntKind.wrap .i64 (x18+(IntKind.wrap .i64 (x7*x19)))))) 1073741824).bind fun x20=>(inO s10 (IntKind.wrap .i64 (s2+s9))).bind fun _=>(sZ s10 (IntKind.wrap .i64 (s2+s9)) x20).bind fun x23=>some (.next ((oj .i64 (IntKind.wrap .i64 (s8+(IntKind.wrap .i64 (x18+(IntKind.wrap .i64 (x7*x19)))))) 30),(IntKind.wrap .i64 (s9+1)),x23)))else(some (.next (s8,(IntKind.wrap .i64 (s9+1)),s10))))else(some (.stop (s2,s10)))
def lp(a0:(List Int))(a1:(List Int)):(Int×(List Int))->Option (nX (Int×(List Int)) ((List Int))):=fun(s2,s3)=>
  if(decide (s2<(a0.length:Int)))=true then((nZ a0 s2).bind fun x7=>(nW (ln a1 s2 x7) (0,0,s3)).bind fun o25=>some (.next ((IntKind.wrap .i64 (o25.1+1)),o25.2)))else(some (.stop s3))
def gq(a0:(List Int))(a1:(List Int)):Option ((List Int)):=
  (mkO (IntKind.wrap .i64 ((a0.length:Int)+(a1.length:Int))) 0 8).bind fun x1=>(nW (lp a0 a1) (0,x1)).bind fun o27=>(mj o27).bind fun x28=>some x28
def f5(a0:(List Int)):Option ((List Int)×Int):=
  (mj a0).bind fun x1=>if(decide ((x1.length:Int)>64))=true then(some (([]:(List Int)),8))else(some (x1,0))
def nat_Mul(a0:(List Int))(a1:(List Int)):Option ((List Int)×Int):=
  (mi a0 a1).bind fun x1=>if(!x1)=true then(some (([]:(List Int)),1))else((gq a0 a1).bind fun x3=>(f5 x3).bind fun x4=>some (x4.1,x4.2))
def cw(a0:Int):Option ((List Int)):=
  (nI (if(IntKind.wrap .i64 (0-a0))>a0 then(IntKind.wrap .i64 (0-a0))else a0)).bind fun x1=>(nat_Mul x1.1 x1.1).bind fun x2=>some x2.1
def nat_Add_l13(a1:(List Int))(a0:(List Int)):(Int×Int×(List Int))->Option (nX (Int×Int×(List Int)) ((List Int))):=fun(s3,s4,s5)=>
  if(decide (s4<(IntKind.wrap .i64 ((if(a1.length:Int)>(a0.length:Int)then(a1.length:Int)else(a0.length:Int))+1))))=true then((jP a0 s4).bind fun x9=>(jP a1 s4).bind fun x10=>(vO (IntKind.wrap .i64 (s3+(IntKind.wrap .i64 (x9+x10)))) 1073741824).bind fun x11=>(px s5 [x11] 8).bind fun x12=>some (.next ((oj .i64 (IntKind.wrap .i64 (s3+(IntKind.wrap .i64 (x9+x10)))) 30),(IntKind.wrap .i64 (s4+1)),x12)))else(some (.stop s5))
def nat_Add(a0:(List Int))(a1:(List Int)):Option ((List Int)×Int):=
  (mi a0 a1).bind fun x1=>if(!x1)=true then(some (([]:(List Int)),1))else((nW (nat_Add_l13 a1 a0) (0,0,([]:(List Int)))).bind fun o14=>(f5 o14).bind fun x15=>some (x15.1,x15.2))
def e9(a0:aO)(a1:Int)(a2:Int):Option ((List Int)):=
  (cw (IntKind.wrap .i64 ((IntKind.wrap .i64 ((IntKind.wrap .i64 (a0.a0*a2))*a2))-(IntKind.wrap .i64 ((IntKind.wrap .i64 (a0.a2*a1))*a1))))).bind fun x1=>(cw (IntKind.wrap .i64 ((IntKind.wrap .i64 (a0.a1*a1))*a2))).bind fun x2=>(nat_Add x1 x2).bind fun x3=>some x3.1
def jf(a0:aD)(a1:Int)(a2:Int):Option (aH×Bool):=
  if(a0.eM==0)=true then((cw a0.bo.a0).bind fun x2=>(cw a0.bf.a0).bind fun x3=>some ((aH.mk x2 x3),true))else(if(a0.eM==1)=true then((e9 a0.bo a1 a2).bind fun x5=>(e9 a0.bf a1 a2).bind fun x6=>some ((aH.mk x5 x6),(decide ((x6.length:Int)>0))))else((cP a0.cW).bind fun x7=>(cw x7).bind fun x8=>(vq .i64 1 a0.c8).bind fun x9=>(cw x9).bind fun x10=>some ((aH.mk x8 x10),true)))
def ex(a0:aH):Option (Bool):=
  (hZ a0.bo).bind fun x1=>if x1=true then((hZ a0.bf).bind fun x3=>if x3=true then(some (decide ((a0.bf.length:Int)>0)))else(some false))else(some false)
def mG(a0:aH)(a1:aH):Option (aH×Int):=
  (ex a0).bind fun x1=>if(!x1)=true then(some ((aH.mk [] []),1))else((ex a1).bind fun x3=>if(!x3)=true then(some ((aH.mk [] []),1))else((gq a0.bo a1.bo).bind fun x5=>(f5 x5).bind fun x6=>(gq a0.bf a1.bf).bind fun x7=>(f5 x7).bind fun x8=>if(x6.2 != 0)=true then(some ((aH.mk [] []),8))else(if(x8.2 != 0)=true then(some ((aH.mk [] []),8))else(some ((aH.mk x6.1 x8.1),0)))))
def kM(a0:aL)(a1:Int)(a2:Int):(Int×(List Int)×(List Int))->Option (nX (Int×(List Int)×(List Int)) (((List Int)×(List Int))⊕(aH×Int))):=fun(s7,s8,s9)=>
  if(decide (s7<(a0.bn.length:Int)))=true then((nZ a0.bn s7).bind fun x14=>(jf x14 a1 a2).bind fun x15=>if(!x15.2)=true then(some (.stop (.inr ((aH.mk [] []),11))))else((mG (aH.mk s8 s9) x15.1).bind fun x17=>if(x17.2 != 0)=true then(some (.stop (.inr ((aH.mk [] []),x17.2))))else(some (.next ((IntKind.wrap .i64 (s7+1)),x17.1.bo,x17.1.bf)))))else(some (.stop (.inl (s8,s9))))
def je(a0:aL)(a1:Int)(a2:Int):Option (aH×Int):=
  (d7 a0).bind fun x1=>if(!x1)=true then(some ((aH.mk [] []),1))else((a7 a1 0 65536).bind fun x3=>if(!x3)=true then(some ((aH.mk [] []),2))else((a7 a2 1 65536).bind fun x5=>if(!x5)=true then(some ((aH.mk [] []),2))else((nW (kM a0 a1 a2) (0,[1],[1])).bind fun o20=>match o20 with| .inl y21=>(some ((aH.mk y21.1 y21.2),0))| .inr r22=>(some r22))))
def dn(a0:Int)(j15:Int)(j16:Int):Option (Int):=
  some (IntKind.wrap .i64 ((IntKind.wrap .i64 (256*a0))+j16))
def dp(a0:Int)(j13:Int)(j14:Int):Option (Int):=
  if(decide ((oj .i64 (IntKind.wrap .i64 (j13*j13)) 30)>=2147483648))=true then((pr .i64 (oj .i64 (IntKind.wrap .i64 (j13*j13)) 30) 2).bind fun x19=>dn a0 x19 (IntKind.wrap .i64 ((IntKind.wrap .i64 (j14*2))+1)))else(dn a0 (oj .i64 (IntKind.wrap .i64 (j13*j13)) 30) (IntKind.wrap .i64 (j14*2)))
def dq(a0:Int)(j11:Int)(j12:Int):Option (Int):=
  if(decide ((oj .i64 (IntKind.wrap .i64 (j11*j11)) 30)>=2147483648))=true then((pr .i64 (oj .i64 (IntKind.wrap .i64 (j11*j11)) 30) 2).bind fun x22=>dp a0 x22 (IntKind.wrap .i64 ((IntKind.wrap .i64 (j12*2))+1)))else(dp a0 (oj .i64 (IntKind.wrap .i64 (j11*j11)) 30) (IntKind.wrap .i64 (j12*2)))
def dt(a0:Int)(j9:Int)(j10:Int):Option (Int):=
  if(decide ((oj .i64 (IntKind.wrap .i64 (j9*j9)) 30)>=2147483648))=true then((pr .i64 (oj .i64 (IntKind.wrap .i64 (j9*j9)) 30) 2).bind fun x25=>dq a0 x25 (IntKind.wrap .i64 ((IntKind.wrap .i64 (j10*2))+1)))else(dq a0 (oj .i64 (IntKind.wrap .i64 (j9*j9)) 30) (IntKind.wrap .i64 (j10*2)))
def du(a0:Int)(j7:Int)(j8:Int):Option (Int):=
  if(decide ((oj .i64 (IntKind.wrap .i64 (j7*j7)) 30)>=2147483648))=true then((pr .i64 (oj .i64 (IntKind.wrap .i64 (j7*j7)) 30) 2).bind fun x28=>dt a0 x28 (IntKind.wrap .i64 ((IntKind.wrap .i64 (j8*2))+1)))else(dt a0 (oj .i64 (IntKind.wrap .i64 (j7*j7)) 30) (IntKind.wrap .i64 (j8*2)))
def dv(a0:Int)(j5:Int)(j6:Int):Option (Int):=
  if(decide ((oj .i64 (IntKind.wrap .i64 (j5*j5)) 30)>=2147483648))=true then((pr .i64 (oj .i64 (IntKind.wrap .i64 (j5*j5)) 30) 2).bind fun x31=>du a0 x31 (IntKind.wrap .i64 ((IntKind.wrap .i64 (j6*2))+1)))else(du a0 (oj .i64 (IntKind.wrap .i64 (j5*j5)) 30) (IntKind.wrap .i64 (j6*2)))
def dw(a0:Int)(j3:Int)(j4:Int):Option (Int):=
  if(decide ((oj .i64 (IntKind.wrap .i64 (j3*j3)) 30)>=2147483648))=true then((pr .i64 (oj .i64 (IntKind.wrap .i64 (j3*j3)) 30) 2).bind fun x34=>dv a0 x34 (IntKind.wrap .i64 ((IntKind.wrap .i64 (j4*2))+1)))else(dv a0 (oj .i64 (IntKind.wrap .i64 (j3*j3)) 30) (IntKind.wrap .i64 (j4*2)))
def dx(a0:Int)(j1:Int)(j2:Int):Option (Int):=
  if(decide ((oj .i64 (IntKind.wrap .i64 (j1*j1)) 30)>=2147483648))=true then((pr .i64 (oj .i64 (IntKind.wrap .i64 (j1*j1)) 30) 2).bind fun x37=>dw a0 x37 (IntKind.wrap .i64 ((IntKind.wrap .i64 (j2*2))+1)))else(dw a0 (oj .i64 (IntKind.wrap .i64 (j1*j1)) 30) (IntKind.wrap .i64 (j2*2)))
def eX(a0:Int)(a1:Int):Option (Int):=
  if(decide ((oj .i64 (IntKind.wrap .i64 (a1*a1)) 30)>=2147483648))=true then((pr .i64 (oj .i64 (IntKind.wrap .i64 (a1*a1)) 30) 2).bind fun x40=>dx a0 x40 1)else(dx a0 (oj .i64 (IntKind.wrap .i64 (a1*a1)) 30) 0)
def fK(a0:Int):Option (Int×Int):=
  if(decide (a0<1))=true then(some (0,2))else((eQ (IntKind.wrap .u64 a0)).bind fun x2=>if(decide ((IntKind.wrap .i64 (x2-1))<=30))=true then((vq .i64 a0 (IntKind.wrap .i64 (30-(IntKind.wrap .i64 (x2-1))))).bind fun x4=>(eX (IntKind.wrap .i64 (x2-1)) x4).bind fun x5=>some (x5,0))else((shrO .i64 a0 (IntKind.wrap .i64 ((IntKind.wrap .i64 (x2-1))-30))).bind fun x6=>(eX (IntKind.wrap .i64 (x2-1)) x6).bind fun x7=>some (x7,0)))
def eW(a0:(List Int)):Option (Int×Int):=
  (hZ a0).bind fun x1=>if(!x1)=true then(some (0,1))else(if(decide ((IntKind.wrap .i64 ((a0.length:Int)-1))<0))=true then(some (0,2))else(if((IntKind.wrap .i64 ((a0.length:Int)-1))==0)=true then((nZ a0 0).bind fun x5=>(fK x5).bind fun x6=>some (x6.1,x6.2))else((nZ a0 (IntKind.wrap .i64 ((a0.length:Int)-1))).bind fun x7=>(nZ a0 (IntKind.wrap .i64 ((IntKind.wrap .i64 ((a0.length:Int)-1))-1))).bind fun x8=>(fK (orI .i64 (shlI .i64 x7 30) x8)).bind fun x9=>some ((IntKind.wrap .i64 (x9.1+(IntKind.wrap .i64 (7680*(IntKind.wrap .i64 ((IntKind.wrap .i64 ((a0.length:Int)-1))-1)))))),x9.2))))
def gp(a0:ba)(a1:aL)(a2:Int):Option (Int×Int):=
  (je a1 a0.bo a0.bf).bind fun x1=>if(x1.2 != 0)=true then(some (0,x1.2))else((eW x1.1.bo).bind fun x3=>if(x3.2 != 0)=true then(some (0,24))else((eW x1.1.bf).bind fun x5=>if(x5.2 != 0)=true then(some (0,x5.2))else((fK a2).bind fun x7=>some ((IntKind.wrap .i64 ((IntKind.wrap .i64 ((IntKind.wrap .i64 (2*x7.1))+x5.1))-x3.1)),x7.2))))
def fV(a0:Int):Option (Int):=
  some (oj .i64 a0 1)
def iN(a0:Int):Option (Int×Bool):=
  if(decide (a0>=(-16777216)))=true then(some ((IntKind.wrap .i64 (a0*30103)),(decide (a0<=16777216))))else(some ((IntKind.wrap .i64 (a0*30103)),false))
def fD(a0:Int):Option (Int):=
  (iN a0).bind fun x1=>if(!x1.2)=true then(some 0)else((pr .i64 x1.1 256000).bind fun x3=>(vO x1.1 256000).bind fun x4=>if(decide (x4<0))=true then(some (IntKind.wrap .i64 (x3-1)))else(some x3))
def iu(a0:Int):Option (Int):=
  (fD (IntKind.wrap .i64 (0-a0))).bind fun x1=>some (IntKind.wrap .i64 (0-x1))
def ew(a0:ba)(a1:aL)(a2:Int)(a3:Int)(a4:Int):Option (ak×Int):=
  (ch a0).bind fun x1=>if(!x1)=true then(some ((ak.mk 0 0),27))else(if(decide (a2<1))=true then(some ((ak.mk 0 0),2))else(if(decide (a2>1073741823))=true then(some ((ak.mk 0 0),2))else((gp a0 a1 a2).bind fun x5=>if(x5.2 != 0)=true then(some ((ak.mk 0 0),x5.2))else((bI a0.bL a3 a4).bind fun x7=>if(x7.2.2 != 0)=true then(some ((ak.mk 0 0),x7.2.2))else((fV (IntKind.wrap .i64 (x5.1-2))).bind fun x9=>(fD x9).bind fun x10=>(fV (IntKind.wrap .i64 ((IntKind.wrap .i64 (0-x5.1))-6))).bind fun x11=>(iu (IntKind.wrap .i64 (0-x11))).bind fun x12=>some ((ak.mk (IntKind.wrap .i64 (x10+x7.1)) (IntKind.wrap .i64 (x12+x7.2.1))),0))))))
def cN(a0:aI)(a2:ag)(a1:aw):(Int×(List ak))->Option (nX (Int×(List ak)) ((List ak))):=fun(s1,s2)=>
  if(decide (s1<(a0.cm.length:Int)))=true then((nZ a0.cm s1).bind fun x6=>(nZ a0.gL s1).bind fun x7=>(nZ a0.cn s1).bind fun x8=>(dP a2 x6.aM).bind fun x9=>(fi a2 x6.aM).bind fun x10=>(ew a1.dY x7.br x8.bj x9 x10).bind fun x11=>if(x11.2==0)=true then((px s2 [x11.1] 16).bind fun x13=>some (.next ((IntKind.wrap .i64 (s1+1)),x13)))else(some (.next ((IntKind.wrap .i64 (s1+1)),s2))))else(some (.stop s2))
def ci(a0:aI)(a1:aw)(a2:ag):Option ((List ak)):=
  (nW (cN a0 a2 a1) (0,([]:(List ak)))).bind fun o15=>some o15
def fr(a0:ak):Option (Bool):=
  some (decide (a0.aF>a0.az))
def cG(a0:(List ak)):Int->Option (nX (Int) ((Unit)⊕(Int))):=fun s1=>
  if(decide (s1<(a0.length:Int)))=true then((nZ a0 s1).bind fun x4=>(fr x4).bind fun x5=>if x5=true then(some (.stop (.inr s1)))else(some (.next (IntKind.wrap .i64 (s1+1)))))else(some (.stop (.inl ())))
def de(a0:(List ak)):Option (Int):=
  (nW (cG a0) 0).bind fun o8=>match o8 with| .inl _=>(some (-1))| .inr r10=>(some r10)
def bZ(a0:(List ak)):Option (Bool):=
  (de a0).bind fun x1=>some (decide (x1>=0))
def fu(a0:ak):Option (Int):=
  some a0.aF
def jH(a0:Int)(a1:Int):Option (Bool):=
  (dO a0).bind fun x1=>if x1=true then((dO a1).bind fun x3=>if(!x3)=true then(some true)else(some (decide (a0<a1))))else(some (decide (a0<a1)))
def cu(a1:Int)(s1:Int):(Int×(List Int))->Option (nX (Int×(List Int)) (Int×(List Int))):=fun(s5,s6)=>
  if(decide (s5>a1))=true then((inO s6 s5).bind fun _=>(nZ s6 s5).bind fun x13=>(inO s6 (IntKind.wrap .i64 (s5-1))).bind fun _=>(nZ s6 (IntKind.wrap .i64 (s5-1))).bind fun x16=>(jH x13 x16).bind fun x17=>if x17=true then((inO s6 (IntKind.wrap .i64 (s5-1))).bind fun _=>(nZ s6 (IntKind.wrap .i64 (s5-1))).bind fun x21=>(inO s6 s5).bind fun _=>(nZ s6 s5).bind fun x24=>(inO s6 s5).bind fun _=>(sZ s6 s5 x21).bind fun x27=>(inO x27 (IntKind.wrap .i64 (s5-1))).bind fun _=>(sZ x27 (IntKind.wrap .i64 (s5-1)) x24).bind fun x30=>some (.next ((IntKind.wrap .i64 (s5-1)),x30)))else(some (.stop (s1,s6))))else(some (.stop (s1,s6)))
def dR(a2:Int)(a1:Int):(Int×(List Int))->Option (nX (Int×(List Int)) ((List Int))):=fun(s1,s2)=>
  if(decide (s1<a2))=true then((nW (cu a1 s1) (s1,s2)).bind fun o32=>some (.next ((IntKind.wrap .i64 (o32.1+1)),o32.2)))else((some s2).bind fun z33=>some (.stop z33))
def ca(a1:Int)(a2:Int)(d0:(List Int)):Option ((List Int)):=
  (nW (dR a2 a1) ((IntKind.wrap .i64 (a1+1)),d0)).bind fun o35=>some o35
def cy(a2:Int)(a1:Int)(d0:(List Int))(a3:Int):Unit->Option (nX (Unit) ((List Int))):=fun _=>
  if(decide ((IntKind.wrap .i64 (a2-a1))<=12))=true then((ca a1 a2 d0).bind fun x3=>some (.stop x3))else(if(a3==0)=true then(none)else(none))
def gd:Nat->Int->Int->Int->(List Int)->Option ((List Int))
  |0,_,_,_,_=>none
  |nfu+1,a1,a2,a3,d0=>
  (nW (cy a2 a1 d0 a3) ()).bind fun o6=>some o6
def eh(a1:Int)(a2:Int)(a3:Int)(d0:(List Int)):Option ((List Int)):=recO fun n=>gd n a1 a2 a3 d0
def fG(d0:(List Int)):Option ((List Int)):=
  (eQ (IntKind.wrap .u64 (d0.length:Int))).bind fun x1=>(eh 0 (d0.length:Int) x1 d0).bind fun x2=>some x2
def gI(a0:(List ak)):(Int×(List Int))->Option (nX (Int×(List Int)) ((List Int))):=fun(s1,s2)=>
  if(decide (s1<(a0.length:Int)))=true then((nZ a0 s1).bind fun x6=>(fu x6).bind fun x7=>(px s2 [x7] 8).bind fun x8=>some (.next ((IntKind.wrap .i64 (s1+1)),x8)))else(some (.stop s2))
def ed(a0:(List ak)):Option (Int):=
  (nW (gI a0) (0,([]:(List Int)))).bind fun o10=>(fG o10).bind fun x11=>(pr .i64 (IntKind.wrap .i64 ((x11.length:Int)-1)) 2).bind fun x12=>(inO x11 x12).bind fun _=>(nZ x11 x12).bind fun x15=>some x15
def fw(a0:ak):Option (Int):=
  some a0.az
def gJ(a0:(List ak)):(Int×(List Int))->Option (nX (Int×(List Int)) ((List Int))):=fun(s1,s2)=>
  if(decide (s1<(a0.length:Int)))=true then((nZ a0 s1).bind fun x6=>(fw x6).bind fun x7=>(px s2 [x7] 8).bind fun x8=>some (.next ((IntKind.wrap .i64 (s1+1)),x8)))else(some (.stop s2))
def ef(a0:(List ak)):Option (Int):=
  (nW (gJ a0) (0,([]:(List Int)))).bind fun o10=>(fG o10).bind fun x11=>(pr .i64 (IntKind.wrap .i64 ((x11.length:Int)-1)) 2).bind fun x12=>(inO x11 x12).bind fun _=>(nZ x11 x12).bind fun x15=>some x15
def ev(a0:(List ak)):Option (ak×Int):=
  if((a0.length:Int)==0)=true then(some ((ak.mk 0 0),24))else((bZ a0).bind fun x2=>if x2=true then(some ((ak.mk 0 0),1))else((ed a0).bind fun x4=>(ef a0).bind fun x5=>some ((ak.mk x4 x5),0)))
def d9(a0:aw)(a1:aB)(a2:(List ar)):Option (aU×Int):=
  (eo a0 a1 a2).bind fun x1=>if(x1.2 != 0)=true then(some ((aU.mk [] (ai.mk (aa.mk 0 0 0) 0 0 0 (ag.mk (aa.mk 0 0 0) (aa.mk 0 0 0))) (ak.mk 0 0) 0),x1.2))else((cC x1.1 a0).bind fun x3=>if(x3.2 != 0)=true then(some ((aU.mk [] (ai.mk (aa.mk 0 0 0) 0 0 0 (ag.mk (aa.mk 0 0 0) (aa.mk 0 0 0))) (ak.mk 0 0) 0),x3.2))else((eJ x3.1 a0.bJ).bind fun x5=>if(x5.2 != 0)=true then(some ((aU.mk [] (ai.mk (aa.mk 0 0 0) 0 0 0 (ag.mk (aa.mk 0 0 0) (aa.mk 0 0 0))) (ak.mk 0 0) 0),x5.2))else((ci x1.1 a0 x5.1.bK).bind fun x7=>if(decide ((x7.length:Int)>0))=true then((ev x7).bind fun x9=>if(x9.2 != 0)=true then(some ((aU.mk [] (ai.mk (aa.mk 0 0 0) 0 0 0 (ag.mk (aa.mk 0 0 0) (aa.mk 0 0 0))) (ak.mk 0 0) 0),x9.2))else(some ((aU.mk x1.1.cn x5.1 x9.1 (x7.length:Int)),0)))else(some ((aU.mk x1.1.cn x5.1 (ak.mk 0 0) 0),0)))))
def hP:Option (Bool):=
  (ip []).bind fun x1=>(cK 2 x1).bind fun x2=>(eP 3 x2.2).bind fun x3=>(d9 x2.1 x3.1 []).bind fun x4=>(c7 1).bind fun x5=>(d9 x2.1 x3.1 [(ar.mk x5 2500 2500 2500 10 0)]).bind fun x6=>if(x4.2==24)=true then(if(x6.2==0)=true then(if((x6.1.iI.length:Int)==1)=true then((nZ x6.1.iI 0).bind fun x10=>if(((x10.aJ.aY==x5.aY)&&((x10.aJ.aM==x5.aM)&&((x10.aJ.aK==x5.aK)&&((x10.aJ.bd==x5.bd)&&true))))&&((x10.bS==2500)&&((x10.a8==2500)&&((x10.bF==2500)&&((x10.bj==10)&&((x10.bO==0)&&true))))))=true then(if(x6.1.aK.aZ==0)=true then((eE x2.1).bind fun x13=>some (x13==0))else(some false))else(some false))else(some false))else(some false))else(some false)
def gu(a0:aw)(a1:aB)(a2:(List ar)):Option (ae×Int):=
  (eo a0 a1 a2).bind fun x1=>if(x1.2 != 0)=true then(some ((ae.mk (ag.mk (aa.mk 0 0 0) (aa.mk 0 0 0)) (aq.mk 0 [] []) [] 0),x1.2))else((cC x1.1 a0).bind fun x3=>some (x3.1,x3.2))
def mY(a0:ag)(s6:Int)(s7:Int):(Int×(List aa))->Option (nX (Int×(List aa)) (Int×Int×(List aa))):=fun(s13,s14)=>
  if(decide (s13<=a0.az.fZ))=true then((px s14 [(aa.mk s6 s7 s13)] 24).bind fun x20=>some (.next ((IntKind.wrap .i64 (s13+1)),x20)))else(some (.stop (s6,s7,s14)))
def mZ(a0:ag):(Int×Int×(List aa))->Option (nX (Int×Int×(List aa)) (Int×(List aa))):=fun(s6,s7,s8)=>
  if(decide (s7<=a0.az.fY))=true then((nW (mY a0 s6 s7) (a0.aF.fZ,s8)).bind fun o22=>some (.next (o22.1,(IntKind.wrap .i64 (o22.2.1+1)),o22.2.2)))else(some (.stop (s6,s8)))
def m5(a0:ag):(Int×(List aa))->Option (nX (Int×(List aa)) ((List aa))):=fun(s1,s2)=>
  if(decide (s1<=a0.az.fX))=true then((nW (mZ a0) (s1,a0.aF.fY,s2)).bind fun o24=>some (.next ((IntKind.wrap .i64 (o24.1+1)),o24.2)))else(some (.stop s2))
def mJ(a0:ag):Option ((List aa)):=
  (nW (m5 a0) (a0.aF.fX,([]:(List aa)))).bind fun o26=>some o26
def ref26_One(a0:aa):Option (ag):=
  some (ag.mk a0 a0)
def eA(a0:aa):Option (Bool):=
  if(decide (a0.fX>=(-1048576)))=true then(if(decide (a0.fX<=1048576))=true then(if(decide (a0.fY>=(-1048576)))=true then(if(decide (a0.fY<=1048576))=true then(if(decide (a0.fZ>=(-16384)))=true then(some (decide (a0.fZ<=1048576)))else(some false))else(some false))else(some false))else(some false))else(some false)
def ct(a0:ag):Option (Bool):=
  (eA a0.aF).bind fun x1=>if x1=true then((eA a0.az).bind fun x3=>if x3=true then(if(decide (a0.aF.fX<=a0.az.fX))=true then(if(decide (a0.aF.fY<=a0.az.fY))=true then(some (decide (a0.aF.fZ<=a0.az.fZ)))else(some false))else(some false))else(some false))else(some false)
def kj(a0:aq):Int->Option (nX (Int) ((Unit)⊕(Int))):=fun s6=>
  if(decide (s6<(a0.aF.length:Int)))=true then((nZ a0.aF s6).bind fun x9=>if(decide (x9<0))=true then(some (.stop (.inr 21)))else((nZ a0.az s6).bind fun x11=>if(decide (x11>1099511627776))=true then(some (.stop (.inr 21)))else((nZ a0.aF s6).bind fun x13=>(nZ a0.az s6).bind fun x14=>if(decide (x13>x14))=true then(some (.stop (.inr 21)))else(if(decide (s6>0))=true then((nZ a0.aF s6).bind fun x17=>(nZ a0.aF (IntKind.wrap .i64 (s6-1))).bind fun x18=>if(decide (x17<x18))=true then(some (.stop (.inr 21)))else((nZ a0.az s6).bind fun x20=>(nZ a0.az (IntKind.wrap .i64 (s6-1))).bind fun x21=>if(decide (x20<x21))=true then(some (.stop (.inr 21)))else(some (.next (IntKind.wrap .i64 (s6+1))))))else(some (.next (IntKind.wrap .i64 (s6+1))))))))else(some (.stop (.inl ())))
def dz(a0:aq):Option (Int):=
  if(decide (a0.aQ<1))=true then(some 21)else(if(decide (a0.aQ>1048576))=true then(some 21)else(if((a0.aF.length:Int) != (a0.az.length:Int))=true then(some 21)else(if(decide ((a0.aF.length:Int)<2))=true then(some 21)else(if(decide ((a0.aF.length:Int)>256))=true then(some 21)else((nW (kj a0) 0).bind fun o24=>match o24 with| .inl _=>(some 0)| .inr r26=>(some r26))))))
def e8(a0:aC):Option (Bool):=
  (eA a0.aM).bind fun x1=>if x1=true then(if(decide (a0.a8>=0))=true then(if(decide (a0.a8<=a0.bF))=true then(if(decide (a0.bF<=18014398509481984))=true then(if(decide (a0.bt>=1))=true then(some (decide (a0.bt<=100)))else(some false))else(some false))else(some false))else(some false))else(some false)
def iS(a0:Int)(a1:Int)(a2:Int):Option (Int):=
  some (if(IntKind.wrap .i64 (a2-a1))>(if(IntKind.wrap .i64 (a0-a2))>0 then(IntKind.wrap .i64 (a0-a2))else 0)then(IntKind.wrap .i64 (a2-a1))else(if(IntKind.wrap .i64 (a0-a2))>0 then(IntKind.wrap .i64 (a0-a2))else 0))
def cO(a0:Int):Option (Int):=
  some (IntKind.wrap .i64 (a0*a0))
def lL(a0:ag)(a1:aa):Option (Int):=
  (ct a0).bind fun x1=>if(!x1)=true then(some 0)else((eA a1).bind fun x3=>if(!x3)=true then(some 0)else((iS a0.aF.fX a0.az.fX a1.fX).bind fun x5=>(cO x5).bind fun x6=>(iS a0.aF.fY a0.az.fY a1.fY).bind fun x7=>(cO x7).bind fun x8=>(iS a0.aF.fZ a0.az.fZ a1.fZ).bind fun x9=>(cO x9).bind fun x10=>some (IntKind.wrap .i64 ((IntKind.wrap .i64 (x6+x8))+x10))))
def jQ(a0:Int)(a1:Int)(a2:Int):Option (Int):=
  some (if(IntKind.wrap .i64 (a1-a2))>(IntKind.wrap .i64 (a2-a0))then(IntKind.wrap .i64 (a1-a2))else(IntKind.wrap .i64 (a2-a0)))
def mK(a0:ag)(a1:aa):Option (Int):=
  (ct a0).bind fun x1=>if(!x1)=true then(some 0)else((eA a1).bind fun x3=>if(!x3)=true then(some 0)else((jQ a0.aF.fX a0.az.fX a1.fX).bind fun x5=>(cO x5).bind fun x6=>(jQ a0.aF.fY a0.az.fY a1.fY).bind fun x7=>(cO x7).bind fun x8=>(jQ a0.aF.fZ a0.az.fZ a1.fZ).bind fun x9=>(cO x9).bind fun x10=>some (IntKind.wrap .i64 ((IntKind.wrap .i64 (x6+x8))+x10))))
def mn(a0:Int):(Int×Int)->Option (nX (Int×Int) (Int)):=fun(s1,s2)=>
  if(decide (s2>0))=true then(if(decide ((IntKind.wrap .i64 (s1+s2))<=3037000499))=true then(if(decide ((IntKind.wrap .i64 ((IntKind.wrap .i64 (s1+s2))*(IntKind.wrap .i64 (s1+s2))))<=a0))=true then(some (.next ((IntKind.wrap .i64 (s1+s2)),(oj .i64 s2 1))))else(some (.next (s1,(oj .i64 s2 1)))))else(some (.next (s1,(oj .i64 s2 1)))))else(some (.stop s1))
def jk(a0:Int):Option (Int):=
  (nW (mn a0) (0,2147483648)).bind fun o9=>some o9
def iR(a0:Int):Option (Int):=
  (jk a0).bind fun x1=>if(decide (a0>(IntKind.wrap .i64 (x1*x1))))=true then(some (IntKind.wrap .i64 (x1+1)))else(some x1)
def kI(a0:aq):Option (Int):=
  (dz a0).bind fun x1=>if(x1 != 0)=true then(some 0)else(some (IntKind.wrap .i64 (a0.aQ*(IntKind.wrap .i64 ((a0.aF.length:Int)-1)))))
def mo(a0:aq)(a1:Int):Option (Int):=
  (pr .i64 a1 a0.aQ).bind fun x1=>(nZ a0.aF x1).bind fun x2=>some x2
def mp(a0:aq)(a1:Int):Option (Int):=
  (pr .i64 (IntKind.wrap .i64 ((IntKind.wrap .i64 (a1+a0.aQ))-1)) a0.aQ).bind fun x1=>(nZ a0.az x1).bind fun x2=>some x2
def jd(a0:aq)(a1:Int)(a2:Int):Option (Int×Int×Int):=
  (dz a0).bind fun x1=>if(x1 != 0)=true then(some (0,0,21))else(if(decide (a1<0))=true then(some (0,0,2))else(if(decide (a1>a2))=true then(some (0,0,2))else((iR a2).bind fun x5=>(kI a0).bind fun x6=>if(decide (x5>x6))=true then(some (0,0,22))else((jk a1).bind fun x8=>(mo a0 x8).bind fun x9=>(iR a2).bind fun x10=>(mp a0 x10).bind fun x11=>some (x9,x11,0)))))
def e7(a0:aq)(a1:ag)(a2:aa):Option (Int×Int×Int):=
  (dz a0).bind fun x1=>if(x1 != 0)=true then(some (0,0,21))else((ct a1).bind fun x3=>if(!x3)=true then(some (0,0,20))else((eA a2).bind fun x5=>if(!x5)=true then(some (0,0,20))else((lL a1 a2).bind fun x7=>(mK a1 a2).bind fun x8=>(jd a0 x7 x8).bind fun x9=>some (x9.1,x9.2.1,x9.2.2))))
def kl(a0:ae):Int->Option (nX (Int) ((Unit)⊕(Int))):=fun s9=>
  if(decide (s9<(a0.aN.length:Int)))=true then((nZ a0.aN s9).bind fun x12=>(e8 x12).bind fun x13=>if(!x13)=true then(some (.stop (.inr 23)))else((nZ a0.aN s9).bind fun x15=>(e7 a0.aS a0.aG x15.aM).bind fun x16=>if(x16.2.2 != 0)=true then(some (.stop (.inr x16.2.2)))else(some (.next (IntKind.wrap .i64 (s9+1))))))else(some (.stop (.inl ())))
def iy(a0:ae):Option (Int):=
  (ct a0.aG).bind fun x1=>if(!x1)=true then(some 20)else((dz a0.aS).bind fun x3=>if(x3 != 0)=true then(some 21)else(if((a0.aN.length:Int)==0)=true then(some 24)else(if(decide ((a0.aN.length:Int)>64))=true then(some 8)else(if(decide (a0.bN<1))=true then(some 2)else(if(decide (a0.bN>1099511627776))=true then(some 2)else((nW (kl a0) 0).bind fun o19=>match o19 with| .inl _=>(some 0)| .inr r21=>(some r21)))))))
def iw(a0:ag)(a1:aa):Option (Bool):=
  (ct a0).bind fun x1=>if x1=true then(if(decide (a1.fX>=a0.aF.fX))=true then(if(decide (a1.fX<=a0.az.fX))=true then(if(decide (a1.fY>=a0.aF.fY))=true then(if(decide (a1.fY<=a0.az.fY))=true then(if(decide (a1.fZ>=a0.aF.fZ))=true then(some (decide (a1.fZ<=a0.az.fZ)))else(some false))else(some false))else(some false))else(some false))else(some false))else(some false)
def jJ(a0:ag)(a1:ag):Option (Bool):=
  (ct a0).bind fun x1=>if x1=true then((iw a1 a0.aF).bind fun x3=>if x3=true then((iw a1 a0.az).bind fun x5=>some x5)else(some false))else(some false)
def kk(a0:aq)(a1:ag)(a2:aC):Option (al×Int):=
  (dz a0).bind fun x1=>if(x1 != 0)=true then(some ((al.mk 0 0),21))else((ct a1).bind fun x3=>if(!x3)=true then(some ((al.mk 0 0),20))else((e8 a2).bind fun x5=>if(!x5)=true then(some ((al.mk 0 0),23))else((e7 a0 a1 a2.aM).bind fun x7=>if(x7.2.2 != 0)=true then(some ((al.mk 0 0),x7.2.2))else(some ((al.mk (IntKind.wrap .i64 (a2.a8-x7.2.1)) (IntKind.wrap .i64 (a2.bF-x7.1))),0)))))
def lX(a0:ae)(a1:ag):(Int×(List al))->Option (nX (Int×(List al)) ((List al))):=fun(s5,s6)=>
  if(decide (s5<(a0.aN.length:Int)))=true then((nZ a0.aN s5).bind fun x10=>(kk a0.aS a1 x10).bind fun x11=>(px s6 [x11.1] 16).bind fun x12=>some (.next ((IntKind.wrap .i64 (s5+1)),x12)))else(some (.stop s6))
def kL(a0:ae)(a1:ag):Option ((List al)×Int):=
  (iy a0).bind fun x1=>if(x1 != 0)=true then(some (([]:(List al)),x1))else((jJ a1 a0.aG).bind fun x3=>if(!x3)=true then(some (([]:(List al)),20))else((nW (lX a0 a1) (0,([]:(List al)))).bind fun o14=>some (o14,0)))
def ix(a0:al)(a1:Int):Option (Int):=
  some (if(IntKind.wrap .i64 (a1-a0.fTo))>(if(IntKind.wrap .i64 (a0.aT-a1))>0 then(IntKind.wrap .i64 (a0.aT-a1))else 0)then(IntKind.wrap .i64 (a1-a0.fTo))else(if(IntKind.wrap .i64 (a0.aT-a1))>0 then(IntKind.wrap .i64 (a0.aT-a1))else 0))
def m7(a1:(List al))(a0:ae)(a2:Int):(Int×Int)->Option (nX (Int×Int) (Int)):=fun(s1,s2)=>
  if(decide (s2<(a1.length:Int)))=true then((nZ a0.aN s2).bind fun x6=>(nZ a1 s2).bind fun x7=>(ix x7 a2).bind fun x8=>some (.next ((IntKind.wrap .i64 (s1+(IntKind.wrap .i64 (x6.bt*(if x8<a0.bN then x8 else a0.bN))))),(IntKind.wrap .i64 (s2+1)))))else(some (.stop s1))
def iT(a0:ae)(a1:(List al))(a2:Int):Option (Int):=
  (nW (m7 a1 a0 a2) (0,0)).bind fun o10=>some o10
def d5(s6:Int)(j15:Int)(j16:Int):Option (nX (Int×Int×Int) (Int×Int)):=
  some (.next (j15,j16,(IntKind.wrap .i64 (s6+1))))
def d6(a0:ae)(a1:(List al))(x12:al)(s6:Int)(j13:Int)(j14:Int):Option (nX (Int×Int×Int) (Int×Int)):=
  (iT a0 a1 x12.fTo).bind fun x18=>if(decide (x18<j14))=true then(d5 s6 x12.fTo x18)else(if(x18==j14)=true then(if(decide (x12.fTo<j13))=true then(d5 s6 x12.fTo x18)else(d5 s6 j13 j14))else(d5 s6 j13 j14))
def mq(a1:(List al))(a0:ae):(Int×Int×Int)->Option (nX (Int×Int×Int) (Int×Int)):=fun(s4,s5,s6)=>
  if(decide (s6<(a1.length:Int)))=true then((nZ a1 s6).bind fun x11=>(nZ a1 s6).bind fun x12=>(iT a0 a1 x11.aT).bind fun x23=>if(decide (x23<s5))=true then(d6 a0 a1 x12 s6 x11.aT x23)else(if(x23==s5)=true then(if(decide (x11.aT<s4))=true then(d6 a0 a1 x12 s6 x11.aT x23)else(d6 a0 a1 x12 s6 s4 s5))else(d6 a0 a1 x12 s6 s4 s5)))else(some (.stop (s4,s5)))
def lN(a0:ae)(a1:(List al)):Option (Int×Int):=
  (nZ a1 0).bind fun x1=>(nZ a1 0).bind fun x2=>(iT a0 a1 x2.aT).bind fun x3=>(nW (mq a1 a0) (x1.aT,x3,0)).bind fun o28=>some (o28.1,o28.2)
def nM(a0:ae)(a1:aa):Option (Int×Int×Int):=
  (ref26_One a1).bind fun x1=>(kL a0 x1).bind fun x2=>if(x2.2 != 0)=true then(some (0,0,x2.2))else((lN a0 x2.1).bind fun x4=>some (x4.1,x4.2,0))
def lW(x1:(List aa))(a0:ae):(Int×Int)->Option (nX (Int×Int) (Int)):=fun(s2,s3)=>
  if(decide (s3<(x1.length:Int)))=true then((nZ x1 s3).bind fun x7=>(nM a0 x7).bind fun x8=>if(decide (s2<0))=true then(some (.next (x8.2.1,(IntKind.wrap .i64 (s3+1)))))else(if(decide (x8.2.1<s2))=true then(some (.next (x8.2.1,(IntKind.wrap .i64 (s3+1)))))else(some (.next (s2,(IntKind.wrap .i64 (s3+1)))))))else(some (.stop s2))
def kK(a0:ae):Option (Int):=
  (mJ a0.aG).bind fun x1=>(nW (lW x1 a0) ((-1),0)).bind fun o12=>some o12
def gz(a0:(List Int)):Option (Bool):=
  (ip a0).bind fun x1=>(cK 3 x1).bind fun x2=>(eP 6 x2.2).bind fun x3=>(mB x2.1 x3.1 7 x3.2).bind fun x4=>(d9 x2.1 x3.1 x4.1).bind fun x5=>if(x5.2 != 0)=true then(if(x5.2==24)=true then((hP ).bind fun x8=>some x8)else(some false))else((gu x2.1 x3.1 x4.1).bind fun x9=>(eY x9.1 x5.1.aK.bp).bind fun x10=>(kK x9.1).bind fun x11=>if(x9.2==0)=true then(if(x10.2.2==0)=true then(if(x10.1==x5.1.aK.bS)=true then(if(x10.2.1==x5.1.aK.aZ)=true then(if(decide ((IntKind.wrap .i64 (x10.2.1-x11))<=x2.1.bJ))=true then(if(decide (x5.1.aK.iH<=x11))=true then(if(decide (x5.1.kU>=0))=true then(if(decide (x5.1.kU<=(x5.1.iI.length:Int)))=true then(if(decide (x5.1.kU>0))=true then((hP ).bind fun x21=>some x21)else(if((x5.1.dX.aF==0)&&((x5.1.dX.az==0)&&true))=true then((hP ).bind fun x23=>some x23)else(some false)))else(some false))else(some false))else(some false))else(some false))else(some false))else(some false))else(some false))else(some false))
end
end Go.Dw.Lt
