
import Derived.Test.YthadlbjoiidkjaaGreatDoorDwLift4
import Derived.Test.YthadlbjoiidkjaaGreatDoorDwIns
import Derived.Test.YthadlbjoiidkjaaGreatDoorDwSortC
import Derived.Test.YthadlbjoiidkjaaGreatDoorDwAtoi
import Derived.Test.YthadlbjoiidkjaaGreatDoorDwItoa
import Derived.Test.YthadlbjoiidkjaaGreatDoorDwJoin
import Derived.Test.YthadlbjoiidkjaaGreatDoorDwSplit

namespace Go.Dw.Fc
open Go.Dw
noncomputable section
structure aq where
  fL:(List Int)
  fAt:Int
  deriving DecidableEq
def aq.pd(x:aq):PD:= .agg [.lst (x.fL.map (PD.int .i64)),.int .i64 x.fAt]
structure au where
  aT:(List UInt8)
  aU:(List UInt8)
  ac:(List UInt8)
  aS:(List UInt8)
  deriving DecidableEq
def au.pd(x:au):PD:= .agg [.str x.aT,.str x.aU,.str x.ac,.str x.aS]
structure ag where
  ar:au
  aP:Int
  aZ:Int
  bg:Int
  aI:Int
  aL:Int
  deriving DecidableEq
def ag.pd(x:ag):PD:= .agg [.str x.ar.aT,.str x.ar.aU,.str x.ar.ac,.str x.ar.aS,.int .i64 x.aP,.int .i64 x.aZ,.int .i64 x.bg,.int .i64 x.aI,.int .i64 x.aL]
structure ai where
  fX:Int
  fY:Int
  fZ:Int
  deriving DecidableEq
def ai.pd(x:ai):PD:= .agg [.int .i64 x.fX,.int .i64 x.fY,.int .i64 x.fZ]
structure aY where
  aW:ai
  aN:ai
  deriving DecidableEq
def aY.pd(x:aY):PD:= .agg [.int .i64 x.aW.fX,.int .i64 x.aW.fY,.int .i64 x.aW.fZ,.int .i64 x.aN.fX,.int .i64 x.aN.fY,.int .i64 x.aN.fZ]
structure aD where
  aO:ai
  aP:Int
  bc:Int
  bu:Int
  aF:aY
  deriving DecidableEq
def aD.pd(x:aD):PD:= .agg [.int .i64 x.aO.fX,.int .i64 x.aO.fY,.int .i64 x.aO.fZ,.int .i64 x.aP,.int .i64 x.bc,.int .i64 x.bu,.int .i64 x.aF.aW.fX,.int .i64 x.aF.aW.fY,.int .i64 x.aF.aW.fZ,.int .i64 x.aF.aN.fX,.int .i64 x.aF.aN.fY,.int .i64 x.aF.aN.fZ]
structure aH where
  aW:Int
  aN:Int
  deriving DecidableEq
def aH.pd(x:aH):PD:= .agg [.int .i64 x.aW,.int .i64 x.aN]
structure az where
  aX:(List ag)
  ac:aD
  aA:aH
  bn:Int
  deriving DecidableEq
def az.pd(x:az):PD:= .agg [.lst (x.aX.map ag.pd),.int .i64 x.ac.aO.fX,.int .i64 x.ac.aO.fY,.int .i64 x.ac.aO.fZ,.int .i64 x.ac.aP,.int .i64 x.ac.bc,.int .i64 x.ac.bu,.int .i64 x.ac.aF.aW.fX,.int .i64 x.ac.aF.aW.fY,.int .i64 x.ac.aF.aW.fZ,.int .i64 x.ac.aF.aN.fX,.int .i64 x.ac.aF.aN.fY,.int .i64 x.ac.aF.aN.fZ,.int .i64 x.aA.aW,.int .i64 x.aA.aN,.int .i64 x.bn]
structure av where
  ap:ag
  aa:az
  deriving DecidableEq
def av.pd(x:av):PD:= .agg [.str x.ap.ar.aT,.str x.ap.ar.aU,.str x.ap.ar.ac,.str x.ap.ar.aS,.int .i64 x.ap.aP,.int .i64 x.ap.aZ,.int .i64 x.ap.bg,.int .i64 x.ap.aI,.int .i64 x.ap.aL,.lst (x.aa.aX.map ag.pd),.int .i64 x.aa.ac.aO.fX,.int .i64 x.aa.ac.aO.fY,.int .i64 x.aa.ac.aO.fZ,.int .i64 x.aa.ac.aP,.int .i64 x.aa.ac.bc,.int .i64 x.aa.ac.bu,.int .i64 x.aa.ac.aF.aW.fX,.int .i64 x.aa.ac.aF.aW.fY,.int .i64 x.aa.ac.aF.aW.fZ,.int .i64 x.aa.ac.aF.aN.fX,.int .i64 x.aa.ac.aF.aN.fY,.int .i64 x.aa.ac.aF.aN.fZ,.int .i64 x.aa.aA.aW,.int .i64 x.aa.aA.aN,.int .i64 x.aa.bn]
structure aj where
  bv:Int
  bX:Int
  fID:Int
  fAt:Int
  bw:Int
  ah:av
  deriving DecidableEq
def aj.pd(x:aj):PD:= .agg [.int .i64 x.bv,.int .i64 x.bX,.int .i64 x.fID,.int .i64 x.fAt,.int .i64 x.bw,.str x.ah.ap.ar.aT,.str x.ah.ap.ar.aU,.str x.ah.ap.ar.ac,.str x.ah.ap.ar.aS,.int .i64 x.ah.ap.aP,.int .i64 x.ah.ap.aZ,.int .i64 x.ah.ap.bg,.int .i64 x.ah.ap.aI,.int .i64 x.ah.ap.aL,.lst (x.ah.aa.aX.map ag.pd),.int .i64 x.ah.aa.ac.aO.fX,.int .i64 x.ah.aa.ac.aO.fY,.int .i64 x.ah.aa.ac.aO.fZ,.int .i64 x.ah.aa.ac.aP,.int .i64 x.ah.aa.ac.bc,.int .i64 x.ah.aa.ac.bu,.int .i64 x.ah.aa.ac.aF.aW.fX,.int .i64 x.ah.aa.ac.aF.aW.fY,.int .i64 x.ah.aa.ac.aF.aW.fZ,.int .i64 x.ah.aa.ac.aF.aN.fX,.int .i64 x.ah.aa.ac.aF.aN.fY,.int .i64 x.ah.aa.ac.aF.aN.fZ,.int .i64 x.ah.aa.aA.aW,.int .i64 x.ah.aa.aA.aN,.int .i64 x.ah.aa.bn]
structure bD where
  aA:Int
  aX:Int
  bc:Int
  mC:Int
  deriving DecidableEq
def bD.pd(x:bD):PD:= .agg [.int .i64 x.aA,.int .i64 x.aX,.int .i64 x.bc,.int .i64 x.mC]
structure aQ where
  ce:(List bD)
  dZ:Int
  fEvery:Int
  deriving DecidableEq
def aQ.pd(x:aQ):PD:= .agg [.lst (x.ce.map bD.pd),.int .i64 x.dZ,.int .i64 x.fEvery]
structure aM where
  fID:Int
  bA:Bool
  ap:ag
  bw:Int
  ah:av
  fAt:Int
  deriving DecidableEq
def aM.pd(x:aM):PD:= .agg [.int .i64 x.fID,.bool x.bA,.str x.ap.ar.aT,.str x.ap.ar.aU,.str x.ap.ar.ac,.str x.ap.ar.aS,.int .i64 x.ap.aP,.int .i64 x.ap.aZ,.int .i64 x.ap.bg,.int .i64 x.ap.aI,.int .i64 x.ap.aL,.int .i64 x.bw,.str x.ah.ap.ar.aT,.str x.ah.ap.ar.aU,.str x.ah.ap.ar.ac,.str x.ah.ap.ar.aS,.int .i64 x.ah.ap.aP,.int .i64 x.ah.ap.aZ,.int .i64 x.ah.ap.bg,.int .i64 x.ah.ap.aI,.int .i64 x.ah.ap.aL,.lst (x.ah.aa.aX.map ag.pd),.int .i64 x.ah.aa.ac.aO.fX,.int .i64 x.ah.aa.ac.aO.fY,.int .i64 x.ah.aa.ac.aO.fZ,.int .i64 x.ah.aa.ac.aP,.int .i64 x.ah.aa.ac.bc,.int .i64 x.ah.aa.ac.bu,.int .i64 x.ah.aa.ac.aF.aW.fX,.int .i64 x.ah.aa.ac.aF.aW.fY,.int .i64 x.ah.aa.ac.aF.aW.fZ,.int .i64 x.ah.aa.ac.aF.aN.fX,.int .i64 x.ah.aa.ac.aF.aN.fY,.int .i64 x.ah.aa.ac.aF.aN.fZ,.int .i64 x.ah.aa.aA.aW,.int .i64 x.ah.aa.aA.aN,.int .i64 x.ah.aa.bn,.int .i64 x.fAt]
structure A4_Int where
  a0:Int
  a1:Int
  a2:Int
  a3:Int
  deriving DecidableEq
def A4_Int.pd(x:A4_Int):PD:= .agg [.int .i64 x.a0,.int .i64 x.a1,.int .i64 x.a2,.int .i64 x.a3]
structure bz where
  a0:Int
  a1:Int
  deriving DecidableEq
def bz.pd(x:bz):PD:= .agg [.int .i64 x.a0,.int .i64 x.a1]
structure cG where
  a0:bz
  a1:bz
  a2:bz
  a3:bz
  a4:bz
  deriving DecidableEq
def cG.pd(x:cG):PD:= .agg [.int .i64 x.a0.a0,.int .i64 x.a0.a1,.int .i64 x.a1.a0,.int .i64 x.a1.a1,.int .i64 x.a2.a0,.int .i64 x.a2.a1,.int .i64 x.a3.a0,.int .i64 x.a3.a1,.int .i64 x.a4.a0,.int .i64 x.a4.a1]
structure aG where
  c8:Int
  bJ:Int
  ch:(List (List UInt8))
  deriving DecidableEq
def aG.pd(x:aG):PD:= .agg [.int .i64 x.c8,.int .i64 x.bJ,.lst (x.ch.map PD.str)]
structure ae where
  bd:Int
  fTo:Int
  deriving DecidableEq
def ae.pd(x:ae):PD:= .agg [.int .i64 x.bd,.int .i64 x.fTo]
structure aw where
  eU:(List ae)
  c7:(List ae)
  deriving DecidableEq
def aw.pd(x:aw):PD:= .agg [.lst (x.eU.map ae.pd),.lst (x.c7.map ae.pd)]
structure ak where
  fAt:Int
  ba:Int
  ch:(List UInt8)
  deriving DecidableEq
def ak.pd(x:ak):PD:= .agg [.int .i64 x.fAt,.int .i64 x.ba,.str x.ch]
structure aC where
  bt:Int
  ba:Int
  bq:(List ak)
  deriving DecidableEq
def aC.pd(x:aC):PD:= .agg [.int .i64 x.bt,.int .i64 x.ba,.lst (x.bq.map ak.pd)]
structure aB where
  da:Int
  fAt:Int
  ch:(List UInt8)
  deriving DecidableEq
def aB.pd(x:aB):PD:= .agg [.int .i64 x.da,.int .i64 x.fAt,.str x.ch]
structure aK where
  bt:Int
  br:Int
  bY:Int
  bj:aG
  bo:aw
  bF:aC
  fUp:aC
  bp:(List aB)
  deriving DecidableEq
def aK.pd(x:aK):PD:= .agg [.int .i64 x.bt,.int .i64 x.br,.int .i64 x.bY,.int .i64 x.bj.c8,.int .i64 x.bj.bJ,.lst (x.bj.ch.map PD.str),.lst (x.bo.eU.map ae.pd),.lst (x.bo.c7.map ae.pd),.int .i64 x.bF.bt,.int .i64 x.bF.ba,.lst (x.bF.bq.map ak.pd),.int .i64 x.fUp.bt,.int .i64 x.fUp.ba,.lst (x.fUp.bq.map ak.pd),.lst (x.bp.map aB.pd)]
structure ca where
  a0:(List UInt8)
  a1:(List UInt8)
  a2:(List UInt8)
  a3:(List UInt8)
  deriving DecidableEq
def ca.pd(x:ca):PD:= .agg [.str x.a0,.str x.a1,.str x.a2,.str x.a3]
structure am where
  fDrop:Bool
  eT:Int
  kf:Int
  deriving DecidableEq
def am.pd(x:am):PD:= .agg [.bool x.fDrop,.int .i64 x.eT,.int .i64 x.kf]
structure aJ where
  bZ:(List (List UInt8))
  oN:Bool
  deriving DecidableEq
def aJ.pd(x:aJ):PD:= .agg [.lst (x.bZ.map PD.str),.bool x.oN]
def pn(a0:(List Int)):Option (aq):=
  (si a0 0 (if 2000<(a0.length:Int)then 2000 else(a0.length:Int))).bind fun x1=>some (aq.mk x1 0)
def Src_Raw(d0:aq):Option (Int×aq):=
  if(decide (d0.fAt>=(d0.fL.length:Int)))=true then(some (0,d0))else((pH d0.fL (IntKind.wrap .i64 ((IntKind.wrap .i64 (d0.fAt+1))-1))).bind fun x2=>some (x2,(aq.mk d0.fL (IntKind.wrap .i64 (d0.fAt+1)))))
def kO(a0:Int)(a1:Int):Option (Int):=
  if(decide (a1<1))=true then(some 0)else((remO a0 a1).bind fun x2=>if(decide (x2<0))=true then(some (IntKind.wrap .i64 (x2+a1)))else(some x2))
def ff(a1:Int)(d0:aq):Option (Int×aq):=
  (Src_Raw d0).bind fun x1=>(kO x1.1 a1).bind fun x2=>some (x2,x1.2)
def jG(a1:(List Int))(d0:aq):Option (Int×aq):=
  (ff (a1.length:Int) d0).bind fun x1=>(pH a1 x1.1).bind fun x2=>some (x2,x1.2)
def nr:(Int×(List Int)×Int×(List bD))->Option (oJ (Int×(List Int)×Int×(List bD)) ((List Int)×Int×(List bD))):=fun(s4,s5,s6,s7)=>
  if(decide (s4>0))=true then((ff 400 (aq.mk s5 s6)).bind fun x13=>(ff 4 x13.2).bind fun x14=>(jG [0,10,100,10000] x14.2).bind fun x15=>(jG [0,500,2000,100000] x15.2).bind fun x16=>(qq s7 [(bD.mk (IntKind.wrap .i64 (x13.1-100)) (IntKind.wrap .i64 (1+x14.1)) x15.1 x16.1)] 32).bind fun x17=>some (.next ((IntKind.wrap .i64 (s4-1)),x16.2.fL,x16.2.fAt,x17)))else(some (.stop (s5,s6,s7)))
def my(d0:aq):Option (aQ×aq):=
  (jG [0,2,10,1000] d0).bind fun x1=>(jG [0,0,50,500] x1.2).bind fun x2=>(ff 3 x2.2).bind fun x3=>(kG (nr) ((IntKind.wrap .i64 (1+x3.1)),x3.2.fL,x3.2.fAt,([]:(List bD)))).bind fun o19=>some ((aQ.mk o19.2.2 x1.1 x2.1),(aq.mk o19.1 o19.2.1))
def fM(a0:Int):Option (au):=
  (kO a0 6).bind fun x1=>(pH [[83,49],[83,50],[83,51],[83,52],[83,53],[83,54]] x1).bind fun x2=>some (au.mk [65,66] x2 [48,48] [66,72,90])
def n8(a1:Int)(d0:aq):Option (ai×aq):=
  (ff (IntKind.wrap .i64 ((IntKind.wrap .i64 (2*a1))+1)) d0).bind fun x1=>(ff (IntKind.wrap .i64 ((IntKind.wrap .i64 (2*a1))+1)) x1.2).bind fun x2=>(ff (IntKind.wrap .i64 (a1+1)) x2.2).bind fun x3=>some ((ai.mk (IntKind.wrap .i64 (x1.1-a1)) (IntKind.wrap .i64 (x2.1-a1)) x3.1),x3.2)
def lx(x1:Int×aq)(a1:Int):(Int×(List Int)×Int×(List ag))->Option (oJ (Int×(List Int)×Int×(List ag)) ((List Int)×Int×(List ag))):=fun(s2,s3,s4,s5)=>
  (ff 4 (aq.mk s3 s4)).bind fun x10=>if(decide (s2<(IntKind.wrap .i64 (1+x10.1))))=true then((fM s2).bind fun x12=>(ff 3 x10.2).bind fun x13=>(qq s5 [(ag.mk x12 (IntKind.wrap .i64 ((IntKind.wrap .i64 (1000+x1.1))+(IntKind.wrap .i64 (10*a1)))) (IntKind.wrap .i64 ((IntKind.wrap .i64 (1000+x1.1))+(IntKind.wrap .i64 (10*a1)))) (IntKind.wrap .i64 ((IntKind.wrap .i64 ((IntKind.wrap .i64 (1000+x1.1))+(IntKind.wrap .i64 (10*a1))))+x13.1)) a1 0)] 104).bind fun x14=>some (.next ((IntKind.wrap .i64 (s2+1)),x13.2.fL,x13.2.fAt,x14)))else(some (.stop (x10.2.fL,x10.2.fAt,s5)))
def n7(a1:Int)(d0:aq):Option (av×aq):=
  (ff 300 d0).bind fun x1=>(kG (lx x1 a1) (0,x1.2.fL,x1.2.fAt,([]:(List ag)))).bind fun o16=>(inO o16.2.2 0).bind fun _=>(pH o16.2.2 0).bind fun x19=>(n8 20 (aq.mk o16.1 o16.2.1)).bind fun x20=>(ff 40 x20.2).bind fun x21=>(jG [0,0,5,500] x21.2).bind fun x22=>(ff 3 x22.2).bind fun x23=>if(decide (x23.1>0))=true then((ff 400 x23.2).bind fun x25=>(ff 60 x25.2).bind fun x26=>some ((av.mk x19 (az.mk o16.2.2 (aD.mk x20.1 (IntKind.wrap .i64 ((IntKind.wrap .i64 (1000+x1.1))-x21.1)) x22.1 0 (aY.mk x20.1 x20.1)) (aH.mk x25.1 (IntKind.wrap .i64 (x25.1+x26.1))) x23.1)),x26.2))else(some ((av.mk x19 (az.mk o16.2.2 (aD.mk x20.1 (IntKind.wrap .i64 ((IntKind.wrap .i64 (1000+x1.1))-x21.1)) x22.1 0 (aY.mk x20.1 x20.1)) (aH.mk 0 0) x23.1)),x23.2))
def kE(x12:av×aq)(s1:Int)(s4:(List av)):(Int×(List ag))->Option (oJ (Int×(List ag)) (Int×(List av)×(List ag))):=fun(s13,s14)=>
  if(decide (s13<(x12.1.aa.aX.length:Int)))=true then((inO s14 s13).bind fun _=>(xH s14 s13 (fun(z23:ag)=>(ag.mk z23.ar (IntKind.wrap .i64 ((IntKind.wrap .i64 (1000+(IntKind.wrap .i64 (400*s1))))+s13)) z23.aZ z23.bg z23.aI z23.aL))).bind fun x22=>(xH x22 s13 (fun(z25:ag)=>(ag.mk z25.ar z25.aP (IntKind.wrap .i64 ((IntKind.wrap .i64 (1000+(IntKind.wrap .i64 (400*s1))))+s13)) z25.bg z25.aI z25.aL))).bind fun x24=>(xH x24 s13 (fun(z27:ag)=>(ag.mk z27.ar z27.aP z27.aZ (IntKind.wrap .i64 ((IntKind.wrap .i64 ((IntKind.wrap .i64 (1000+(IntKind.wrap .i64 (400*s1))))+s13))+2)) z27.aI z27.aL))).bind fun x26=>(xH x26 s13 (fun(z29:ag)=>(ag.mk z29.ar z29.aP z29.aZ z29.bg 7 z29.aL))).bind fun x28=>some (.next ((IntKind.wrap .i64 (s13+1)),x28)))else(some (.stop (s1,s4,s14)))
def nq(a1:Int):(Int×(List Int)×Int×(List av))->Option (oJ (Int×(List Int)×Int×(List av)) ((List av)×(List Int)×Int)):=fun(s1,s2,s3,s4)=>
  if(decide (s1<a1))=true then((ff 3 (aq.mk s2 s3)).bind fun x10=>if(x10.1==0)=true then(some (.next ((IntKind.wrap .i64 (s1+1)),x10.2.fL,x10.2.fAt,s4)))else((n7 1 x10.2).bind fun x12=>(kG (kE x12 s1 s4) (0,x12.1.aa.aX)).bind fun o31=>(ff 2 x12.2).bind fun x32=>(si o31.2.2 (if(IntKind.wrap .i64 ((o31.2.2.length:Int)-1))<x32.1 then(IntKind.wrap .i64 ((o31.2.2.length:Int)-1))else x32.1) (o31.2.2.length:Int)).bind fun x33=>(pH x33 0).bind fun x34=>(qq o31.2.1 [(av.mk x34 (az.mk x33 x12.1.aa.ac x12.1.aa.aA x12.1.aa.bn))] 248).bind fun x35=>some (.next ((IntKind.wrap .i64 (o31.1+1)),x32.2.fL,x32.2.fAt,x35))))else(some (.stop (s4,s2,s3)))
def mw(a1:Int)(d0:aq):Option ((List av)×aq):=
  (kG (nq a1) (0,d0.fL,d0.fAt,([]:(List av)))).bind fun o37=>some (o37.1,(aq.mk o37.2.1 o37.2.2))
def eX(a0:Int):Option (Bool):=
  if(decide (a0>=0))=true then(some (decide (a0<=9007199254740992)))else(some false)
def kS(a0:aQ):Int->Option (oJ (Int) ((Unit)⊕(Int))):=fun s7=>
  if(decide (s7<(a0.ce.length:Int)))=true then((pH a0.ce s7).bind fun x10=>if(decide (x10.aA<(-1000)))=true then(some (.stop (.inr 27)))else(if(decide (x10.aA>2000))=true then(some (.stop (.inr 27)))else(if(decide (x10.aX<1))=true then(some (.stop (.inr 27)))else(if(decide (x10.aX>64))=true then(some (.stop (.inr 27)))else((eX x10.bc).bind fun x15=>if(!x15)=true then(some (.stop (.inr 27)))else((eX x10.mC).bind fun x17=>if(!x17)=true then(some (.stop (.inr 27)))else(some (.next (IntKind.wrap .i64 (s7+1))))))))))else(some (.stop (.inl ())))
def eL(a0:aQ):Option (Int):=
  if(decide ((a0.ce.length:Int)<1))=true then(some 27)else(if(decide ((a0.ce.length:Int)>8))=true then(some 27)else((eX a0.dZ).bind fun x3=>if(!x3)=true then(some 27)else((eX a0.fEvery).bind fun x5=>if(!x5)=true then(some 27)else((kG (kS a0) 0).bind fun o20=>match o20 with| .inl _=>(some 0)| .inr r22=>(some r22)))))
def jV(s1:Int)(a0:(List aM)):Int->Option (oJ (Int) ((Int)⊕(Bool))):=fun s4=>
  if(decide (s4<s1))=true then((pH a0 s1).bind fun x8=>if(!x8.bA)=true then((pH a0 s4).bind fun x10=>if(!x10.bA)=true then((pH a0 s1).bind fun x12=>(pH a0 s4).bind fun x13=>if(((x12.ap.ar.aT==x13.ap.ar.aT)&&((x12.ap.ar.aU==x13.ap.ar.aU)&&((x12.ap.ar.ac==x13.ap.ar.ac)&&((x12.ap.ar.aS==x13.ap.ar.aS)&&true))))&&((x12.ap.aP==x13.ap.aP)&&((x12.ap.aZ==x13.ap.aZ)&&((x12.ap.bg==x13.ap.bg)&&((x12.ap.aI==x13.ap.aI)&&((x12.ap.aL==x13.ap.aL)&&true))))))=true then(some (.stop (.inr false)))else(some (.next (IntKind.wrap .i64 (s4+1)))))else(some (.next (IntKind.wrap .i64 (s4+1)))))else(some (.next (IntKind.wrap .i64 (s4+1)))))else(some (.stop (.inl s1)))
def fm(s1:Int)(a0:(List aM)):Option (oJ (Int) ((Unit)⊕(Bool))):=
  (kG (jV s1 a0) 0).bind fun o16=>match o16 with| .inl y17=>(some (.next (IntKind.wrap .i64 (y17+1))))| .inr r18=>(some (.stop (.inr r18)))
def nc(a0:(List aM)):Int->Option (oJ (Int) ((Unit)⊕(Bool))):=fun s1=>
  if(decide (s1<(a0.length:Int)))=true then((pH a0 s1).bind fun x20=>if(decide (x20.fID<0))=true then(some (.stop (.inr false)))else((pH a0 s1).bind fun x22=>if(decide (x22.fID>=1000))=true then(some (.stop (.inr false)))else(if(decide (s1>0))=true then((pH a0 s1).bind fun x25=>(pH a0 (IntKind.wrap .i64 (s1-1))).bind fun x26=>if(decide (x25.fID<=x26.fID))=true then(some (.stop (.inr false)))else((pH a0 s1).bind fun x28=>if(decide (x28.fAt<0))=true then(some (.stop (.inr false)))else((pH a0 s1).bind fun x30=>if(decide (x30.fAt>18014398509481984))=true then(some (.stop (.inr false)))else(fm s1 a0))))else((pH a0 s1).bind fun x32=>if(decide (x32.fAt<0))=true then(some (.stop (.inr false)))else((pH a0 s1).bind fun x34=>if(decide (x34.fAt>18014398509481984))=true then(some (.stop (.inr false)))else(fm s1 a0))))))else(some (.stop (.inl ())))
def ll(a0:(List aM)):Option (Bool):=
  (kG (nc a0) 0).bind fun o37=>match o37 with| .inl _=>(some (decide ((a0.length:Int)<=200)))| .inr r39=>(some r39)
def ex(a0:(List UInt8))(a1:(List UInt8)):Option (Int):=
  if(Op.bytesLess a0 a1)=true then(some (-1))else(if(!(Op.bytesLess a0 a1||a0==a1))=true then(some 1)else(some 0))
def jC(a0:au)(a1:au):Option (Int):=
  (ex a0.aT a1.aT).bind fun x1=>(ex a0.aU a1.aU).bind fun x2=>(ex a0.ac a1.ac).bind fun x3=>(ex a0.aS a1.aS).bind fun x4=>if(x1 != 0)=true then(some x1)else(if(x2 != 0)=true then(some x2)else(if(x3 != 0)=true then(some x3)else(if(x4 != 0)=true then(some x4)else(some 0))))
def gB(a0:ag)(a1:ag):Option (Int):=
  (jC a0.ar a1.ar).bind fun x1=>if(x1 != 0)=true then(some x1)else(if(decide (a0.aP<a1.aP))=true then(some (-1))else(if(decide (a0.aP>a1.aP))=true then(some 1)else(if(decide (a0.aZ<a1.aZ))=true then(some (-1))else(if(decide (a0.aZ>a1.aZ))=true then(some 1)else(if(decide (a0.bg<a1.bg))=true then(some (-1))else(if(decide (a0.bg>a1.bg))=true then(some 1)else(if(decide (a0.aI<a1.aI))=true then(some (-1))else(if(decide (a0.aI>a1.aI))=true then(some 1)else(if(decide (a0.aL<a1.aL))=true then(some (-1))else(if(decide (a0.aL>a1.aL))=true then(some 1)else(some 0)))))))))))
def gC(a0:ag)(a1:ag):Option (Int):=
  if(decide (a0.aP<a1.aP))=true then(some (-1))else(if(decide (a0.aP>a1.aP))=true then(some 1)else((gB a0 a1).bind fun x3=>some x3))
def nM(a0:(List ag)):(Int×(List UInt8)×(List UInt8)×(List UInt8)×(List UInt8)×Int×Int×Int×Int×Int)->Option (oJ (Int×(List UInt8)×(List UInt8)×(List UInt8)×(List UInt8)×Int×Int×Int×Int×Int) ((List UInt8)×(List UInt8)×(List UInt8)×(List UInt8)×Int×Int×Int×Int×Int)):=fun(s2,s3,s4,s5,s6,s7,s8,s9,s10,s11)=>
  if(decide (s2<(a0.length:Int)))=true then((pH a0 s2).bind fun x23=>(gC x23 (ag.mk (au.mk s3 s4 s5 s6) s7 s8 s9 s10 s11)).bind fun x24=>if(decide (x24<0))=true then((pH a0 s2).bind fun x26=>some (.next ((IntKind.wrap .i64 (s2+1)),x26.ar.aT,x26.ar.aU,x26.ar.ac,x26.ar.aS,x26.aP,x26.aZ,x26.bg,x26.aI,x26.aL)))else(some (.next ((IntKind.wrap .i64 (s2+1)),s3,s4,s5,s6,s7,s8,s9,s10,s11))))else(some (.stop (s3,s4,s5,s6,s7,s8,s9,s10,s11)))
def mK(a0:(List ag)):Option (ag):=
  (pH a0 0).bind fun x1=>(kG (nM a0) (1,x1.ar.aT,x1.ar.aU,x1.ar.ac,x1.ar.aS,x1.aP,x1.aZ,x1.bg,x1.aI,x1.aL)).bind fun o28=>some (ag.mk (au.mk o28.1 o28.2.1 o28.2.2.1 o28.2.2.2.1) o28.2.2.2.2.1 o28.2.2.2.2.2.1 o28.2.2.2.2.2.2.1 o28.2.2.2.2.2.2.2.1 o28.2.2.2.2.2.2.2.2)
def nH(s2:(List ag))(a0:(List ag))(s1:Int):Int->Option (oJ (Int) (Int×Int×(List ag))):=fun s6=>
  if(decide (s6>0))=true then((inO s2 (IntKind.wrap .i64 (s6-1))).bind fun _=>(pH s2 (IntKind.wrap .i64 (s6-1))).bind fun x14=>(pH a0 s1).bind fun x15=>(gB x14 x15).bind fun x16=>if(decide (x16>0))=true then(some (.next (IntKind.wrap .i64 (s6-1))))else(some (.stop (s1,s6,s2))))else(some (.stop (s1,s6,s2)))
def fR(a0:(List ag))(o19:Int×Int×(List ag)):Option (oJ (Int×(List ag)) ((List ag))):=
  (pH a0 o19.1).bind fun x20=>(qq o19.2.2 [x20] 104).bind fun x21=>(wN x21.length (IntKind.wrap .i64 (o19.2.1+1)) (x21.length:Int)).bind fun _=>(wN x21.length o19.2.1 (x21.length:Int)).bind fun _=>(yG x21.length (0+((IntKind.wrap .i64 (o19.2.1+1)):Int).toNat) (0+((x21.length:Int):Int).toNat)).bind fun _=>(y6 x21 (0+(o19.2.1:Int).toNat) (0+((x21.length:Int):Int).toNat)).bind fun x25=>(pH a0 o19.1).bind fun x27=>(inO (wv x21 (0+((IntKind.wrap .i64 (o19.2.1+1)):Int).toNat) ((0+((x21.length:Int):Int).toNat)-(0+((IntKind.wrap .i64 (o19.2.1+1)):Int).toNat)) x25) o19.2.1).bind fun _=>(xI (wv x21 (0+((IntKind.wrap .i64 (o19.2.1+1)):Int).toNat) ((0+((x21.length:Int):Int).toNat)-(0+((IntKind.wrap .i64 (o19.2.1+1)):Int).toNat)) x25) o19.2.1 x27).bind fun x30=>some (.next ((IntKind.wrap .i64 (o19.1+1)),x30))
def nI(a0:(List ag)):(Int×(List ag))->Option (oJ (Int×(List ag)) ((List ag))):=fun(s1,s2)=>
  if(decide (s1<(a0.length:Int)))=true then((kG (nH s2 a0 s1) (s2.length:Int)).bind fun o19=>if(decide (o19.2.1>0))=true then((inO o19.2.2 (IntKind.wrap .i64 (o19.2.1-1))).bind fun _=>(pH o19.2.2 (IntKind.wrap .i64 (o19.2.1-1))).bind fun x35=>(pH a0 o19.1).bind fun x36=>if(((x35.ar.aT==x36.ar.aT)&&((x35.ar.aU==x36.ar.aU)&&((x35.ar.ac==x36.ar.ac)&&((x35.ar.aS==x36.ar.aS)&&true))))&&((x35.aP==x36.aP)&&((x35.aZ==x36.aZ)&&((x35.bg==x36.bg)&&((x35.aI==x36.aI)&&((x35.aL==x36.aL)&&true))))))=true then(some (.next ((IntKind.wrap .i64 (o19.1+1)),o19.2.2)))else(fR a0 o19))else(fR a0 o19))else(some (.stop s2))
def mI(a0:(List ag)):Option ((List ag)):=
  (kG (nI a0) (0,([]:(List ag)))).bind fun o39=>some o39
def cW(a0:(List ag))(a1:(List ag)):Int->Option (oJ (Int) ((Unit)⊕(Bool))):=fun s2=>
  if(decide (s2<(a0.length:Int)))=true then((pH a0 s2).bind fun x5=>(pH a1 s2).bind fun x6=>if(!(((x5.ar.aT==x6.ar.aT)&&((x5.ar.aU==x6.ar.aU)&&((x5.ar.ac==x6.ar.ac)&&((x5.ar.aS==x6.ar.aS)&&true))))&&((x5.aP==x6.aP)&&((x5.aZ==x6.aZ)&&((x5.bg==x6.bg)&&((x5.aI==x6.aI)&&((x5.aL==x6.aL)&&true)))))))=true then(some (.stop (.inr false)))else(some (.next (IntKind.wrap .i64 (s2+1)))))else(some (.stop (.inl ())))
def cn(a0:(List ag))(a1:(List ag)):Option (Bool):=
  if((a0.length:Int) != (a1.length:Int))=true then(some false)else((kG (cW a0 a1) 0).bind fun o9=>match o9 with| .inl _=>(some true)| .inr r11=>(some r11))
def jl(a1:(List ag))(a0:(List ag))(s1:Int):Int->Option (oJ (Int) ((Int)⊕(Bool))):=fun s4=>
  if(decide (s4<(a1.length:Int)))=true then((pH a0 s1).bind fun x8=>(pH a1 s4).bind fun x9=>if(((x8.ar.aT==x9.ar.aT)&&((x8.ar.aU==x9.ar.aU)&&((x8.ar.ac==x9.ar.ac)&&((x8.ar.aS==x9.ar.aS)&&true))))&&((x8.aP==x9.aP)&&((x8.aZ==x9.aZ)&&((x8.bg==x9.bg)&&((x8.aI==x9.aI)&&((x8.aL==x9.aL)&&true))))))=true then(some (.stop (.inr true)))else(some (.next (IntKind.wrap .i64 (s4+1)))))else(some (.stop (.inl s1)))
def md(a0:(List ag))(a1:(List ag)):Int->Option (oJ (Int) ((Unit)⊕(Bool))):=fun s1=>
  if(decide (s1<(a0.length:Int)))=true then((kG (jl a1 a0 s1) 0).bind fun o12=>match o12 with| .inl y13=>(some (.next (IntKind.wrap .i64 (y13+1))))| .inr r14=>(some (.stop (.inr r14))))else(some (.stop (.inl ())))
def iB(a0:(List ag))(a1:(List ag)):Option (Bool):=
  (kG (md a0 a1) 0).bind fun o16=>match o16 with| .inl _=>(some false)| .inr r18=>(some r18)
def m7(s1:Int)(a0:(List av))(x4:av):Int->Option (oJ (Int) ((Int)⊕(Bool))):=fun s5=>
  if(decide (s5<s1))=true then((pH a0 s5).bind fun x9=>(iB x4.aa.aX x9.aa.aX).bind fun x10=>if x10=true then(some (.stop (.inr false)))else(some (.next (IntKind.wrap .i64 (s5+1)))))else(some (.stop (.inl s1)))
def fj(s1:Int)(a0:(List av))(x4:av):Option (oJ (Int) ((Unit)⊕(Bool))):=
  (kG (m7 s1 a0 x4) 0).bind fun o13=>match o13 with| .inl y14=>(some (.next (IntKind.wrap .i64 (y14+1))))| .inr r15=>(some (.stop (.inr r15)))
def m8(a0:(List av)):Int->Option (oJ (Int) ((Unit)⊕(Bool))):=fun s1=>
  if(decide (s1<(a0.length:Int)))=true then((pH a0 s1).bind fun x4=>if((x4.aa.aX.length:Int)==0)=true then(some (.stop (.inr false)))else((pH a0 s1).bind fun x18=>(mK x4.aa.aX).bind fun x19=>if(!(((x18.ap.ar.aT==x19.ar.aT)&&((x18.ap.ar.aU==x19.ar.aU)&&((x18.ap.ar.ac==x19.ar.ac)&&((x18.ap.ar.aS==x19.ar.aS)&&true))))&&((x18.ap.aP==x19.aP)&&((x18.ap.aZ==x19.aZ)&&((x18.ap.bg==x19.bg)&&((x18.ap.aI==x19.aI)&&((x18.ap.aL==x19.aL)&&true)))))))=true then(some (.stop (.inr false)))else((mI x4.aa.aX).bind fun x21=>(cn x4.aa.aX x21).bind fun x22=>if(!x22)=true then(some (.stop (.inr false)))else(if(decide (s1>0))=true then((pH a0 (IntKind.wrap .i64 (s1-1))).bind fun x25=>(pH a0 s1).bind fun x26=>(gC x25.ap x26.ap).bind fun x27=>if(decide (x27>=0))=true then(some (.stop (.inr false)))else(fj s1 a0 x4))else(fj s1 a0 x4)))))else(some (.stop (.inl ())))
def lh(a0:(List av)):Option (Bool):=
  (kG (m8 a0) 0).bind fun o30=>match o30 with| .inl _=>(some true)| .inr r32=>(some r32)
def me(a1:(List aM))(a4:Int):Int->Option (oJ (Int) ((Unit)⊕(Int))):=fun s5=>
  if(decide (s5<(a1.length:Int)))=true then((pH a1 s5).bind fun x8=>if(decide (a4<x8.fAt))=true then(some (.stop (.inr 9)))else(some (.next (IntKind.wrap .i64 (s5+1)))))else(some (.stop (.inl ())))
def eM(a4:Int)(a1:(List aM)):Option (Int):=
  if(decide (a4<0))=true then(some 2)else(if(decide (a4>18014398509481984))=true then(some 2)else((kG (me a1 a4) 0).bind fun o11=>match o11 with| .inl _=>(some 0)| .inr r13=>(some r13)))
def ko(a0:aQ)(a1:(List aM))(a2:Int)(a3:(List av))(a4:Int):Option (Int):=
  (eL a0).bind fun x1=>if(x1 != 0)=true then(some 27)else((ll a1).bind fun x15=>if(!x15)=true then(some 1)else((lh a3).bind fun x17=>if(!x17)=true then(some 1)else(if(decide (a2<0))=true then(some 1)else(if(decide ((a1.length:Int)>0))=true then((pH a1 (IntKind.wrap .i64 ((a1.length:Int)-1))).bind fun x21=>if(decide (a2<=x21.fID))=true then(some 1)else(eM a4 a1))else(eM a4 a1)))))
def nL(a0:(List av))(a1:ag):Int->Option (oJ (Int) ((Unit)⊕(Int))):=fun s1=>
  if(decide (s1<(a0.length:Int)))=true then((pH a0 s1).bind fun x4=>if(((x4.ap.ar.aT==a1.ar.aT)&&((x4.ap.ar.aU==a1.ar.aU)&&((x4.ap.ar.ac==a1.ar.ac)&&((x4.ap.ar.aS==a1.ar.aS)&&true))))&&((x4.ap.aP==a1.aP)&&((x4.ap.aZ==a1.aZ)&&((x4.ap.bg==a1.bg)&&((x4.ap.aI==a1.aI)&&((x4.ap.aL==a1.aL)&&true))))))=true then(some (.stop (.inr s1)))else(some (.next (IntKind.wrap .i64 (s1+1)))))else(some (.stop (.inl ())))
def lg(a0:(List av))(a1:ag):Option (Int):=
  (kG (nL a0 a1) 0).bind fun o7=>match o7 with| .inl _=>(some (-1))| .inr r9=>(some r9)
def pA(d0:(List Int))(a1:Int):Int->Option (oJ (Int) ((Unit)⊕(Bool×(List Int)))):=fun s1=>
  if(decide (s1<(d0.length:Int)))=true then((inO d0 s1).bind fun _=>(pH d0 s1).bind fun x6=>if(x6==a1)=true then(some (.stop (.inr (true,d0))))else(some (.next (IntKind.wrap .i64 (s1+1)))))else(some (.stop (.inl ())))
def mi(a1:Int)(d0:(List Int)):Option (Bool×(List Int)):=
  (kG (pA d0 a1) 0).bind fun o9=>match o9 with| .inl _=>(some (false,d0))| .inr r11=>(some r11)
def ref36_common_l11(a1:(List ag))(a0:(List ag))(s1:Int):Int->Option (oJ (Int) ((Int)⊕(Bool))):=fun s4=>
  if(decide (s4<(a1.length:Int)))=true then((pH a0 s1).bind fun x8=>(pH a1 s4).bind fun x9=>if(((x8.ar.aT==x9.ar.aT)&&((x8.ar.aU==x9.ar.aU)&&((x8.ar.ac==x9.ar.ac)&&((x8.ar.aS==x9.ar.aS)&&true))))&&((x8.aP==x9.aP)&&((x8.aZ==x9.aZ)&&((x8.bg==x9.bg)&&((x8.aI==x9.aI)&&((x8.aL==x9.aL)&&true))))))=true then(some (.stop (.inr true)))else(some (.next (IntKind.wrap .i64 (s4+1)))))else(some (.stop (.inl s1)))
def ref36_common_l15(a0:(List ag))(a1:(List ag)):Int->Option (oJ (Int) ((Unit)⊕(Bool))):=fun s1=>
  if(decide (s1<(a0.length:Int)))=true then((kG (ref36_common_l11 a1 a0 s1) 0).bind fun o12=>match o12 with| .inl y13=>(some (.next (IntKind.wrap .i64 (y13+1))))| .inr r14=>(some (.stop (.inr r14))))else(some (.stop (.inl ())))
def mO(a0:(List ag))(a1:(List ag)):Option (Bool):=
  (kG (ref36_common_l15 a0 a1) 0).bind fun o16=>match o16 with| .inl _=>(some false)| .inr r18=>(some r18)
def eN(s2:(List Int))(s1:Int)(j6:Int):Option (oJ (Int×(List Int)) ((List Int))):=
  (mi j6 s2).bind fun x7=>if x7.1=true then((qq x7.2 [-1] 8).bind fun x9=>some (.next ((IntKind.wrap .i64 (s1+1)),x9)))else((qq x7.2 [j6] 8).bind fun x10=>some (.next ((IntKind.wrap .i64 (s1+1)),x10)))
def mf(a0:(List aM))(a1:(List av)):(Int×(List Int))->Option (oJ (Int×(List Int)) ((List Int))):=fun(s1,s2)=>
  if(decide (s1<(a0.length:Int)))=true then((pH a0 s1).bind fun x12=>if(!x12.bA)=true then((pH a0 s1).bind fun x14=>(lg a1 x14.ap).bind fun x15=>eN s2 s1 x15)else(eN s2 s1 (-1)))else(some (.stop s2))
def mg(a1:(List av))(s18:Int)(a0:(List aM)):(Int×(List Int))->Option (oJ (Int×(List Int)) (Int×(List Int))):=fun(s23,s24)=>
  if(decide (s23<(a1.length:Int)))=true then((inO s24 s18).bind fun _=>(pH s24 s18).bind fun x31=>if(decide (x31<0))=true then((pH a0 s18).bind fun x33=>if(!x33.bA)=true then((mi s23 s24).bind fun x35=>if(!x35.1)=true then((pH a0 s18).bind fun x37=>(pH a1 s23).bind fun x38=>(mO x37.ah.aa.aX x38.aa.aX).bind fun x39=>if x39=true then((inO x35.2 s18).bind fun _=>(xI x35.2 s18 s23).bind fun x43=>some (.next ((IntKind.wrap .i64 (s23+1)),x43)))else(some (.next ((IntKind.wrap .i64 (s23+1)),x35.2))))else(some (.next ((IntKind.wrap .i64 (s23+1)),x35.2))))else(some (.stop (s18,s24))))else(some (.stop (s18,s24))))else(some (.stop (s18,s24)))
def mh(a0:(List aM))(a1:(List av)):(Int×(List Int))->Option (oJ (Int×(List Int)) ((List Int))):=fun(s18,s19)=>
  if(decide (s18<(a0.length:Int)))=true then((kG (mg a1 s18 a0) (0,s19)).bind fun o45=>some (.next ((IntKind.wrap .i64 (o45.1+1)),o45.2)))else(some (.stop s19))
def kq(a0:(List aM))(a1:(List av)):Option ((List Int)):=
  (kG (mf a0 a1) (0,([]:(List Int)))).bind fun o17=>(kG (mh a0 a1) (0,o17)).bind fun o47=>some o47
def lj(a0:bD)(a1:av):Option (Bool):=
  if(decide (a1.aa.bn>=1))=true then(if(decide (a1.aa.aA.aW>=a0.aA))=true then(if(decide ((a1.aa.aX.length:Int)>=a0.aX))=true then(some (decide (a1.aa.ac.bc<=a0.bc)))else(some false))else(some false))else(some false)
def na(a0:aQ)(a1:av):(Int×Int)->Option (oJ (Int×Int) (Int)):=fun(s1,s2)=>
  if(decide (s2<(a0.ce.length:Int)))=true then((eL a0).bind fun x6=>if(x6==0)=true then((pH a0.ce s2).bind fun x8=>(lj x8 a1).bind fun x9=>if x9=true then(some (.next ((IntKind.wrap .i64 (s2+1)),(IntKind.wrap .i64 (s2+1)))))else(some (.next (s1,(IntKind.wrap .i64 (s2+1))))))else(some (.stop s1)))else(some (.stop s1))
def eh(a0:aQ)(a1:av):Option (Int):=
  (kG (na a0 a1) (0,0)).bind fun o12=>some o12
def nK(a0:aH)(a1:aH):Option (Bool):=
  some (decide ((if a1.aW>a0.aW then a1.aW else a0.aW)<=(if a1.aN<a0.aN then a1.aN else a0.aN)))
def jI(a0:ai):Option (Bool):=
  if(decide (a0.fX>=(-1048576)))=true then(if(decide (a0.fX<=1048576))=true then(if(decide (a0.fY>=(-1048576)))=true then(if(decide (a0.fY<=1048576))=true then(if(decide (a0.fZ>=(-16384)))=true then(some (decide (a0.fZ<=1048576)))else(some false))else(some false))else(some false))else(some false))else(some false)
def iz(a0:Int):Option (Int):=
  some (IntKind.wrap .i64 (a0*a0))
def kk(a0:ai)(a1:ai):Option (Int):=
  (jI a0).bind fun x1=>if(!x1)=true then(some 0)else((jI a1).bind fun x3=>if(!x3)=true then(some 0)else((iz (IntKind.wrap .i64 (a0.fX-a1.fX))).bind fun x5=>(iz (IntKind.wrap .i64 (a0.fY-a1.fY))).bind fun x6=>(iz (IntKind.wrap .i64 (a0.fZ-a1.fZ))).bind fun x7=>some (IntKind.wrap .i64 ((IntKind.wrap .i64 (x5+x6))+x7))))
def iC(a2:av)(a1:av)(a0:aQ):Option (Bool):=
  some (decide ((if(IntKind.wrap .i64 (a2.aa.ac.aP-a1.aa.ac.aP))>(IntKind.wrap .i64 (a1.aa.ac.aP-a2.aa.ac.aP))then(IntKind.wrap .i64 (a2.aa.ac.aP-a1.aa.ac.aP))else(IntKind.wrap .i64 (a1.aa.ac.aP-a2.aa.ac.aP)))>a0.dZ))
def lk(a0:aQ)(a1:av)(a2:av):Option (Bool):=
  (eL a0).bind fun x1=>if(x1 != 0)=true then(some false)else((eh a0 a1).bind fun x3=>(eh a0 a2).bind fun x4=>if(x3 != x4)=true then(some true)else((nK a1.aa.aA a2.aa.aA).bind fun x6=>if(!x6)=true then(some true)else(if(decide (a0.dZ<=4194304))=true then((kk a1.aa.ac.aO a2.aa.ac.aO).bind fun x10=>if(decide (x10>(IntKind.wrap .i64 (a0.dZ*a0.dZ))))=true then(some true)else(iC a2 a1 a0))else(iC a2 a1 a0))))
def oG(a0:(List Int))(a1:Int):Int->Option (oJ (Int) ((Unit)⊕(Bool))):=fun s1=>
  if(decide (s1<(a0.length:Int)))=true then((pH a0 s1).bind fun x4=>if(x4==a1)=true then(some (.stop (.inr true)))else(some (.next (IntKind.wrap .i64 (s1+1)))))else(some (.stop (.inl ())))
def mQ(a0:(List Int))(a1:Int):Option (Bool):=
  (kG (oG a0 a1) 0).bind fun o7=>match o7 with| .inl _=>(some false)| .inr r9=>(some r9)
def kl(a0:aQ)(a1:av)(a2:Int):Option (Bool):=
  (eh a0 a1).bind fun x1=>if(x1==0)=true then(some false)else(if(decide ((IntKind.wrap .i64 (a2-a1.aa.ac.aP))>=0))=true then((pH a0.ce (IntKind.wrap .i64 (x1-1))).bind fun x4=>some (decide ((IntKind.wrap .i64 (a2-a1.aa.ac.aP))<=x4.mC)))else(some false))
def cz(s6:(List aj))(a2:Int)(x11:aM)(a4:Int)(s5:(List aM))(j12:(List UInt8))(j13:(List UInt8))(j14:(List UInt8))(j15:(List UInt8))(j16:Int)(j17:Int)(j18:Int)(j19:Int)(j20:Int)(s4:Int)(j21:Int)(j22:Bool)(j23:Int)(j24:(List UInt8))(j25:(List UInt8))(j26:(List UInt8))(j27:(List UInt8))(j28:Int)(j29:Int)(j30:Int)(j31:Int)(j32:Int)(j33:(List ag))(j34:Int)(j35:Int)(j36:Int)(j37:Int)(j38:Int)(j39:Int)(j40:Int)(j41:Int)(j42:Int)(j43:Int)(j44:Int)(j45:Int)(j46:Int)(j47:Int)(j48:Int):Option (oJ (Int×(List aM)×(List aj)) ((List aM)×(List aj))):=
  if(decide (j21>0))=true then((qq s6 [(aj.mk (IntKind.wrap .i64 (a2+(s6.length:Int))) j21 x11.fID a4 j23 (av.mk (ag.mk (au.mk j24 j25 j26 j27) j28 j29 j30 j31 j32) (az.mk j33 (aD.mk (ai.mk j34 j35 j36) j37 j38 j39 (aY.mk (ai.mk j40 j41 j42) (ai.mk j43 j44 j45))) (aH.mk j46 j47) j48)))] 288).bind fun x50=>(qq s5 [(aM.mk x11.fID j22 (ag.mk (au.mk j12 j13 j14 j15) j16 j17 j18 j19 j20) j23 (av.mk (ag.mk (au.mk j24 j25 j26 j27) j28 j29 j30 j31 j32) (az.mk j33 (aD.mk (ai.mk j34 j35 j36) j37 j38 j39 (aY.mk (ai.mk j40 j41 j42) (ai.mk j43 j44 j45))) (aH.mk j46 j47) j48)) a4)] 384).bind fun x51=>some (.next ((IntKind.wrap .i64 (s4+1)),x51,x50)))else((qq s5 [(aM.mk x11.fID j22 (ag.mk (au.mk j12 j13 j14 j15) j16 j17 j18 j19 j20) j23 (av.mk (ag.mk (au.mk j24 j25 j26 j27) j28 j29 j30 j31 j32) (az.mk j33 (aD.mk (ai.mk j34 j35 j36) j37 j38 j39 (aY.mk (ai.mk j40 j41 j42) (ai.mk j43 j44 j45))) (aH.mk j46 j47) j48)) x11.fAt)] 384).bind fun x52=>some (.next ((IntKind.wrap .i64 (s4+1)),x52,s6)))
def fU(x3:(List Int))(s4:Int)(x11:aM)(s6:(List aj))(a2:Int)(a4:Int)(s5:(List aM))(a3:(List av))(a0:aQ)(j12:(List UInt8))(j13:(List UInt8))(j14:(List UInt8))(j15:(List UInt8))(j16:Int)(j17:Int)(j18:Int)(j19:Int)(j20:Int):Option (oJ (Int×(List aM)×(List aj)) ((List aM)×(List aj))):=
  (pH x3 s4).bind fun x54=>if x11.bA=true then(cz s6 a2 x11 a4 s5 j12 j13 j14 j15 j16 j17 j18 j19 j20 s4 0 x11.bA x11.bw x11.ah.ap.ar.aT x11.ah.ap.ar.aU x11.ah.ap.ar.ac x11.ah.ap.ar.aS x11.ah.ap.aP x11.ah.ap.aZ x11.ah.ap.bg x11.ah.ap.aI x11.ah.ap.aL x11.ah.aa.aX x11.ah.aa.ac.aO.fX x11.ah.aa.ac.aO.fY x11.ah.aa.ac.aO.fZ x11.ah.aa.ac.aP x11.ah.aa.ac.bc x11.ah.aa.ac.bu x11.ah.aa.ac.aF.aW.fX x11.ah.aa.ac.aF.aW.fY x11.ah.aa.ac.aF.aW.fZ x11.ah.aa.ac.aF.aN.fX x11.ah.aa.ac.aF.aN.fY x11.ah.aa.ac.aF.aN.fZ x11.ah.aa.aA.aW x11.ah.aa.aA.aN x11.ah.aa.bn)else(if(decide (x54<0))=true then(cz s6 a2 x11 a4 s5 j12 j13 j14 j15 j16 j17 j18 j19 j20 s4 3 true x11.bw x11.ah.ap.ar.aT x11.ah.ap.ar.aU x11.ah.ap.ar.ac x11.ah.ap.ar.aS x11.ah.ap.aP x11.ah.ap.aZ x11.ah.ap.bg x11.ah.ap.aI x11.ah.ap.aL x11.ah.aa.aX x11.ah.aa.ac.aO.fX x11.ah.aa.ac.aO.fY x11.ah.aa.ac.aO.fZ x11.ah.aa.ac.aP x11.ah.aa.ac.bc x11.ah.aa.ac.bu x11.ah.aa.ac.aF.aW.fX x11.ah.aa.ac.aF.aW.fY x11.ah.aa.ac.aF.aW.fZ x11.ah.aa.ac.aF.aN.fX x11.ah.aa.ac.aF.aN.fY x11.ah.aa.ac.aF.aN.fZ x11.ah.aa.aA.aW x11.ah.aa.aA.aN x11.ah.aa.bn)else((pH a3 x54).bind fun x57=>(eh a0 x57).bind fun x58=>if(x58==0)=true then(cz s6 a2 x11 a4 s5 j12 j13 j14 j15 j16 j17 j18 j19 j20 s4 3 true x11.bw x11.ah.ap.ar.aT x11.ah.ap.ar.aU x11.ah.ap.ar.ac x11.ah.ap.ar.aS x11.ah.ap.aP x11.ah.ap.aZ x11.ah.ap.bg x11.ah.ap.aI x11.ah.ap.aL x11.ah.aa.aX x11.ah.aa.ac.aO.fX x11.ah.aa.ac.aO.fY x11.ah.aa.ac.aO.fZ x11.ah.aa.ac.aP x11.ah.aa.ac.bc x11.ah.aa.ac.bu x11.ah.aa.ac.aF.aW.fX x11.ah.aa.ac.aF.aW.fY x11.ah.aa.ac.aF.aW.fZ x11.ah.aa.ac.aF.aN.fX x11.ah.aa.ac.aF.aN.fY x11.ah.aa.ac.aF.aN.fZ x11.ah.aa.aA.aW x11.ah.aa.aA.aN x11.ah.aa.bn)else((pH a3 x54).bind fun x60=>(lk a0 x11.ah x60).bind fun x61=>if x61=true then(if(decide ((IntKind.wrap .i64 (a4-x11.fAt))>=a0.fEvery))=true then((pH a3 x54).bind fun x64=>(eh a0 x64).bind fun x65=>(pH a3 x54).bind fun x66=>cz s6 a2 x11 a4 s5 j12 j13 j14 j15 j16 j17 j18 j19 j20 s4 2 x11.bA x65 x66.ap.ar.aT x66.ap.ar.aU x66.ap.ar.ac x66.ap.ar.aS x66.ap.aP x66.ap.aZ x66.ap.bg x66.ap.aI x66.ap.aL x66.aa.aX x66.aa.ac.aO.fX x66.aa.ac.aO.fY x66.aa.ac.aO.fZ x66.aa.ac.aP x66.aa.ac.bc x66.aa.ac.bu x66.aa.ac.aF.aW.fX x66.aa.ac.aF.aW.fY x66.aa.ac.aF.aW.fZ x66.aa.ac.aF.aN.fX x66.aa.ac.aF.aN.fY x66.aa.ac.aF.aN.fZ x66.aa.aA.aW x66.aa.aA.aN x66.aa.bn)else(cz s6 a2 x11 a4 s5 j12 j13 j14 j15 j16 j17 j18 j19 j20 s4 0 x11.bA x11.bw x11.ah.ap.ar.aT x11.ah.ap.ar.aU x11.ah.ap.ar.ac x11.ah.ap.ar.aS x11.ah.ap.aP x11.ah.ap.aZ x11.ah.ap.bg x11.ah.ap.aI x11.ah.ap.aL x11.ah.aa.aX x11.ah.aa.ac.aO.fX x11.ah.aa.ac.aO.fY x11.ah.aa.ac.aO.fZ x11.ah.aa.ac.aP x11.ah.aa.ac.bc x11.ah.aa.ac.bu x11.ah.aa.ac.aF.aW.fX x11.ah.aa.ac.aF.aW.fY x11.ah.aa.ac.aF.aW.fZ x11.ah.aa.ac.aF.aN.fX x11.ah.aa.ac.aF.aN.fY x11.ah.aa.ac.aF.aN.fZ x11.ah.aa.aA.aW x11.ah.aa.aA.aN x11.ah.aa.bn))else(cz s6 a2 x11 a4 s5 j12 j13 j14 j15 j16 j17 j18 j19 j20 s4 0 x11.bA x11.bw x11.ah.ap.ar.aT x11.ah.ap.ar.aU x11.ah.ap.ar.ac x11.ah.ap.ar.aS x11.ah.ap.aP x11.ah.ap.aZ x11.ah.ap.bg x11.ah.ap.aI x11.ah.ap.aL x11.ah.aa.aX x11.ah.aa.ac.aO.fX x11.ah.aa.ac.aO.fY x11.ah.aa.ac.aO.fZ x11.ah.aa.ac.aP x11.ah.aa.ac.bc x11.ah.aa.ac.bu x11.ah.aa.ac.aF.aW.fX x11.ah.aa.ac.aF.aW.fY x11.ah.aa.ac.aF.aW.fZ x11.ah.aa.ac.aF.aN.fX x11.ah.aa.ac.aF.aN.fY x11.ah.aa.ac.aF.aN.fZ x11.ah.aa.aA.aW x11.ah.aa.aA.aN x11.ah.aa.bn))))
def kT(a1:(List aM))(x3:(List Int))(a3:(List av))(a2:Int)(a4:Int)(a0:aQ):(Int×(List aM)×(List aj))->Option (oJ (Int×(List aM)×(List aj)) ((List aM)×(List aj))):=fun(s4,s5,s6)=>
  if(decide (s4<(a1.length:Int)))=true then((pH a1 s4).bind fun x11=>(pH x3 s4).bind fun x68=>if(decide (x68>=0))=true then((pH x3 s4).bind fun x70=>(pH a3 x70).bind fun x71=>fU x3 s4 x11 s6 a2 a4 s5 a3 a0 x71.ap.ar.aT x71.ap.ar.aU x71.ap.ar.ac x71.ap.ar.aS x71.ap.aP x71.ap.aZ x71.ap.bg x71.ap.aI x71.ap.aL)else(fU x3 s4 x11 s6 a2 a4 s5 a3 a0 x11.ap.ar.aT x11.ap.ar.aU x11.ap.ar.ac x11.ap.ar.aS x11.ap.aP x11.ap.aZ x11.ap.bg x11.ap.aI x11.ap.aL))else(some (.stop (s5,s6)))
def kU(a3:(List av))(x3:(List Int))(a0:aQ)(a4:Int)(a2:Int):(Int×(List aM)×(List aj))->Option (oJ (Int×(List aM)×(List aj)) ((List aM)×(List aj))):=fun(s74,s75,s76)=>
  if(decide (s74<(a3.length:Int)))=true then((mQ x3 s74).bind fun x81=>if x81=true then(some (.next ((IntKind.wrap .i64 (s74+1)),s75,s76)))else((pH a3 s74).bind fun x83=>(kl a0 x83 a4).bind fun x84=>if(!x84)=true then(some (.next ((IntKind.wrap .i64 (s74+1)),s75,s76)))else((pH a3 s74).bind fun x86=>(pH a3 s74).bind fun x87=>(eh a0 x87).bind fun x88=>(pH a3 s74).bind fun x89=>(qq s76 [(aj.mk (IntKind.wrap .i64 (a2+(s76.length:Int))) 1 (IntKind.wrap .i64 (a2+(s76.length:Int))) a4 x88 x89)] 288).bind fun x90=>(qq s75 [(aM.mk (IntKind.wrap .i64 (a2+(s76.length:Int))) false x86.ap x88 x89 a4)] 384).bind fun x91=>some (.next ((IntKind.wrap .i64 (s74+1)),x91,x90)))))else(some (.stop (s75,s76)))
def mN(a0:aQ)(a1:(List aM))(a2:Int)(a3:(List av))(a4:Int):Option ((List aM)×(List aj)×Int):=
  (ko a0 a1 a2 a3 a4).bind fun x1=>if(x1 != 0)=true then(some (([]:(List aM)),([]:(List aj)),x1))else((kq a1 a3).bind fun x3=>(kG (kT a1 x3 a3 a2 a4 a0) (0,([]:(List aM)),([]:(List aj)))).bind fun o73=>(kG (kU a3 x3 a0 a4 a2) (0,o73.1,o73.2)).bind fun o93=>if(decide ((o93.1.length:Int)>200))=true then(some (([]:(List aM)),([]:(List aj)),8))else(if(decide ((IntKind.wrap .i64 (a2+(o93.2.length:Int)))>1000))=true then(if(decide ((o93.2.length:Int)>0))=true then(some (([]:(List aM)),([]:(List aj)),8))else(some (o93.1,o93.2,0)))else(some (o93.1,o93.2,0))))
def nC(a1:Int)(x1:aQ×aq):((List aM)×Int×Int×(List Int)×Int×(List aj))->Option (oJ ((List aM)×Int×Int×(List Int)×Int×(List aj)) ((List aj)×(List Int)×Int)):=fun(s2,s3,s4,s5,s6,s7)=>
  if(decide (s4<a1))=true then((ff 400 (aq.mk s5 s6)).bind fun x13=>(mw 4 x13.2).bind fun x14=>(mN x1.1 s2 (s7.length:Int) x14.1 (IntKind.wrap .i64 (s3+x13.1))).bind fun x15=>if(x15.2.2==0)=true then((qq s7 x15.2.1 288).bind fun x17=>some (.next (x15.1,(IntKind.wrap .i64 (s3+x13.1)),(IntKind.wrap .i64 (s4+1)),x14.2.fL,x14.2.fAt,x17)))else(some (.next (s2,(IntKind.wrap .i64 (s3+x13.1)),(IntKind.wrap .i64 (s4+1)),x14.2.fL,x14.2.fAt,s7))))else(some (.stop (s7,s5,s6)))
def mD(a1:Int)(d0:aq):Option ((List aj)×aq):=
  (my d0).bind fun x1=>(kG (nC a1 x1) (([]:(List aM)),1000,0,x1.2.fL,x1.2.fAt,([]:(List aj)))).bind fun o19=>some (o19.1,(aq.mk o19.2.1 o19.2.2))
def jm(a0:Int)(a1:Int)(a2:Int):Option (Bool):=
  if(decide (a0>=a1))=true then(some (decide (a0<=a2)))else(some false)
def o5(a0:Int):Option (aG×Int):=
  (jm a0 1 256).bind fun x1=>if(!x1)=true then(some ((aG.mk 0 0 []),2))else(some ((aG.mk a0 0 []),0))
def di(a0:Int)(a1:Int)(a2:Int):Option (Bool):=
  if(decide (a0>=a1))=true then(some (decide (a0<=a2)))else(some false)
def px:Option (aw):=
  some (aw.mk [] [])
def link_New:Option (aC):=
  some (aC.mk 0 0 [])
def ln(a0:Int)(a1:Int):Option (aK×Int):=
  (o5 a0).bind fun x1=>if(x1.2 != 0)=true then(some ((aK.mk 0 0 0 (aG.mk 0 0 []) (aw.mk [] []) (aC.mk 0 0 []) (aC.mk 0 0 []) []),2))else((di a1 1 4096).bind fun x3=>if(!x3)=true then(some ((aK.mk 0 0 0 (aG.mk 0 0 []) (aw.mk [] []) (aC.mk 0 0 []) (aC.mk 0 0 []) []),2))else((px ).bind fun x5=>(link_New ).bind fun x6=>(link_New ).bind fun x7=>some ((aK.mk 0 a1 0 x1.1 x5 x6 x7 []),0)))
def kx(a0:Int):Option (Bool):=
  if(decide (a0>=65))=true then(if(decide (a0<=90))=true then(some true)else(if(decide (a0>=48))=true then(some (decide (a0<=57)))else(some false)))else(if(decide (a0>=48))=true then(some (decide (a0<=57)))else(some false))
def kX(a0:(List UInt8)):Int->Option (oJ (Int) ((Unit)⊕(Bool))):=fun s1=>
  if(decide (s1<(a0.length:Int)))=true then((uY a0 s1).bind fun x4=>(kx x4).bind fun x5=>if(!x5)=true then(some (.stop (.inr false)))else(some (.next (IntKind.wrap .i64 (s1+1)))))else(some (.stop (.inl ())))
def f5(a0:(List UInt8))(a1:Int)(a2:Int):Option (Bool):=
  (kG (kX a0) 0).bind fun o8=>match o8 with| .inl _=>(if(decide ((a0.length:Int)>=a1))=true then(some (decide ((a0.length:Int)<=a2)))else(some false))| .inr r10=>(some r10)
def fe(a0:au):Option (Bool):=
  (f5 a0.aT 1 2).bind fun x1=>if x1=true then((f5 a0.aU 1 5).bind fun x3=>if x3=true then((f5 a0.ac 0 2).bind fun x5=>if x5=true then(if((a0.ac.length:Int) != 1)=true then((f5 a0.aS 3 3).bind fun x8=>some x8)else(some false))else(some false))else(some false))else(some false)
def kC(a0:Int)(a1:Int)(a2:Int):Option (Bool):=
  if(decide (a0>=a1))=true then(some (decide (a0<=a2)))else(some false)
def cv(a0:ag):Option (Bool):=
  (fe a0.ar).bind fun x1=>if x1=true then(if(decide (a0.aZ>=0))=true then(if(decide (a0.aZ<=a0.aP))=true then(if(decide (a0.aP<=a0.bg))=true then(if(decide (a0.bg<=18014398509481984))=true then((kC a0.aI 0 1073741823).bind fun x7=>if x7=true then((kC a0.aL (-1) 1).bind fun x9=>some x9)else(some false))else(some false))else(some false))else(some false))else(some false))else(some false)
def dh(a0:ag):Option (Bool):=
  (cv a0).bind fun x1=>some (!x1)
def bC(a0:(List ag)):Int->Option (oJ (Int) ((Unit)⊕(Int))):=fun s1=>
  if(decide (s1<(a0.length:Int)))=true then((pH a0 s1).bind fun x4=>(dh x4).bind fun x5=>if x5=true then(some (.stop (.inr s1)))else(some (.next (IntKind.wrap .i64 (s1+1)))))else(some (.stop (.inl ())))
def bP(a0:(List ag)):Option (Int):=
  (kG (bC a0) 0).bind fun o8=>match o8 with| .inl _=>(some (-1))| .inr r10=>(some r10)
def bB(a0:(List ag)):Option (Bool):=
  (bP a0).bind fun x1=>some (decide (x1>=0))
def eJ(a0:Int):Option (Bool):=
  if(decide (a0<(-1152921504606846976)))=true then(some true)else(some (decide (a0>1152921504606846976)))
def bU(a0:(List Int)):Int->Option (oJ (Int) ((Unit)⊕(Int))):=fun s1=>
  if(decide (s1<(a0.length:Int)))=true then((pH a0 s1).bind fun x4=>(eJ x4).bind fun x5=>if x5=true then(some (.stop (.inr s1)))else(some (.next (IntKind.wrap .i64 (s1+1)))))else(some (.stop (.inl ())))
def ci(a0:(List Int)):Option (Int):=
  (kG (bU a0) 0).bind fun o8=>match o8 with| .inl _=>(some (-1))| .inr r10=>(some r10)
def bT(a0:(List Int)):Option (Bool):=
  (ci a0).bind fun x1=>some (decide (x1>=0))
def ec(a0:(List Int)):Option (Bool):=
  (bT a0).bind fun x1=>some (!x1)
def dA(a0:ai):Option ((List Int)):=
  some [a0.fX,a0.fY,a0.fZ]
def cY(j2:(List Int)):Option ((List Int)):=
  some j2
def d9(a0:Int):Option ((List Int)):=
  if(decide (a0<0))=true then(none)else(if(decide ((IntKind.wrap .i64 (a0-0))>0))=true then((mkZ (IntKind.wrap .i64 (a0-0)) 0 8).bind fun x5=>(wN x5.length 0 0).bind fun _=>cY (x5.take (0:Int).toNat))else(cY ([]:List Int)))
def cw(a0:(List (List Int))):(Int×Int)->Option (oJ (Int×Int) (Int)):=fun(s1,s2)=>
  if(decide (s2<(a0.length:Int)))=true then((pH a0 s2).bind fun x6=>if(decide ((IntKind.wrap .i64 (s1+(x6.length:Int)))<0))=true then(none)else(some (.next ((IntKind.wrap .i64 (s1+(x6.length:Int))),(IntKind.wrap .i64 (s2+1))))))else(some (.stop s1))
def ck(a0:(List (List Int))):(Int×(List Int))->Option (oJ (Int×(List Int)) ((List Int))):=fun(s11,s12)=>
  if(decide (s11<(a0.length:Int)))=true then((pH a0 s11).bind fun x16=>(qq s12 x16 8).bind fun x17=>some (.next ((IntKind.wrap .i64 (s11+1)),x17)))else(some (.stop s12))
def cA(a0:(List (List Int))):Option ((List Int)):=
  (kG (cw a0) (0,0)).bind fun o9=>(d9 o9).bind fun x10=>(kG (ck a0) (0,x10)).bind fun o19=>some o19
def eW(a0:az):Option ((List Int)):=
  (dA a0.ac.aO).bind fun x1=>(dA a0.ac.aF.aW).bind fun x2=>(dA a0.ac.aF.aN).bind fun x3=>(cA [x1,[a0.ac.aP,a0.ac.bc,a0.ac.bu],x2,x3,[a0.aA.aW,a0.aA.aN,a0.bn]]).bind fun x4=>some x4
def eu(a0:aj):Option (Bool):=
  if(decide (a0.bv<0))=true then(some false)else(if(decide (a0.bv>=1000))=true then(some false)else(if(decide (a0.bX<1))=true then(some false)else(if(decide (a0.bX>3))=true then(some false)else(if(decide (a0.fID<0))=true then(some false)else(if(decide (a0.fID>a0.bv))=true then(some false)else(if(!((a0.fID==a0.bv)==(a0.bX==1)))=true then(some false)else(if(decide (a0.bw<0))=true then(some false)else(if(decide (a0.bw>8))=true then(some false)else(if(decide ((a0.ah.aa.aX.length:Int)>64))=true then(some false)else((cv a0.ah.ap).bind fun x11=>if(!x11)=true then(some false)else((bB a0.ah.aa.aX).bind fun x13=>if x13=true then(some false)else((ec [a0.fAt]).bind fun x15=>if x15=true then((eW a0.ah.aa).bind fun x17=>(ec x17).bind fun x18=>some x18)else(some false)))))))))))))
def iW(a0:(List Int)):(Int×(List (List UInt8)))->Option (oJ (Int×(List (List UInt8))) ((List (List UInt8)))):=fun(s1,s2)=>
  if(decide (s1<(a0.length:Int)))=true then((pH a0 s1).bind fun x5=>(u7 x5).bind fun x6=>(qq s2 [x6] 16).bind fun x7=>some (.next ((IntKind.wrap .i64 (s1+1)),x7)))else((some s2).bind fun z8=>some (.stop z8))
def dE(a0:(List Int)):Option ((List (List UInt8))):=
  (kG (iW a0) (0,([]:(List (List UInt8))))).bind fun o10=>some o10
def kw(a0:au):Option (ca):=
  some (ca.mk a0.aT a0.aU a0.ac a0.aS)
def gE(a0:au):Option ((List UInt8)×Int):=
  (fe a0).bind fun x1=>if(!x1)=true then(some (([]:(List UInt8)),1))else((kw a0).bind fun x3=>(u9 [x3.a0,x3.a1,x3.a2,x3.a3] ([46]:List UInt8)).bind fun x4=>some (x4,0))
def cJ(a0:(List Int)):(Int×(List (List UInt8)))->Option (oJ (Int×(List (List UInt8))) ((List (List UInt8)))):=fun(s2,s3)=>
  if(decide (s2<(a0.length:Int)))=true then((pH a0 s2).bind fun x6=>(u7 x6).bind fun x7=>(qq s3 [x7] 16).bind fun x8=>some (.next ((IntKind.wrap .i64 (s2+1)),x8)))else((some s3).bind fun z9=>some (.stop z9))
def bV(a0:(List Int))(d1:(List (List UInt8))):Option ((List (List UInt8))):=
  (kG (cJ a0) (0,d1)).bind fun o11=>some o11
def em(a0:ag)(d1:(List (List UInt8))):Option ((List (List UInt8))):=
  (gE a0.ar).bind fun x1=>(qq d1 [x1.1] 16).bind fun x2=>(bV [a0.aP,a0.aZ,a0.bg,a0.aI,a0.aL] x2).bind fun x3=>some x3
def cK(a0:aj):(Int×(List (List UInt8)))->Option (oJ (Int×(List (List UInt8))) ((List (List UInt8)))):=fun(s6,s7)=>
  if(decide (s6<(a0.ah.aa.aX.length:Int)))=true then((pH a0.ah.aa.aX s6).bind fun x11=>(em x11 s7).bind fun x12=>some (.next ((IntKind.wrap .i64 (s6+1)),x12)))else(some (.stop s7))
def dx(a0:aj):Option ((List UInt8)×Int):=
  (eu a0).bind fun x1=>if(!x1)=true then(some (([]:(List UInt8)),1))else((dE [a0.bv,a0.bX,a0.fID,a0.fAt,a0.bw]).bind fun x3=>(em a0.ah.ap x3).bind fun x4=>(bV [(a0.ah.aa.aX.length:Int)] x4).bind fun x5=>(kG (cK a0) (0,x5)).bind fun o14=>(eW a0.ah.aa).bind fun x15=>(bV x15 o14).bind fun x16=>(u9 x16 ([32]:List UInt8)).bind fun x17=>some (x17,0))
def fN(d0:aq):Option (am×aq):=
  (ff 4 d0).bind fun x1=>(ff 4 x1.2).bind fun x2=>(ff 3 x2.2).bind fun x3=>some ((am.mk (x1.1==0) x2.1 x3.1),x3.2)
def dy(a0:aG):Option (Int):=
  some (IntKind.wrap .i64 (a0.bJ+(a0.ch.length:Int)))
def iG(a0:(List UInt8)):Option (Bool):=
  some (decide ((a0.length:Int)>4064))
def cS(a0:(List (List UInt8))):Int->Option (oJ (Int) ((Unit)⊕(Int))):=fun s1=>
  if(decide (s1<(a0.length:Int)))=true then((pH a0 s1).bind fun x4=>(iG x4).bind fun x5=>if x5=true then(some (.stop (.inr s1)))else(some (.next (IntKind.wrap .i64 (s1+1)))))else(some (.stop (.inl ())))
def dn(a0:(List (List UInt8))):Option (Int):=
  (kG (cS a0) 0).bind fun o8=>match o8 with| .inl _=>(some (-1))| .inr r10=>(some r10)
def b9(a0:(List (List UInt8))):Option (Bool):=
  (dn a0).bind fun x1=>some (decide (x1>=0))
def ei(a0:aG):Option (Bool):=
  (jm a0.c8 1 256).bind fun x1=>if(!x1)=true then(some false)else((jm a0.bJ 0 1073741825).bind fun x3=>if(!x3)=true then(some false)else(if(decide ((a0.ch.length:Int)>a0.c8))=true then(some false)else((dy a0).bind fun x6=>if(decide (x6>1073741825))=true then(some false)else((b9 a0.ch).bind fun x8=>some (!x8)))))
def ic(a0:ae):Option (Bool):=
  some (decide (a0.bd<a0.fTo))
def iU(a0:(List ae)):Int->Option (oJ (Int) ((Unit)⊕(Bool))):=fun s1=>
  if(decide (s1<(a0.length:Int)))=true then((pH a0 s1).bind fun x4=>(ic x4).bind fun x5=>if(!x5)=true then(some (.stop (.inr false)))else(if(decide (s1>0))=true then((pH a0 (IntKind.wrap .i64 (s1-1))).bind fun x8=>if(decide (x4.bd<=x8.fTo))=true then(some (.stop (.inr false)))else(some (.next (IntKind.wrap .i64 (s1+1)))))else(some (.next (IntKind.wrap .i64 (s1+1))))))else(some (.stop (.inl ())))
def hU(a0:(List ae)):Option (Bool):=
  (kG (iU a0) 0).bind fun o11=>match o11 with| .inl _=>(some true)| .inr r13=>(some r13)
def ge(a0:(List ae)):Option (Bool):=
  (hU a0).bind fun x1=>if x1=true then(if((a0.length:Int)==0)=true then(some true)else((pH a0 0).bind fun x4=>if(decide (x4.bd>=0))=true then((pH a0 (IntKind.wrap .i64 ((a0.length:Int)-1))).bind fun x6=>some (decide (x6.fTo<=1073741825)))else(some false)))else(some false)
def gi(a0:ae):Option (Bool):=
  (ic a0).bind fun x1=>some (!x1)
def bS(d0:(List ae)):Int->Option (oJ (Int) ((Unit)⊕(Int×(List ae)))):=fun s1=>
  if(decide (s1<(d0.length:Int)))=true then((inO d0 s1).bind fun _=>(pH d0 s1).bind fun x6=>(gi x6).bind fun x7=>if x7=true then(some (.stop (.inr (s1,d0))))else(some (.next (IntKind.wrap .i64 (s1+1)))))else(some (.stop (.inl ())))
def dD(d0:(List ae)):Option (Int×(List ae)):=
  (kG (bS d0) 0).bind fun o10=>match o10 with| .inl _=>(some ((-1),d0))| .inr r12=>(some r12)
def cP:(Int×Int×(List ae))->Option (oJ (Int×Int×(List ae)) (Int×(List ae))):=fun(s3,s4,s5)=>
  if(decide (s4<(s5.length:Int)))=true then((inO s5 s4).bind fun _=>(pH s5 s4).bind fun x12=>(gi x12).bind fun x13=>if(!x13)=true then((inO s5 s3).bind fun _=>(xI s5 s3 x12).bind fun x17=>some (.next ((IntKind.wrap .i64 (s3+1)),(IntKind.wrap .i64 (s4+1)),x17)))else(some (.next (s3,(IntKind.wrap .i64 (s4+1)),s5))))else(some (.stop (s3,s5)))
def b7(d0:(List ae)):Option ((List ae)):=
  (dD d0).bind fun x1=>if(x1.1==(-1))=true then(some x1.2)else((kG (cP) (x1.1,(IntKind.wrap .i64 (x1.1+1)),x1.2)).bind fun o19=>(wN o19.2.length o19.1 (o19.2.length:Int)).bind fun _=>(yG o19.2.length (0+(o19.1:Int).toNat) (0+((o19.2.length:Int):Int).toNat)).bind fun _=>(wN (uu o19.2 (0+(o19.1:Int).toNat) ((0+((o19.2.length:Int):Int).toNat)-(0+(o19.1:Int).toNat)) (ae.mk 0 0)).length 0 o19.1).bind fun _=>some ((uu o19.2 (0+(o19.1:Int).toNat) ((0+((o19.2.length:Int):Int).toNat)-(0+(o19.1:Int).toNat)) (ae.mk 0 0)).take (o19.1:Int).toNat))
def gx(a0:Int):Option (Bool):=
  some (a0 != a0)
def fg(a0:Int)(a1:Int):Option (Int):=
  (gx a0).bind fun x1=>(gx a1).bind fun x2=>if x1=true then(if x2=true then(some 0)else(some (-1)))else(if x2=true then(some 1)else(if(decide (a0<a1))=true then(some (-1))else(if(decide (a0>a1))=true then(some 1)else(some 0))))
def bW(a0:ae)(a1:ae):Option (Int):=
  (fg a0.bd a1.bd).bind fun x1=>some x1
def gP(x3:(List ae)):(Int×(List ae))->Option (oJ (Int×(List ae)) ((List ae))):=fun(s4,s5)=>
  if(decide (s4<(x3.length:Int)))=true then((inO x3 s4).bind fun _=>(pH x3 s4).bind fun x11=>if(decide ((s5.length:Int)>0))=true then((inO s5 (IntKind.wrap .i64 ((s5.length:Int)-1))).bind fun _=>(pH s5 (IntKind.wrap .i64 ((s5.length:Int)-1))).bind fun x15=>if(decide (x11.bd<=x15.fTo))=true then((inO s5 (IntKind.wrap .i64 ((s5.length:Int)-1))).bind fun _=>(pH s5 (IntKind.wrap .i64 ((s5.length:Int)-1))).bind fun x19=>(inO s5 (IntKind.wrap .i64 ((s5.length:Int)-1))).bind fun _=>(xH s5 (IntKind.wrap .i64 ((s5.length:Int)-1)) (fun(z23:ae)=>(ae.mk z23.bd (if x11.fTo>x19.fTo then x11.fTo else x19.fTo)))).bind fun x22=>some (.next ((IntKind.wrap .i64 (s4+1)),x22)))else((qq s5 [x11] 16).bind fun x24=>some (.next ((IntKind.wrap .i64 (s4+1)),x24))))else((qq s5 [x11] 16).bind fun x25=>some (.next ((IntKind.wrap .i64 (s4+1)),x25))))else(some (.stop s5))
def cj(a0:(List ae)):Option ((List ae)):=
  (rb 16 a0).bind fun x1=>(b7 x1).bind fun x2=>(vo bW x2).bind fun x3=>(kG (gP x3) (0,([]:(List ae)))).bind fun o27=>some o27
def lP(x1:(List ae))(s3:Int)(x2:(List ae))(s4:Int)(j10:(List ae)):Option (oJ (Int×Int×(List ae)) ((List ae))):=
  (pH x1 s3).bind fun x11=>(pH x2 s4).bind fun x12=>if(decide (x11.fTo<x12.fTo))=true then(some (.next ((IntKind.wrap .i64 (s3+1)),s4,j10)))else(some (.next (s3,(IntKind.wrap .i64 (s4+1)),j10)))
def oH(x1:(List ae))(x2:(List ae)):(Int×Int×(List ae))->Option (oJ (Int×Int×(List ae)) ((List ae))):=fun(s3,s4,s5)=>
  if(decide (s3<(x1.length:Int)))=true then(if(decide (s4<(x2.length:Int)))=true then((pH x1 s3).bind fun x15=>(pH x2 s4).bind fun x16=>(pH x1 s3).bind fun x17=>(pH x2 s4).bind fun x18=>(ic (ae.mk (if x16.bd>x15.bd then x16.bd else x15.bd) (if x18.fTo<x17.fTo then x18.fTo else x17.fTo))).bind fun x19=>if x19=true then((qq s5 [(ae.mk (if x16.bd>x15.bd then x16.bd else x15.bd) (if x18.fTo<x17.fTo then x18.fTo else x17.fTo))] 16).bind fun x21=>lP x1 s3 x2 s4 x21)else(lP x1 s3 x2 s4 s5))else(some (.stop s5)))else(some (.stop s5))
def og(a0:(List ae))(a1:(List ae)):Option ((List ae)):=
  (cj a0).bind fun x1=>(cj a1).bind fun x2=>(kG (oH x1 x2) (0,0,([]:(List ae)))).bind fun o23=>some o23
def cy(a0:aw):Option (Bool):=
  (ge a0.eU).bind fun x1=>if x1=true then((ge a0.c7).bind fun x3=>if x3=true then((og a0.eU a0.c7).bind fun x5=>some ((x5.length:Int)==0))else(some false))else(some false)
def ld(a0:Int)(a1:Int)(a2:Int):Option (Bool):=
  if(decide (a0>=a1))=true then(some (decide (a0<=a2)))else(some false)
def et(a0:(List Int)):Int->Option (oJ (Int) ((Unit)⊕(Int))):=fun s1=>
  if(decide (s1<(a0.length:Int)))=true then((pH a0 s1).bind fun x4=>if(x4 != 0)=true then(some (.stop (.inr x4)))else(some (.next (IntKind.wrap .i64 (s1+1)))))else(some (.stop (.inl ())))
def mA(a0:(List Int)):Option (Int):=
  (kG (et a0) 0).bind fun o7=>match o7 with| .inl _=>(some 0)| .inr r9=>(some r9)
def jg(a0:ak)(a1:ak):Option (Int):=
  (mA [(IntKind.wrap .i64 (a0.fAt-a1.fAt)),(IntKind.wrap .i64 (a0.ba-a1.ba))]).bind fun x1=>some x1
def kP(a0:aC):Int->Option (oJ (Int) ((Unit)⊕(Bool))):=fun s6=>
  if(decide (s6<(a0.bq.length:Int)))=true then((pH a0.bq s6).bind fun x9=>if(decide ((x9.ch.length:Int)>4096))=true then(some (.stop (.inr false)))else((ld x9.fAt (IntKind.wrap .i64 (a0.bt+1)) 2199023255552).bind fun x11=>if(!x11)=true then(some (.stop (.inr false)))else((ld x9.ba 0 (IntKind.wrap .i64 (a0.ba-1))).bind fun x13=>if(!x13)=true then(some (.stop (.inr false)))else(if(decide (s6>0))=true then((pH a0.bq (IntKind.wrap .i64 (s6-1))).bind fun x16=>(jg x16 x9).bind fun x17=>if(decide (x17>=0))=true then(some (.stop (.inr false)))else(some (.next (IntKind.wrap .i64 (s6+1)))))else(some (.next (IntKind.wrap .i64 (s6+1))))))))else(some (.stop (.inl ())))
def gV(a0:aC):Option (Bool):=
  (ld a0.bt 0 1099511627776).bind fun x1=>if(!x1)=true then(some false)else((ld a0.ba 0 1099511627776).bind fun x3=>if(!x3)=true then(some false)else(if(decide ((a0.bq.length:Int)>1024))=true then(some false)else((kG (kP a0) 0).bind fun o20=>match o20 with| .inl _=>(some true)| .inr r22=>(some r22))))
def lO(a0:ae)(d0:Int):Option (Bool):=
  if(decide (a0.bd<=d0))=true then(some (decide (d0<a0.fTo)))else(some false)
def bR(a0:(List ae))(d0:Int):Int->Option (oJ (Int) ((Unit)⊕(Int))):=fun s1=>
  if(decide (s1<(a0.length:Int)))=true then((pH a0 s1).bind fun x4=>(lO x4 d0).bind fun x5=>if x5=true then(some (.stop (.inr s1)))else(some (.next (IntKind.wrap .i64 (s1+1)))))else(some (.stop (.inl ())))
def du(a0:(List ae))(d0:Int):Option (Int):=
  (kG (bR a0 d0) 0).bind fun o8=>match o8 with| .inl _=>(some (-1))| .inr r10=>(some r10)
def db(a0:(List ae))(d0:Int):Option (Bool):=
  (du a0 d0).bind fun x1=>some (decide (x1>=0))
def nS(a0:(List ae))(a1:Int):Option (Bool):=
  (db a0 a1).bind fun x1=>some x1
def fD(a0:aK):(Int×Int×(List (Int×Bool)))->Option (oJ (Int×Int×(List (Int×Bool))) ((Unit)⊕(Bool))):=fun(s1,s2,s3)=>
  if(decide (s2<(a0.bp.length:Int)))=true then((pH a0.bp s2).bind fun x6=>if(pI (fun a b=>a==b) x6.da false s3)=true then(some (.stop (.inr false)))else((di x6.da 0 1073741824).bind fun x8=>if(!x8)=true then(some (.stop (.inr false)))else((nS a0.bo.eU x6.da).bind fun x10=>if(!x10)=true then(some (.stop (.inr false)))else((di x6.fAt s1 a0.bt).bind fun x12=>if(!x12)=true then(some (.stop (.inr false)))else(some (.next (x6.fAt,(IntKind.wrap .i64 (s2+1)),(sZ (fun a b=>a==b) x6.da true s3))))))))else(some (.stop (.inl ())))
def fI(a0:aK):Option (Bool):=
  (kG (fD a0) (0,0,([]:List (Int×Bool)))).bind fun o15=>match o15 with| .inl _=>(some (decide ((a0.bp.length:Int)<=4096)))| .inr r17=>(some r17)
def gD(a0:aK):Option (Bool):=
  (di a0.bt 0 1099511627776).bind fun x1=>if x1=true then((di a0.br 1 4096).bind fun x3=>if x3=true then((ei a0.bj).bind fun x5=>if x5=true then((dy a0.bj).bind fun x7=>(di a0.bY 0 x7).bind fun x8=>if x8=true then((cy a0.bo).bind fun x10=>if x10=true then((gV a0.bF).bind fun x12=>if x12=true then((gV a0.fUp).bind fun x14=>if x14=true then(if(a0.bF.bt==a0.bt)=true then(if(a0.fUp.bt==a0.bt)=true then((fI a0).bind fun x18=>some x18)else(some false))else(some false))else(some false))else(some false))else(some false))else(some false))else(some false))else(some false))else(some false)
def d8(a0:am):Option (Bool):=
  (ld a0.eT 0 1048576).bind fun x1=>if x1=true then((ld a0.kf 0 8).bind fun x3=>some x3)else(some false)
def fV(a0:aK):Option (aK):=
  (rb 16 a0.bj.ch).bind fun x1=>(rb 16 a0.bo.eU).bind fun x2=>(rb 16 a0.bo.c7).bind fun x3=>(rb 32 a0.bF.bq).bind fun x4=>(rb 32 a0.fUp.bq).bind fun x5=>(rb 32 a0.bp).bind fun x6=>some (aK.mk a0.bt a0.br a0.bY (aG.mk a0.bj.c8 a0.bj.bJ x1) (aw.mk x2 x3) (aC.mk a0.bF.bt a0.bF.ba x4) (aC.mk a0.fUp.bt a0.fUp.ba x5) x6)
def lm(a0:aG)(a1:(List UInt8)):Option (aG×Int×Int):=
  (ei a0).bind fun x1=>if(!x1)=true then(some ((aG.mk 0 0 []),0,1))else((dy a0).bind fun x3=>if(decide ((a1.length:Int)>4064))=true then(some ((aG.mk 0 0 []),0,8))else(if(x3==1073741825)=true then(some ((aG.mk 0 0 []),0,8))else((qq a0.ch [a1] 16).bind fun x6=>if((a0.ch.length:Int)==a0.c8)=true then((si x6 1 (x6.length:Int)).bind fun x8=>some ((aG.mk a0.c8 (IntKind.wrap .i64 (a0.bJ+1)) x8),x3,0))else(some ((aG.mk a0.c8 a0.bJ x6),x3,0)))))
def jv(a0:Int)(a1:Int)(a2:Int):Option (Bool):=
  if(decide (a0>=a1))=true then(some (decide (a0<=a2)))else(some false)
def kd(a1:Int):(Int×(List Int))->Option (oJ (Int×(List Int)) ((List Int))):=fun(s7,s8)=>
  if(decide (s7>=0))=true then((shrO .i64 a1 (IntKind.wrap .i64 (8*s7))).bind fun x12=>(qq s8 [(IntKind.wrap .u8 x12)] 1).bind fun x13=>some (.next ((IntKind.wrap .i64 (s7-1)),x13)))else(some (.stop s8))
def lS(a0:(List UInt8))(a1:Int)(a2:Int):Option ((List UInt8)×Int):=
  (jv a2 1 7).bind fun x1=>if(!x1)=true then(some (([]:(List UInt8)),2))else((shlO .i64 1 (IntKind.wrap .i64 (8*a2))).bind fun x3=>(jv a1 0 (IntKind.wrap .i64 (x3-1))).bind fun x4=>if(!x4)=true then(some (([]:(List UInt8)),2))else((bytO a0).bind fun b6=>(kG (kd a1) ((IntKind.wrap .i64 (a2-1)),b6)).bind fun o15=>some ((vH o15),0)))
def eZ(a1:(List Int)):((List UInt8)×Int)->Option (oJ ((List UInt8)×Int) ((List UInt8))):=fun(s1,s2)=>
  if(decide (s2<(a1.length:Int)))=true then((pH a1 s2).bind fun x6=>(lS s1 x6 4).bind fun x7=>some (.next (x7.1,(IntKind.wrap .i64 (s2+1)))))else(some (.stop s1))
def cd(a0:(List UInt8))(a1:(List Int)):Option ((List UInt8)):=
  (kG (eZ a1) (a0,0)).bind fun o9=>some o9
def ly(s1:Int)(s2:(List Int))(j13:Int):Option (oJ (Int×(List Int)) ((List Int))):=
  (inA 256 s1).bind fun _=>(xI s2 s1 j13).bind fun x15=>some (.next ((IntKind.wrap .i64 (s1+1)),x15))
def lz(s1:Int)(s2:(List Int))(j12:Int):Option (oJ (Int×(List Int)) ((List Int))):=
  if((sQ .i64 j12 1)==1)=true then(ly s1 s2 (qV .i64 (pY .i64 j12 1) 3988292384))else(ly s1 s2 (pY .i64 j12 1))
def lA(s1:Int)(s2:(List Int))(j11:Int):Option (oJ (Int×(List Int)) ((List Int))):=
  if((sQ .i64 j11 1)==1)=true then(lz s1 s2 (qV .i64 (pY .i64 j11 1) 3988292384))else(lz s1 s2 (pY .i64 j11 1))
def lB(s1:Int)(s2:(List Int))(j10:Int):Option (oJ (Int×(List Int)) ((List Int))):=
  if((sQ .i64 j10 1)==1)=true then(lA s1 s2 (qV .i64 (pY .i64 j10 1) 3988292384))else(lA s1 s2 (pY .i64 j10 1))
def lC(s1:Int)(s2:(List Int))(j9:Int):Option (oJ (Int×(List Int)) ((List Int))):=
  if((sQ .i64 j9 1)==1)=true then(lB s1 s2 (qV .i64 (pY .i64 j9 1) 3988292384))else(lB s1 s2 (pY .i64 j9 1))
def lD(s1:Int)(s2:(List Int))(j8:Int):Option (oJ (Int×(List Int)) ((List Int))):=
  if((sQ .i64 j8 1)==1)=true then(lC s1 s2 (qV .i64 (pY .i64 j8 1) 3988292384))else(lC s1 s2 (pY .i64 j8 1))
def lE(s1:Int)(s2:(List Int))(j7:Int):Option (oJ (Int×(List Int)) ((List Int))):=
  if((sQ .i64 j7 1)==1)=true then(lD s1 s2 (qV .i64 (pY .i64 j7 1) 3988292384))else(lD s1 s2 (pY .i64 j7 1))
def lF(s1:Int)(s2:(List Int))(j6:Int):Option (oJ (Int×(List Int)) ((List Int))):=
  if((sQ .i64 j6 1)==1)=true then(lE s1 s2 (qV .i64 (pY .i64 j6 1) 3988292384))else(lE s1 s2 (pY .i64 j6 1))
def ov:(Int×(List Int))->Option (oJ (Int×(List Int)) ((List Int))):=fun(s1,s2)=>
  if(decide (s1<256))=true then(if((sQ .i64 s1 1)==1)=true then(lF s1 s2 (qV .i64 (pY .i64 s1 1) 3988292384))else(lF s1 s2 (pY .i64 s1 1)))else(some (.stop s2))
def lV:Option ((List Int)):=
  (kG (ov) (0,(List.replicate 256 (0:Int)))).bind fun o33=>(vd 256 o33).bind fun x34=>(vd 256 (List.replicate 256 (0:Int))).bind fun _=>(vd 256 x34).bind fun x35=>(vd 256 x35).bind fun x36=>some x36
def nu(a1:(List UInt8))(x4:(List Int)):(Int×Int)->Option (oJ (Int×Int) (Int)):=fun(s5,s6)=>
  if(decide (s6<(a1.length:Int)))=true then((uY a1 s6).bind fun x10=>(inA 256 (sQ .i64 (qV .i64 s5 (IntKind.wrap .i64 x10)) 255)).bind fun _=>(pH x4 (sQ .i64 (qV .i64 s5 (IntKind.wrap .i64 x10)) 255)).bind fun x12=>some (.next ((qV .i64 (pY .i64 s5 8) x12),(IntKind.wrap .i64 (s6+1)))))else(some (.stop s5))
def mB(a0:Int)(a1:(List UInt8)):Option (Int):=
  if(decide (a0<0))=true then(some 0)else(if(decide (a0>4294967295))=true then(some 0)else((lV ).bind fun x3=>(vd 256 (List.replicate 256 (0:Int))).bind fun _=>(vd 256 x3).bind fun x4=>(kG (nu a1 x4) ((qV .i64 a0 4294967295),0)).bind fun o14=>some (qV .i64 o14 4294967295)))
def crc_Sum(a0:(List UInt8)):Option (Int):=
  (mB 0 a0).bind fun x1=>some x1
def eS(a0:(List UInt8)):Option ((List UInt8)):=
  (crc_Sum a0).bind fun x1=>(xZ a0 (vH ([(IntKind.wrap .u8 x1),(IntKind.wrap .u8 (pY .i64 x1 8)),(IntKind.wrap .u8 (pY .i64 x1 16)),(IntKind.wrap .u8 (pY .i64 x1 24))]:List Int))).bind fun x2=>some x2
def iI(a0:Int)(a1:Int)(a2:(List UInt8)):Option ((List UInt8)×Int):=
  (di a0 0 1073741824).bind fun x1=>if(!x1)=true then(some (([]:(List UInt8)),2))else((di a1 0 1073741825).bind fun x3=>if(!x3)=true then(some (([]:(List UInt8)),2))else((cd ([68]:List UInt8) [a0,a1]).bind fun x5=>(xZ x5 a2).bind fun x6=>(eS x6).bind fun x7=>if(decide ((x7.length:Int)>4096))=true then(some (([]:(List UInt8)),8))else(some (x7,0))))
def cM(d0:(List ak))(a1:ak):(Int×Int)->Option (oJ (Int×Int) (Int)):=fun(s1,s2)=>
  if(decide (s1<s2))=true then((inO d0 (IntKind.wrap .i64 (pY .u64 (IntKind.wrap .u64 (IntKind.wrap .i64 (s1+s2))) 1))).bind fun _=>(pH d0 (IntKind.wrap .i64 (pY .u64 (IntKind.wrap .u64 (IntKind.wrap .i64 (s1+s2))) 1))).bind fun x8=>(jg x8 a1).bind fun x9=>if(decide (x9<0))=true then(some (.next ((IntKind.wrap .i64 ((IntKind.wrap .i64 (pY .u64 (IntKind.wrap .u64 (IntKind.wrap .i64 (s1+s2))) 1))+1)),s2)))else(some (.next (s1,(IntKind.wrap .i64 (pY .u64 (IntKind.wrap .u64 (IntKind.wrap .i64 (s1+s2))) 1))))))else(some (.stop s1))
def bM(a1:ak)(d0:(List ak)):Option (Int×Bool×(List ak)):=
  (kG (cM d0 a1) (0,(d0.length:Int))).bind fun o12=>if(decide (o12<(d0.length:Int)))=true then((inO d0 o12).bind fun _=>(pH d0 o12).bind fun x16=>(jg x16 a1).bind fun x17=>some (o12,(x17==0),d0))else(some (o12,false,d0))
def oD(j5:Int)(a0:aC)(a2:am)(a1:(List UInt8)):(Int×(List ak))->Option (oJ (Int×(List ak)) ((List ak))):=fun(s10,s11)=>
  if(decide (s10<j5))=true then((bM (ak.mk (IntKind.wrap .i64 ((IntKind.wrap .i64 ((IntKind.wrap .i64 (a0.bt+1))+a2.eT))+s10)) a0.ba a1) s11).bind fun x15=>(insO 32 x15.1 x15.2.2 [(ak.mk (IntKind.wrap .i64 ((IntKind.wrap .i64 ((IntKind.wrap .i64 (a0.bt+1))+a2.eT))+s10)) a0.ba a1)]).bind fun x16=>some (.next ((IntKind.wrap .i64 (s10+1)),x16)))else(some (.stop s11))
def gz(a1:(List UInt8))(a0:aC)(a2:am)(j5:Int):Option (aC×Int):=
  if(decide ((a1.length:Int)>4096))=true then(some ((aC.mk 0 0 []),8))else(if(a0.ba==1099511627776)=true then(some ((aC.mk 0 0 []),8))else(if(decide ((IntKind.wrap .i64 ((a0.bq.length:Int)+j5))>1024))=true then(some ((aC.mk 0 0 []),8))else((rb 32 a0.bq).bind fun x9=>(kG (oD j5 a0 a2 a1) (0,x9)).bind fun o18=>some ((aC.mk a0.bt (IntKind.wrap .i64 (a0.ba+1)) o18),0))))
def kz(a0:aC)(a1:(List UInt8))(a2:am):Option (aC×Int):=
  (gV a0).bind fun x1=>if(!x1)=true then(some ((aC.mk 0 0 []),1))else((d8 a2).bind fun x3=>if(!x3)=true then(some ((aC.mk 0 0 []),1))else(if a2.fDrop=true then(gz a1 a0 a2 0)else(gz a1 a0 a2 (IntKind.wrap .i64 (1+a2.kf)))))
def kr(a0:aK)(a1:(List UInt8))(a2:am):Option (aK×Int×Int):=
  (gD a0).bind fun x1=>if(!x1)=true then(some ((aK.mk 0 0 0 (aG.mk 0 0 []) (aw.mk [] []) (aC.mk 0 0 []) (aC.mk 0 0 []) []),0,1))else((d8 a2).bind fun x3=>if(!x3)=true then(some ((aK.mk 0 0 0 (aG.mk 0 0 []) (aw.mk [] []) (aC.mk 0 0 []) (aC.mk 0 0 []) []),0,1))else((fV a0).bind fun x5=>(lm x5.bj a1).bind fun x6=>if(x6.2.2 != 0)=true then(some ((aK.mk 0 0 0 (aG.mk 0 0 []) (aw.mk [] []) (aC.mk 0 0 []) (aC.mk 0 0 []) []),0,x6.2.2))else((iI x6.2.1 x6.1.bJ a1).bind fun x8=>(kz x5.bF x8.1 a2).bind fun x9=>if(x9.2 != 0)=true then(some ((aK.mk 0 0 0 (aG.mk 0 0 []) (aw.mk [] []) (aC.mk 0 0 []) (aC.mk 0 0 []) []),0,x9.2))else(some ((aK.mk x5.bt x5.br x5.bY x6.1 x5.bo x9.1 x5.fUp x5.bp),x6.2.1,0)))))
def fr(a0:Int):Option (aj):=
  (fM 0).bind fun x1=>some (aj.mk a0 1 a0 7 1 (av.mk (ag.mk x1 5 4 9 0 (-1)) (az.mk [(ag.mk x1 5 4 9 0 (-1))] (aD.mk (ai.mk 0 0 0) 0 0 0 (aY.mk (ai.mk 0 0 0) (ai.mk 0 0 0))) (aH.mk 0 0) 0)))
def fQ(d0:aJ):Option ((List UInt8)×aJ):=
  if((d0.bZ.length:Int)==0)=true then(some (([]:(List UInt8)),(aJ.mk d0.bZ true)))else((pH d0.bZ 0).bind fun x2=>(si d0.bZ 1 (d0.bZ.length:Int)).bind fun x3=>some (x2,(aJ.mk x3 d0.oN)))
def bk(d0:aJ):Option (Int×aJ):=
  (fQ d0).bind fun x1=>(xX x1.1).bind fun x2=>if x1.2.oN=true then(some (x2.1,(aJ.mk x1.2.bZ true)))else(if(!x2.2)=true then(some (x2.1,(aJ.mk x1.2.bZ true)))else((u7 x2.1).bind fun x5=>some (x2.1,(aJ.mk x1.2.bZ (!(x5==x1.1))))))
def iS(a0:(List UInt8)):Option (au×Int):=
  (wh a0 ([46]:List UInt8)).bind fun x1=>if((x1.length:Int) != 4)=true then(some ((au.mk [] [] [] []),3))else((pH x1 0).bind fun x3=>(pH x1 1).bind fun x4=>(pH x1 2).bind fun x5=>(pH x1 3).bind fun x6=>(fe (au.mk x3 x4 x5 x6)).bind fun x7=>if(!x7)=true then(some ((au.mk [] [] [] []),3))else(some ((au.mk x3 x4 x5 x6),0)))
def fP(d0:aJ):Option (ag×aJ):=
  (fQ d0).bind fun x1=>(iS x1.1).bind fun x2=>if x1.2.oN=true then((bk (aJ.mk x1.2.bZ true)).bind fun x4=>(bk x4.2).bind fun x5=>(bk x5.2).bind fun x6=>(bk x6.2).bind fun x7=>(bk x7.2).bind fun x8=>some ((ag.mk x2.1 x4.1 x5.1 x6.1 x7.1 x8.1),x8.2))else((bk (aJ.mk x1.2.bZ (x2.2 != 0))).bind fun x9=>(bk x9.2).bind fun x10=>(bk x10.2).bind fun x11=>(bk x11.2).bind fun x12=>(bk x12.2).bind fun x13=>some ((ag.mk x2.1 x9.1 x10.1 x11.1 x12.1 x13.1),x13.2))
def cL(d0:aJ):Option (ai×aJ):=
  (bk d0).bind fun x1=>(bk x1.2).bind fun x2=>(bk x2.2).bind fun x3=>some ((ai.mk x1.1 x2.1 x3.1),x3.2)
def bQ(d0:(List ag)):Int->Option (oJ (Int) ((Unit)⊕(Int×(List ag)))):=fun s1=>
  if(decide (s1<(d0.length:Int)))=true then((inO d0 s1).bind fun _=>(pH d0 s1).bind fun x6=>(dh x6).bind fun x7=>if x7=true then(some (.stop (.inr (s1,d0))))else(some (.next (IntKind.wrap .i64 (s1+1)))))else(some (.stop (.inl ())))
def b8(d0:(List ag)):Option (Int×(List ag)):=
  (kG (bQ d0) 0).bind fun o10=>match o10 with| .inl _=>(some ((-1),d0))| .inr r12=>(some r12)
def bH(d0:(List ag)):Option (Bool×(List ag)):=
  (b8 d0).bind fun x1=>some ((decide (x1.1>=0)),x1.2)
def ew(dq:Int)(dz:Int)(ez:Int)(dY:Int)(ep:Int)(er:Int)(eA:Int)(eB:Int)(eC:Int)(co:Int)(cp:Int)(cq:Int)(cu:Int)(mY:Int)(cm:Int)(d0:(List ag)):Option ((List Int)×(List ag)):=
  (dA (ai.mk dq dz ez)).bind fun x1=>(dA (ai.mk eA eB eC)).bind fun x2=>(dA (ai.mk co cp cq)).bind fun x3=>(cA [x1,[dY,ep,er],x2,x3,[cu,mY,cm]]).bind fun x4=>some (x4,d0)
def hZ(fy:Int)(dq:Int)(dz:Int)(ez:Int)(dY:Int)(ep:(List UInt8))(er:(List UInt8))(eA:(List UInt8))(eB:(List UInt8))(eC:Int)(co:Int)(cp:Int)(cq:Int)(cu:Int)(cm:Int)(dH:Int)(dI:Int)(dJ:Int)(dK:Int)(dL:Int)(dM:Int)(dN:Int)(dO:Int)(dP:Int)(dQ:Int)(dR:Int)(dS:Int)(dU:Int)(dV:Int)(d0:(List ag)):Option (Bool×(List ag)):=
  if(decide (fy<0))=true then(some (false,d0))else(if(decide (fy>=1000))=true then(some (false,d0))else(if(decide (dq<1))=true then(some (false,d0))else(if(decide (dq>3))=true then(some (false,d0))else(if(decide (dz<0))=true then(some (false,d0))else(if(decide (dz>fy))=true then(some (false,d0))else(if(!((dz==fy)==(dq==1)))=true then(some (false,d0))else(if(decide (dY<0))=true then(some (false,d0))else(if(decide (dY>8))=true then(some (false,d0))else(if(decide ((d0.length:Int)>64))=true then(some (false,d0))else((cv (ag.mk (au.mk ep er eA eB) eC co cp cq cu)).bind fun x11=>if(!x11)=true then(some (false,d0))else((bH d0).bind fun x13=>if x13.1=true then(some (false,x13.2))else((ec [ez]).bind fun x15=>if x15=true then((ew cm dH dI dJ dK dL dM dN dO dP dQ dR dS dU dV x13.2).bind fun x17=>(ec x17.1).bind fun x18=>some (x18,x17.2))else(some (false,x13.2))))))))))))))
def eH(x1:Bool×(List ag)):(Int×(List (List UInt8)))->Option (oJ (Int×(List (List UInt8))) ((List (List UInt8)))):=fun(s6,s7)=>
  if(decide (s6<(x1.2.length:Int)))=true then((inO x1.2 s6).bind fun _=>(pH x1.2 s6).bind fun x13=>(em x13 s7).bind fun x14=>some (.next ((IntKind.wrap .i64 (s6+1)),x14)))else(some (.stop s7))
def ga(fy:Int)(dq:Int)(dz:Int)(ez:Int)(dY:Int)(ep:(List UInt8))(er:(List UInt8))(eA:(List UInt8))(eB:(List UInt8))(eC:Int)(co:Int)(cp:Int)(cq:Int)(cu:Int)(cm:Int)(dH:Int)(dI:Int)(dJ:Int)(dK:Int)(dL:Int)(dM:Int)(dN:Int)(dO:Int)(dP:Int)(dQ:Int)(dR:Int)(dS:Int)(dU:Int)(dV:Int)(d0:(List ag)):Option ((List UInt8)×Int×(List ag)):=
  (hZ fy dq dz ez dY ep er eA eB eC co cp cq cu cm dH dI dJ dK dL dM dN dO dP dQ dR dS dU dV d0).bind fun x1=>if(!x1.1)=true then(some (([]:(List UInt8)),1,x1.2))else((dE [fy,dq,dz,ez,dY]).bind fun x3=>(em (ag.mk (au.mk ep er eA eB) eC co cp cq cu) x3).bind fun x4=>(bV [(x1.2.length:Int)] x4).bind fun x5=>(kG (eH x1) (0,x5)).bind fun o16=>(ew cm dH dI dJ dK dL dM dN dO dP dQ dR dS dU dV x1.2).bind fun x17=>(bV x17.1 o16).bind fun x18=>(u9 x18 ([32]:List UInt8)).bind fun x19=>some (x19,0,x17.2))
def d7:(Int×(List (List UInt8))×Bool×(List ag))->Option (oJ (Int×(List (List UInt8))×Bool×(List ag)) ((List (List UInt8))×Bool×(List ag))):=fun(s9,s10,s11,s12)=>
  if(decide (s9>0))=true then(if(!s11)=true then((fP (aJ.mk s10 s11)).bind fun x19=>(qq s12 [x19.1] 104).bind fun x20=>some (.next ((IntKind.wrap .i64 (s9-1)),x19.2.bZ,x19.2.oN,x20)))else(some (.stop (s10,s11,s12))))else(some (.stop (s10,s11,s12)))
def eR(a0:(List UInt8)):Option (aj×Int):=
  (wh a0 ([32]:List UInt8)).bind fun x1=>(bk (aJ.mk x1 false)).bind fun x2=>(bk x2.2).bind fun x3=>(bk x3.2).bind fun x4=>(bk x4.2).bind fun x5=>(bk x5.2).bind fun x6=>(fP x6.2).bind fun x7=>(bk x7.2).bind fun x8=>(kG (d7) (x8.1,x8.2.bZ,x8.2.oN,([]:(List ag)))).bind fun o22=>(cL (aJ.mk o22.1 o22.2.1)).bind fun x23=>(bk x23.2).bind fun x24=>(bk x24.2).bind fun x25=>(bk x25.2).bind fun x26=>(cL x26.2).bind fun x27=>(cL x27.2).bind fun x28=>(bk x28.2).bind fun x29=>(bk x29.2).bind fun x30=>(bk x30.2).bind fun x31=>if x31.2.oN=true then(some ((aj.mk 0 0 0 0 0 (av.mk (ag.mk (au.mk [] [] [] []) 0 0 0 0 0) (az.mk [] (aD.mk (ai.mk 0 0 0) 0 0 0 (aY.mk (ai.mk 0 0 0) (ai.mk 0 0 0))) (aH.mk 0 0) 0))),3))else(if(decide ((x31.2.bZ.length:Int)>0))=true then(some ((aj.mk 0 0 0 0 0 (av.mk (ag.mk (au.mk [] [] [] []) 0 0 0 0 0) (az.mk [] (aD.mk (ai.mk 0 0 0) 0 0 0 (aY.mk (ai.mk 0 0 0) (ai.mk 0 0 0))) (aH.mk 0 0) 0))),3))else((ga x2.1 x3.1 x4.1 x5.1 x6.1 x7.1.ar.aT x7.1.ar.aU x7.1.ar.ac x7.1.ar.aS x7.1.aP x7.1.aZ x7.1.bg x7.1.aI x7.1.aL x23.1.fX x23.1.fY x23.1.fZ x24.1 x25.1 x26.1 x27.1.fX x27.1.fY x27.1.fZ x28.1.fX x28.1.fY x28.1.fZ x29.1 x30.1 x31.1 o22.2.2).bind fun x34=>if(x34.2.1 != 0)=true then(some ((aj.mk 0 0 0 0 0 (av.mk (ag.mk (au.mk [] [] [] []) 0 0 0 0 0) (az.mk [] (aD.mk (ai.mk 0 0 0) 0 0 0 (aY.mk (ai.mk 0 0 0) (ai.mk 0 0 0))) (aH.mk 0 0) 0))),3))else(if(!(x34.1==a0))=true then(some ((aj.mk 0 0 0 0 0 (av.mk (ag.mk (au.mk [] [] [] []) 0 0 0 0 0) (az.mk [] (aD.mk (ai.mk 0 0 0) 0 0 0 (aY.mk (ai.mk 0 0 0) (ai.mk 0 0 0))) (aH.mk 0 0) 0))),3))else(some ((aj.mk x2.1 x3.1 x4.1 x5.1 x6.1 (av.mk x7.1 (az.mk x34.2.2 (aD.mk x23.1 x24.1 x25.1 x26.1 (aY.mk x27.1 x28.1)) (aH.mk x29.1 x30.1) x31.1))),0)))))
def kR(a0:az)(a1:az):Option (Bool):=
  (cn a0.aX a1.aX).bind fun x1=>if x1=true then(if(((a0.ac.aO.fX==a1.ac.aO.fX)&&((a0.ac.aO.fY==a1.ac.aO.fY)&&((a0.ac.aO.fZ==a1.ac.aO.fZ)&&true)))&&((a0.ac.aP==a1.ac.aP)&&((a0.ac.bc==a1.ac.bc)&&((a0.ac.bu==a1.ac.bu)&&((((a0.ac.aF.aW.fX==a1.ac.aF.aW.fX)&&((a0.ac.aF.aW.fY==a1.ac.aF.aW.fY)&&((a0.ac.aF.aW.fZ==a1.ac.aF.aW.fZ)&&true)))&&(((a0.ac.aF.aN.fX==a1.ac.aF.aN.fX)&&((a0.ac.aF.aN.fY==a1.ac.aF.aN.fY)&&((a0.ac.aF.aN.fZ==a1.ac.aF.aN.fZ)&&true)))&&true))&&true)))))=true then(if((a0.aA.aW==a1.aA.aW)&&((a0.aA.aN==a1.aA.aN)&&true))=true then(some (a0.bn==a1.bn))else(some false))else(some false))else(some false)
def fk(a0:av)(a1:av):Option (Bool):=
  if(((a0.ap.ar.aT==a1.ap.ar.aT)&&((a0.ap.ar.aU==a1.ap.ar.aU)&&((a0.ap.ar.ac==a1.ap.ar.ac)&&((a0.ap.ar.aS==a1.ap.ar.aS)&&true))))&&((a0.ap.aP==a1.ap.aP)&&((a0.ap.aZ==a1.ap.aZ)&&((a0.ap.bg==a1.ap.bg)&&((a0.ap.aI==a1.ap.aI)&&((a0.ap.aL==a1.ap.aL)&&true))))))=true then((kR a0.aa a1.aa).bind fun x2=>some x2)else(some false)
def ct(a0:aj)(a1:aj):Option (Bool):=
  if(a0.bv==a1.bv)=true then(if(a0.bX==a1.bX)=true then(if(a0.fID==a1.fID)=true then(if(a0.fAt==a1.fAt)=true then(if(a0.bw==a1.bw)=true then((fk a0.ah a1.ah).bind fun x6=>some x6)else(some false))else(some false))else(some false))else(some false))else(some false)
def fi(a0:(List aB)):(Int×(List (Int×aj)))->Option (oJ (Int×(List (Int×aj))) ((List (Int×aj)))):=fun(s1,s2)=>
  if(decide (s1<(a0.length:Int)))=true then((pH a0 s1).bind fun x6=>if(ub (fun a b=>a==b) x6.da s2)=true then(some (.next ((IntKind.wrap .i64 (s1+1)),s2)))else((eR x6.ch).bind fun x8=>if(x8.2==0)=true then(if(x8.1.bv==x6.da)=true then(some (.next ((IntKind.wrap .i64 (s1+1)),(sZ (fun a b=>a==b) x6.da x8.1 s2))))else(some (.next ((IntKind.wrap .i64 (s1+1)),s2))))else(some (.next ((IntKind.wrap .i64 (s1+1)),s2)))))else(some (.stop s2))
def gG(o12:(List (Int×aj))):(Int×(List aj))->Option (oJ (Int×(List aj)) ((List aj))):=fun(s13,s14)=>
  if(!(ub (fun a b=>a==b) s13 o12))=true then(some (.stop s14))else((qq s14 [(aj.mk ((pI (fun a b=>a==b) s13 (aj.mk 0 0 0 0 0 (av.mk (ag.mk (au.mk [] [] [] []) 0 0 0 0 0) (az.mk [] (aD.mk (ai.mk 0 0 0) 0 0 0 (aY.mk (ai.mk 0 0 0) (ai.mk 0 0 0))) (aH.mk 0 0) 0))) o12).bv) ((pI (fun a b=>a==b) s13 (aj.mk 0 0 0 0 0 (av.mk (ag.mk (au.mk [] [] [] []) 0 0 0 0 0) (az.mk [] (aD.mk (ai.mk 0 0 0) 0 0 0 (aY.mk (ai.mk 0 0 0) (ai.mk 0 0 0))) (aH.mk 0 0) 0))) o12).bX) ((pI (fun a b=>a==b) s13 (aj.mk 0 0 0 0 0 (av.mk (ag.mk (au.mk [] [] [] []) 0 0 0 0 0) (az.mk [] (aD.mk (ai.mk 0 0 0) 0 0 0 (aY.mk (ai.mk 0 0 0) (ai.mk 0 0 0))) (aH.mk 0 0) 0))) o12).fID) ((pI (fun a b=>a==b) s13 (aj.mk 0 0 0 0 0 (av.mk (ag.mk (au.mk [] [] [] []) 0 0 0 0 0) (az.mk [] (aD.mk (ai.mk 0 0 0) 0 0 0 (aY.mk (ai.mk 0 0 0) (ai.mk 0 0 0))) (aH.mk 0 0) 0))) o12).fAt) ((pI (fun a b=>a==b) s13 (aj.mk 0 0 0 0 0 (av.mk (ag.mk (au.mk [] [] [] []) 0 0 0 0 0) (az.mk [] (aD.mk (ai.mk 0 0 0) 0 0 0 (aY.mk (ai.mk 0 0 0) (ai.mk 0 0 0))) (aH.mk 0 0) 0))) o12).bw) (av.mk (ag.mk ((((pI (fun a b=>a==b) s13 (aj.mk 0 0 0 0 0 (av.mk (ag.mk (au.mk [] [] [] []) 0 0 0 0 0) (az.mk [] (aD.mk (ai.mk 0 0 0) 0 0 0 (aY.mk (ai.mk 0 0 0) (ai.mk 0 0 0))) (aH.mk 0 0) 0))) o12).ah).ap).ar) ((((pI (fun a b=>a==b) s13 (aj.mk 0 0 0 0 0 (av.mk (ag.mk (au.mk [] [] [] []) 0 0 0 0 0) (az.mk [] (aD.mk (ai.mk 0 0 0) 0 0 0 (aY.mk (ai.mk 0 0 0) (ai.mk 0 0 0))) (aH.mk 0 0) 0))) o12).ah).ap).aP) ((((pI (fun a b=>a==b) s13 (aj.mk 0 0 0 0 0 (av.mk (ag.mk (au.mk [] [] [] []) 0 0 0 0 0) (az.mk [] (aD.mk (ai.mk 0 0 0) 0 0 0 (aY.mk (ai.mk 0 0 0) (ai.mk 0 0 0))) (aH.mk 0 0) 0))) o12).ah).ap).aZ) ((((pI (fun a b=>a==b) s13 (aj.mk 0 0 0 0 0 (av.mk (ag.mk (au.mk [] [] [] []) 0 0 0 0 0) (az.mk [] (aD.mk (ai.mk 0 0 0) 0 0 0 (aY.mk (ai.mk 0 0 0) (ai.mk 0 0 0))) (aH.mk 0 0) 0))) o12).ah).ap).bg) ((((pI (fun a b=>a==b) s13 (aj.mk 0 0 0 0 0 (av.mk (ag.mk (au.mk [] [] [] []) 0 0 0 0 0) (az.mk [] (aD.mk (ai.mk 0 0 0) 0 0 0 (aY.mk (ai.mk 0 0 0) (ai.mk 0 0 0))) (aH.mk 0 0) 0))) o12).ah).ap).aI) ((((pI (fun a b=>a==b) s13 (aj.mk 0 0 0 0 0 (av.mk (ag.mk (au.mk [] [] [] []) 0 0 0 0 0) (az.mk [] (aD.mk (ai.mk 0 0 0) 0 0 0 (aY.mk (ai.mk 0 0 0) (ai.mk 0 0 0))) (aH.mk 0 0) 0))) o12).ah).ap).aL)) (az.mk ((((pI (fun a b=>a==b) s13 (aj.mk 0 0 0 0 0 (av.mk (ag.mk (au.mk [] [] [] []) 0 0 0 0 0) (az.mk [] (aD.mk (ai.mk 0 0 0) 0 0 0 (aY.mk (ai.mk 0 0 0) (ai.mk 0 0 0))) (aH.mk 0 0) 0))) o12).ah).aa).aX) (aD.mk (((((pI (fun a b=>a==b) s13 (aj.mk 0 0 0 0 0 (av.mk (ag.mk (au.mk [] [] [] []) 0 0 0 0 0) (az.mk [] (aD.mk (ai.mk 0 0 0) 0 0 0 (aY.mk (ai.mk 0 0 0) (ai.mk 0 0 0))) (aH.mk 0 0) 0))) o12).ah).aa).ac).aO) (((((pI (fun a b=>a==b) s13 (aj.mk 0 0 0 0 0 (av.mk (ag.mk (au.mk [] [] [] []) 0 0 0 0 0) (az.mk [] (aD.mk (ai.mk 0 0 0) 0 0 0 (aY.mk (ai.mk 0 0 0) (ai.mk 0 0 0))) (aH.mk 0 0) 0))) o12).ah).aa).ac).aP) (((((pI (fun a b=>a==b) s13 (aj.mk 0 0 0 0 0 (av.mk (ag.mk (au.mk [] [] [] []) 0 0 0 0 0) (az.mk [] (aD.mk (ai.mk 0 0 0) 0 0 0 (aY.mk (ai.mk 0 0 0) (ai.mk 0 0 0))) (aH.mk 0 0) 0))) o12).ah).aa).ac).bc) (((((pI (fun a b=>a==b) s13 (aj.mk 0 0 0 0 0 (av.mk (ag.mk (au.mk [] [] [] []) 0 0 0 0 0) (az.mk [] (aD.mk (ai.mk 0 0 0) 0 0 0 (aY.mk (ai.mk 0 0 0) (ai.mk 0 0 0))) (aH.mk 0 0) 0))) o12).ah).aa).ac).bu) (aY.mk ((((((pI (fun a b=>a==b) s13 (aj.mk 0 0 0 0 0 (av.mk (ag.mk (au.mk [] [] [] []) 0 0 0 0 0) (az.mk [] (aD.mk (ai.mk 0 0 0) 0 0 0 (aY.mk (ai.mk 0 0 0) (ai.mk 0 0 0))) (aH.mk 0 0) 0))) o12).ah).aa).ac).aF).aW) ((((((pI (fun a b=>a==b) s13 (aj.mk 0 0 0 0 0 (av.mk (ag.mk (au.mk [] [] [] []) 0 0 0 0 0) (az.mk [] (aD.mk (ai.mk 0 0 0) 0 0 0 (aY.mk (ai.mk 0 0 0) (ai.mk 0 0 0))) (aH.mk 0 0) 0))) o12).ah).aa).ac).aF).aN))) ((((pI (fun a b=>a==b) s13 (aj.mk 0 0 0 0 0 (av.mk (ag.mk (au.mk [] [] [] []) 0 0 0 0 0) (az.mk [] (aD.mk (ai.mk 0 0 0) 0 0 0 (aY.mk (ai.mk 0 0 0) (ai.mk 0 0 0))) (aH.mk 0 0) 0))) o12).ah).aa).aA) ((((pI (fun a b=>a==b) s13 (aj.mk 0 0 0 0 0 (av.mk (ag.mk (au.mk [] [] [] []) 0 0 0 0 0) (az.mk [] (aD.mk (ai.mk 0 0 0) 0 0 0 (aY.mk (ai.mk 0 0 0) (ai.mk 0 0 0))) (aH.mk 0 0) 0))) o12).ah).aa).bn))))] 288).bind fun x17=>some (.next ((IntKind.wrap .i64 (s13+1)),x17)))
def fK(a0:(List aB)):Option ((List aj)):=
  (kG (fi a0) (0,([]:List (Int×aj)))).bind fun o12=>(kG (gG o12) (0,([]:(List aj)))).bind fun o19=>some o19
def fh(x5:aj)(s2:(List (Int×Bool)))(s1:Int):Option (oJ (Int×(List (Int×Bool))) ((Unit)⊕(Bool))):=
  if(x5.bX != 1)=true then(if(!(pI (fun a b=>a==b) x5.fID false s2))=true then(some (.stop (.inr false)))else(some (.next ((IntKind.wrap .i64 (s1+1)),(sZ (fun a b=>a==b) x5.fID (x5.bX != 3) s2)))))else(some (.next ((IntKind.wrap .i64 (s1+1)),(sZ (fun a b=>a==b) x5.fID (x5.bX != 3) s2))))
def jf(a0:(List aj)):(Int×(List (Int×Bool)))->Option (oJ (Int×(List (Int×Bool))) ((Unit)⊕(Bool))):=fun(s1,s2)=>
  if(decide (s1<(a0.length:Int)))=true then((pH a0 s1).bind fun x5=>(eu x5).bind fun x9=>if(!x9)=true then(some (.stop (.inr false)))else(if(x5.bv != s1)=true then(some (.stop (.inr false)))else(if(decide (s1>0))=true then((pH a0 (IntKind.wrap .i64 (s1-1))).bind fun x13=>if(decide (x5.fAt<x13.fAt))=true then(some (.stop (.inr false)))else(fh x5 s2 s1))else(fh x5 s2 s1))))else(some (.stop (.inl ())))
def kg(a0:(List aj)):Option (Bool):=
  (kG (jf a0) (0,([]:List (Int×Bool)))).bind fun o16=>match o16 with| .inl _=>(some true)| .inr r18=>(some r18)
def ia:Option (Bool):=
  (fr 0).bind fun x1=>(dx x1).bind fun x2=>(fr 2).bind fun x3=>(dx x3).bind fun x4=>(eR x2.1).bind fun x5=>(xZ x2.1 [32]).bind fun x6=>(eR x6).bind fun x7=>if(x2.2==0)=true then(if(x4.2==0)=true then(if(x5.2==0)=true then((fr 0).bind fun x11=>(ct x5.1 x11).bind fun x12=>if x12=true then(if(x7.2==3)=true then((fK [(aB.mk 2 0 x4.1),(aB.mk 0 0 x2.1)]).bind fun x15=>if((x15.length:Int)==1)=true then((fr 0).bind fun x17=>(fr 1).bind fun x18=>(kg [x17,x18]).bind fun x19=>some x19)else(some false))else(some false))else(some false))else(some false))else(some false))else(some false)
def iK(a0:am):Option (Bool):=
  (d8 a0).bind fun x1=>some (!x1)
def cZ(a0:(List am)):Int->Option (oJ (Int) ((Unit)⊕(Int))):=fun s1=>
  if(decide (s1<(a0.length:Int)))=true then((pH a0 s1).bind fun x4=>(iK x4).bind fun x5=>if x5=true then(some (.stop (.inr s1)))else(some (.next (IntKind.wrap .i64 (s1+1)))))else(some (.stop (.inl ())))
def dt(a0:(List am)):Option (Int):=
  (kG (cZ a0) 0).bind fun o8=>match o8 with| .inl _=>(some (-1))| .inr r10=>(some r10)
def bO(a0:(List am)):Option (Bool):=
  (dt a0).bind fun x1=>some (decide (x1>=0))
def oE(a0:aC):(Int×(List (List UInt8)))->Option (oJ (Int×(List (List UInt8))) (Int×(List (List UInt8)))):=fun(s4,s5)=>
  if(decide (s4<(a0.bq.length:Int)))=true then((pH a0.bq s4).bind fun x10=>if(x10.fAt==(IntKind.wrap .i64 (a0.bt+1)))=true then((pH a0.bq s4).bind fun x12=>(qq s5 [x12.ch] 16).bind fun x13=>some (.next ((IntKind.wrap .i64 (s4+1)),x13)))else(some (.stop (s4,s5))))else(some (.stop (s4,s5)))
def l7(a0:aC):Option (aC×(List (List UInt8))×Int):=
  (gV a0).bind fun x1=>if(!x1)=true then(some ((aC.mk 0 0 []),([]:(List (List UInt8))),1))else(if(a0.bt==1099511627776)=true then(some ((aC.mk 0 0 []),([]:(List (List UInt8))),8))else((kG (oE a0) (0,([]:(List (List UInt8))))).bind fun o15=>(si a0.bq o15.1 (a0.bq.length:Int)).bind fun x16=>(rb 32 x16).bind fun x17=>some ((aC.mk (IntKind.wrap .i64 (a0.bt+1)) a0.ba x17),o15.2,0)))
def ky(a0:(List UInt8)):Option (Bool):=
  if(decide ((IntKind.wrap .i64 ((a0.length:Int)-4))>=0))=true then((si a0 0 (IntKind.wrap .i64 ((a0.length:Int)-4))).bind fun x2=>(eS x2).bind fun x3=>some (x3==a0))else(some false)
def ej(a0:(List UInt8))(a1:(List UInt8))(a2:Int):Option ((List UInt8)×Int):=
  if(decide ((a0.length:Int)<a2))=true then(some (([]:(List UInt8)),4))else((ky a0).bind fun x2=>if(!x2)=true then(some (([]:(List UInt8)),5))else((si a0 0 1).bind fun x4=>if(!(x4==a1))=true then(some (([]:(List UInt8)),3))else((si a0 1 (IntKind.wrap .i64 ((a0.length:Int)-4))).bind fun x6=>some (x6,0))))
def ea(a2:Int)(a0:(List UInt8))(a1:Int):(Int×Int)->Option (oJ (Int×Int) (Int)):=fun(s5,s6)=>
  if(decide (s6<a2))=true then((uY a0 (IntKind.wrap .i64 (a1+s6))).bind fun x10=>some (.next ((orI .i64 (xJ .i64 s5 8) (IntKind.wrap .i64 x10)),(IntKind.wrap .i64 (s6+1)))))else(some (.stop s5))
def kF(a0:(List UInt8))(a1:Int)(a2:Int):Option (Int×Int):=
  (jv a2 1 7).bind fun x1=>if(!x1)=true then(some (0,2))else(if(decide (a1<0))=true then(some (0,2))else(if(decide (a1>(IntKind.wrap .i64 ((a0.length:Int)-a2))))=true then(some (0,4))else((kG (ea a2 a0 a1) (0,0)).bind fun o12=>some (o12,0))))
def bK(a0:(List UInt8))(a1:Int):Option (Int):=
  (kF a0 (IntKind.wrap .i64 (a1*4)) 4).bind fun x1=>some x1.1
def df(a0:(List UInt8)):Option (Int×Int×(List UInt8)×Int):=
  (ej a0 ([68]:List UInt8) 13).bind fun x1=>if(x1.2 != 0)=true then(some (0,0,([]:(List UInt8)),x1.2))else((bK x1.1 0).bind fun x3=>(bK x1.1 1).bind fun x4=>if(decide (x3>1073741824))=true then(some (0,0,([]:(List UInt8)),3))else(if(decide (x4>1073741825))=true then(some (0,0,([]:(List UInt8)),3))else((si x1.1 8 (x1.1.length:Int)).bind fun x7=>some (x3,x4,x7,0))))
def ib(a0:Int)(a1:Int)(a2:Int):Option (Bool):=
  if(decide (a0>=a1))=true then(some (decide (a0<=a2)))else(some false)
def eF(j2:(List ae)):Option ((List ae)):=
  some j2
def gh(a0:Int):Option ((List ae)):=
  if(decide (a0<0))=true then(none)else(if(decide ((IntKind.wrap .i64 (a0-0))>0))=true then((mkZ (IntKind.wrap .i64 (a0-0)) (ae.mk 0 0) 16).bind fun x5=>(wN x5.length 0 0).bind fun _=>eF (x5.take (0:Int).toNat))else(eF ([]:List ae)))
def bN(a0:(List (List ae))):(Int×Int)->Option (oJ (Int×Int) (Int)):=fun(s1,s2)=>
  if(decide (s2<(a0.length:Int)))=true then((pH a0 s2).bind fun x6=>if(decide ((IntKind.wrap .i64 (s1+(x6.length:Int)))<0))=true then(none)else(some (.next ((IntKind.wrap .i64 (s1+(x6.length:Int))),(IntKind.wrap .i64 (s2+1))))))else(some (.stop s1))
def bL(a0:(List (List ae))):(Int×(List ae))->Option (oJ (Int×(List ae)) ((List ae))):=fun(s11,s12)=>
  if(decide (s11<(a0.length:Int)))=true then((pH a0 s11).bind fun x16=>(qq s12 x16 16).bind fun x17=>some (.next ((IntKind.wrap .i64 (s11+1)),x17)))else(some (.stop s12))
def fb(a0:(List (List ae))):Option ((List ae)):=
  (kG (bN a0) (0,0)).bind fun o9=>(gh o9).bind fun x10=>(kG (bL a0) (0,x10)).bind fun o19=>some o19
def f9(a0:(List ae))(a1:(List ae)):Option ((List ae)):=
  (fb [a0,a1]).bind fun x1=>(cj x1).bind fun x2=>some x2
def nT(x1:(List ae))(x8:ae)(s3:Int):(Int×Int×(List ae))->Option (oJ (Int×Int×(List ae)) (Int×Int×(List ae))):=fun(s9,s10,s11)=>
  if(decide (s10<(x1.length:Int)))=true then((pH x1 s10).bind fun x17=>if(decide (x17.fTo<=s9))=true then(some (.next (s9,(IntKind.wrap .i64 (s10+1)),s11)))else(if(decide (x17.bd>=x8.fTo))=true then(some (.next (s9,(IntKind.wrap .i64 (s10+1)),s11)))else(if(decide (s9<x17.bd))=true then((qq s11 [(ae.mk s9 x17.bd)] 16).bind fun x21=>some (.next ((if x17.fTo>s9 then x17.fTo else s9),(IntKind.wrap .i64 (s10+1)),x21)))else(some (.next ((if x17.fTo>s9 then x17.fTo else s9),(IntKind.wrap .i64 (s10+1)),s11))))))else(some (.stop (s9,s3,s11)))
def k5(x2:(List ae))(x1:(List ae)):(Int×(List ae))->Option (oJ (Int×(List ae)) ((List ae))):=fun(s3,s4)=>
  if(decide (s3<(x2.length:Int)))=true then((pH x2 s3).bind fun x8=>(kG (nT x1 x8 s3) (x8.bd,0,s4)).bind fun o23=>if(decide (o23.1<x8.fTo))=true then((qq o23.2.2 [(ae.mk o23.1 x8.fTo)] 16).bind fun x25=>some (.next ((IntKind.wrap .i64 (o23.2.1+1)),x25)))else(some (.next ((IntKind.wrap .i64 (o23.2.1+1)),o23.2.2))))else(some (.stop s4))
def f8(a0:(List ae))(a1:(List ae)):Option ((List ae)):=
  (cj a1).bind fun x1=>(cj a0).bind fun x2=>(kG (k5 x2 x1) (0,([]:(List ae)))).bind fun o27=>some o27
def cV(a0:(List ae))(a1:(List ae)):Option (aw×Int):=
  if(decide ((a0.length:Int)>4096))=true then(some ((aw.mk [] []),8))else(if(decide ((a1.length:Int)>4096))=true then(some ((aw.mk [] []),8))else(some ((aw.mk a0 a1),0)))
def gJ(a0:aw)(a1:Int):Option (aw×Bool×Int):=
  (cy a0).bind fun x1=>if(!x1)=true then(some ((aw.mk [] []),false,1))else((ib a1 0 1073741824).bind fun x3=>if(!x3)=true then(some ((aw.mk [] []),false,2))else((nS a0.eU a1).bind fun x5=>(f9 a0.eU [(ae.mk a1 (IntKind.wrap .i64 (a1+1)))]).bind fun x6=>(f8 a0.c7 [(ae.mk a1 (IntKind.wrap .i64 (a1+1)))]).bind fun x7=>(cV x6 x7).bind fun x8=>if(!x5)=true then(some (x8.1,(x8.2==0),x8.2))else(some (x8.1,false,x8.2))))
def gA(a0:aw)(a1:Int):Option (aw×Int):=
  (cy a0).bind fun x1=>if(!x1)=true then(some ((aw.mk [] []),1))else((ib a1 0 1073741825).bind fun x3=>if(!x3)=true then(some ((aw.mk [] []),2))else((f8 [(ae.mk 0 a1)] a0.eU).bind fun x5=>(rb 16 a0.eU).bind fun x6=>(f9 a0.c7 x5).bind fun x7=>(cV x6 x7).bind fun x8=>some (x8.1,x8.2)))
def kI(a0:Int)(e1:Int)(e2:Int)(e3:Int)(e4:Int)(e5:Int)(e6:(List (List UInt8)))(e7:(List ae))(e8:(List ae))(e9:Int)(e10:Int)(e11:(List ak))(e12:Int)(e13:Int)(e14:(List ak))(e15:(List am))(e16:(List am))(d1:(List aB)):Option (Int×Int×Int×Int×Int×(List (List UInt8))×(List ae)×(List ae)×Int×Int×(List ak)×Int×Int×(List ak)×(List am)×(List am)):=
  (dy (aG.mk e4 e5 e6)).bind fun x1=>some (e1,e2,(if x1<(if a0>e3 then a0 else e3)then x1 else(if a0>e3 then a0 else e3)),e4,e5,e6,e7,e8,e9,e10,e11,e12,e13,e14,e15,e16)
def oe(a0:(List UInt8))(e1:Int)(e2:Int)(e3:Int)(e4:Int)(e5:Int)(e6:(List (List UInt8)))(e7:(List ae))(e8:(List ae))(e9:Int)(e10:Int)(e11:(List ak))(e12:Int)(e13:Int)(e14:(List ak))(e15:(List am))(e16:(List am))(d1:(List aB)):Option (Int×Int×Int×Int×Int×(List (List UInt8))×(List ae)×(List ae)×Int×Int×(List ak)×Int×Int×(List ak)×(List am)×(List am)×(List aB)):=
  (df a0).bind fun x1=>if(x1.2.2.2 != 0)=true then(some (e1,e2,e3,e4,e5,e6,e7,e8,e9,e10,e11,e12,e13,e14,e15,e16,d1))else((gJ (aw.mk e7 e8) x1.1).bind fun x3=>if(x3.2.2 != 0)=true then(some (e1,e2,e3,e4,e5,e6,e7,e8,e9,e10,e11,e12,e13,e14,e15,e16,d1))else((gA x3.1 x1.2.1).bind fun x5=>if(x5.2 != 0)=true then(some (e1,e2,e3,e4,e5,e6,e7,e8,e9,e10,e11,e12,e13,e14,e15,e16,d1))else((kI (IntKind.wrap .i64 (x1.1+1)) e1 e2 e3 e4 e5 e6 x5.1.eU x5.1.c7 e9 e10 e11 e12 e13 e14 e15 e16 d1).bind fun x7=>if x3.2.1=true then(if(decide ((d1.length:Int)<4096))=true then((qq d1 [(aB.mk x1.1 x7.1 x1.2.2.1)] 32).bind fun x10=>some (x7.1,x7.2.1,x7.2.2.1,x7.2.2.2.1,x7.2.2.2.2.1,x7.2.2.2.2.2.1,x7.2.2.2.2.2.2.1,x7.2.2.2.2.2.2.2.1,x7.2.2.2.2.2.2.2.2.1,x7.2.2.2.2.2.2.2.2.2.1,x7.2.2.2.2.2.2.2.2.2.2.1,x7.2.2.2.2.2.2.2.2.2.2.2.1,x7.2.2.2.2.2.2.2.2.2.2.2.2.1,x7.2.2.2.2.2.2.2.2.2.2.2.2.2.1,x7.2.2.2.2.2.2.2.2.2.2.2.2.2.2.1,x7.2.2.2.2.2.2.2.2.2.2.2.2.2.2.2,x10))else(some (x7.1,x7.2.1,x7.2.2.1,x7.2.2.2.1,x7.2.2.2.2.1,x7.2.2.2.2.2.1,x7.2.2.2.2.2.2.1,x7.2.2.2.2.2.2.2.1,x7.2.2.2.2.2.2.2.2.1,x7.2.2.2.2.2.2.2.2.2.1,x7.2.2.2.2.2.2.2.2.2.2.1,x7.2.2.2.2.2.2.2.2.2.2.2.1,x7.2.2.2.2.2.2.2.2.2.2.2.2.1,x7.2.2.2.2.2.2.2.2.2.2.2.2.2.1,x7.2.2.2.2.2.2.2.2.2.2.2.2.2.2.1,x7.2.2.2.2.2.2.2.2.2.2.2.2.2.2.2,d1)))else(some (x7.1,x7.2.1,x7.2.2.1,x7.2.2.2.1,x7.2.2.2.2.1,x7.2.2.2.2.2.1,x7.2.2.2.2.2.2.1,x7.2.2.2.2.2.2.2.1,x7.2.2.2.2.2.2.2.2.1,x7.2.2.2.2.2.2.2.2.2.1,x7.2.2.2.2.2.2.2.2.2.2.1,x7.2.2.2.2.2.2.2.2.2.2.2.1,x7.2.2.2.2.2.2.2.2.2.2.2.2.1,x7.2.2.2.2.2.2.2.2.2.2.2.2.2.1,x7.2.2.2.2.2.2.2.2.2.2.2.2.2.2.1,x7.2.2.2.2.2.2.2.2.2.2.2.2.2.2.2,d1)))))
def cH(a0:(List UInt8)):Option (Int×Int×Int):=
  (ej a0 ([83]:List UInt8) 13).bind fun x1=>if(x1.2 != 0)=true then(some (0,0,x1.2))else((bK x1.1 0).bind fun x3=>(bK x1.1 1).bind fun x4=>if((x1.1.length:Int) != 8)=true then(some (0,0,3))else(if(decide (x3>x4))=true then(some (0,0,3))else(if(decide (x4>1073741825))=true then(some (0,0,3))else(some (x3,x4,0)))))
def lc(a0:(List UInt8))(e1:Int)(e2:Int)(e3:Int)(e4:Int)(e5:Int)(e6:(List (List UInt8)))(e7:(List ae))(e8:(List ae))(e9:Int)(e10:Int)(e11:(List ak))(e12:Int)(e13:Int)(e14:(List ak))(e15:(List am))(e16:(List am))(d1:(List aB)):Option (Int×Int×Int×Int×Int×(List (List UInt8))×(List ae)×(List ae)×Int×Int×(List ak)×Int×Int×(List ak)×(List am)×(List am)):=
  (cH a0).bind fun x1=>if(x1.2.2 != 0)=true then(some (e1,e2,e3,e4,e5,e6,e7,e8,e9,e10,e11,e12,e13,e14,e15,e16))else((gA (aw.mk e7 e8) x1.1).bind fun x3=>if(x3.2==0)=true then((kI x1.2.1 e1 e2 e3 e4 e5 e6 x3.1.eU x3.1.c7 e9 e10 e11 e12 e13 e14 e15 e16 d1).bind fun x5=>some (x5.1,x5.2.1,x5.2.2.1,x5.2.2.2.1,x5.2.2.2.2.1,x5.2.2.2.2.2.1,x5.2.2.2.2.2.2.1,x5.2.2.2.2.2.2.2.1,x5.2.2.2.2.2.2.2.2.1,x5.2.2.2.2.2.2.2.2.2.1,x5.2.2.2.2.2.2.2.2.2.2.1,x5.2.2.2.2.2.2.2.2.2.2.2.1,x5.2.2.2.2.2.2.2.2.2.2.2.2.1,x5.2.2.2.2.2.2.2.2.2.2.2.2.2.1,x5.2.2.2.2.2.2.2.2.2.2.2.2.2.2.1,x5.2.2.2.2.2.2.2.2.2.2.2.2.2.2.2))else(some (e1,e2,e3,e4,e5,e6,e7,e8,e9,e10,e11,e12,e13,e14,e15,e16)))
def kW(a0:(List ae))(a1:Int):Option (Bool):=
  (hU a0).bind fun x1=>if x1=true then(if((a0.length:Int)==0)=true then(some true)else((pH a0 0).bind fun x4=>if(decide (x4.bd>=0))=true then((pH a0 (IntKind.wrap .i64 ((a0.length:Int)-1))).bind fun x6=>some (decide (x6.fTo<=a1)))else(some false)))else(some false)
def nh(d0:(List ae)):Int->Option (oJ (Int) ((Unit)⊕(Bool×(List ae)))):=fun s1=>
  if(decide (s1<(d0.length:Int)))=true then((inO d0 s1).bind fun _=>(pH d0 s1).bind fun x6=>(ic x6).bind fun x7=>if(!x7)=true then(some (.stop (.inr (false,d0))))else(if(decide (s1>0))=true then((inO d0 (IntKind.wrap .i64 (s1-1))).bind fun _=>(pH d0 (IntKind.wrap .i64 (s1-1))).bind fun x12=>if(decide (x6.bd<=x12.fTo))=true then(some (.stop (.inr (false,d0))))else(some (.next (IntKind.wrap .i64 (s1+1)))))else(some (.next (IntKind.wrap .i64 (s1+1))))))else(some (.stop (.inl ())))
def lq(d0:(List ae)):Option (Bool×(List ae)):=
  (kG (nh d0) 0).bind fun o15=>match o15 with| .inl _=>(some (true,d0))| .inr r17=>(some r17)
def jX(a1:Int)(d0:(List ae)):Option (Bool×(List ae)):=
  (lq d0).bind fun x1=>if x1.1=true then(if((x1.2.length:Int)==0)=true then(some (true,x1.2))else((inO x1.2 0).bind fun _=>(pH x1.2 0).bind fun x6=>if(decide (x6.bd>=0))=true then((inO x1.2 (IntKind.wrap .i64 ((x1.2.length:Int)-1))).bind fun _=>(pH x1.2 (IntKind.wrap .i64 ((x1.2.length:Int)-1))).bind fun x10=>some ((decide (x10.fTo<=a1)),x1.2))else(some (false,x1.2))))else(some (false,x1.2))
def gm(x3:Int)(x1:(List UInt8)×Int):(Int×(List ae))->Option (oJ (Int×(List ae)) ((List ae))):=fun(s7,s8)=>
  if(decide (s7<x3))=true then((bK x1.1 (IntKind.wrap .i64 (2*s7))).bind fun x12=>(bK x1.1 (IntKind.wrap .i64 ((IntKind.wrap .i64 (2*s7))+1))).bind fun x13=>(qq s8 [(ae.mk x12 x13)] 16).bind fun x14=>some (.next ((IntKind.wrap .i64 (s7+1)),x14)))else(some (.stop s8))
def dG(a0:(List UInt8)):Option ((List ae)×Int):=
  (ej a0 ([82]:List UInt8) 5).bind fun x1=>if(x1.2 != 0)=true then(some (([]:(List ae)),x1.2))else((quoO .i64 (x1.1.length:Int) 8).bind fun x3=>(remO (x1.1.length:Int) 8).bind fun x4=>if(x4 != 0)=true then(some (([]:(List ae)),3))else(if(decide (x3>16))=true then(some (([]:(List ae)),3))else((kG (gm x3 x1) (0,([]:(List ae)))).bind fun o16=>(jX 1073741825 o16).bind fun x17=>if(!x17.1)=true then(some (([]:(List ae)),3))else(some (x17.2,0)))))
def hF(a0:ae)(d0:Int):Option (Bool):=
  if(decide (a0.bd<=d0))=true then(some (decide (d0<a0.fTo)))else(some false)
def ey(a0:(List ae))(d0:Int):Int->Option (oJ (Int) ((Unit)⊕(Int))):=fun s1=>
  if(decide (s1<(a0.length:Int)))=true then((pH a0 s1).bind fun x4=>(hF x4 d0).bind fun x5=>if x5=true then(some (.stop (.inr s1)))else(some (.next (IntKind.wrap .i64 (s1+1)))))else(some (.stop (.inl ())))
def dm(a0:(List ae))(d0:Int):Option (Int):=
  (kG (ey a0 d0) 0).bind fun o8=>match o8 with| .inl _=>(some (-1))| .inr r10=>(some r10)
def cf(a0:(List ae))(d0:Int):Option (Bool):=
  (dm a0 d0).bind fun x1=>some (decide (x1>=0))
def iF(a0:aG)(a2:Int)(a1:(List ae)):((List Int)×Int)->Option (oJ ((List Int)×Int) ((List Int))):=fun(s5,s6)=>
  (dy a0).bind fun x9=>if(decide (s6<x9))=true then(if(decide ((s5.length:Int)<a2))=true then((cf a1 s6).bind fun x12=>if x12=true then((qq s5 [s6] 8).bind fun x14=>some (.next (x14,(IntKind.wrap .i64 (s6+1)))))else(some (.next (s5,(IntKind.wrap .i64 (s6+1))))))else(some (.stop s5)))else(some (.stop s5))
def jD(a0:aG)(a1:(List ae))(a2:Int):Option ((List Int)×Int):=
  (ei a0).bind fun x1=>if(!x1)=true then(some (([]:(List Int)),1))else((jm a2 0 256).bind fun x3=>if(!x3)=true then(some (([]:(List Int)),2))else((kG (iF a0 a2 a1) (([]:(List Int)),a0.bJ)).bind fun o16=>some (o16,0)))
def mS(a0:aG)(a1:Int):Option ((List UInt8)×Bool):=
  (ei a0).bind fun x1=>if(!x1)=true then(some (([]:(List UInt8)),false))else((dy a0).bind fun x3=>(jm a1 a0.bJ (IntKind.wrap .i64 (x3-1))).bind fun x4=>if(!x4)=true then(some (([]:(List UInt8)),false))else((pH a0.ch (IntKind.wrap .i64 (a1-a0.bJ))).bind fun x6=>some (x6,true)))
def iL(a0:(List am)):Option (am×(List am)):=
  if((a0.length:Int)==0)=true then(some ((am.mk false 0 0),([]:(List am))))else((pH a0 0).bind fun x2=>(si a0 1 (a0.length:Int)).bind fun x3=>some (x2,x3))
def lW(a0:(List UInt8))(e1:Int)(e2:Int)(e3:Int)(e4:Int)(e5:Int)(e6:(List (List UInt8)))(e7:(List ae))(e8:(List ae))(e9:Int)(e10:Int)(e11:(List ak))(e12:Int)(e13:Int)(e14:(List ak))(e15:(List am))(e16:(List am))(d1:(List aB)):Option (Int×Int×Int×Int×Int×(List (List UInt8))×(List ae)×(List ae)×Int×Int×(List ak)×Int×Int×(List ak)×(List am)×(List am)):=
  (iL e15).bind fun x1=>(kz (aC.mk e9 e10 e11) a0 x1.1).bind fun x2=>if(x2.2==0)=true then(some (e1,e2,e3,e4,e5,e6,e7,e8,x2.1.bt,x2.1.ba,x2.1.bq,e12,e13,e14,x1.2,e16))else(some (e1,e2,e3,e4,e5,e6,e7,e8,e9,e10,e11,e12,e13,e14,x1.2,e16))
def mZ(x3:(List Int)×Int)(d1:(List aB)):(Int×Int×Int×Int×Int×Int×(List (List UInt8))×(List ae)×(List ae)×Int×Int×(List ak)×Int×Int×(List ak)×(List am)×(List am))->Option (oJ (Int×Int×Int×Int×Int×Int×(List (List UInt8))×(List ae)×(List ae)×Int×Int×(List ak)×Int×Int×(List ak)×(List am)×(List am)) (Int×Int×Int×Int×Int×(List (List UInt8))×(List ae)×(List ae)×Int×Int×(List ak)×Int×Int×(List ak)×(List am)×(List am))):=fun(s4,s5,s6,s7,s8,s9,s10,s11,s12,s13,s14,s15,s16,s17,s18,s19,s20)=>
  if(decide (s4<(x3.1.length:Int)))=true then((pH x3.1 s4).bind fun x23=>(mS (aG.mk s8 s9 s10) x23).bind fun x24=>(iI x23 s9 x24.1).bind fun x25=>if(x25.2==0)=true then((lW x25.1 s5 s6 s7 s8 s9 s10 s11 s12 s13 s14 s15 s16 s17 s18 s19 s20 d1).bind fun x27=>some (.next ((IntKind.wrap .i64 (s4+1)),x27.1,x27.2.1,x27.2.2.1,x27.2.2.2.1,x27.2.2.2.2.1,x27.2.2.2.2.2.1,x27.2.2.2.2.2.2.1,x27.2.2.2.2.2.2.2.1,x27.2.2.2.2.2.2.2.2.1,x27.2.2.2.2.2.2.2.2.2.1,x27.2.2.2.2.2.2.2.2.2.2.1,x27.2.2.2.2.2.2.2.2.2.2.2.1,x27.2.2.2.2.2.2.2.2.2.2.2.2.1,x27.2.2.2.2.2.2.2.2.2.2.2.2.2.1,x27.2.2.2.2.2.2.2.2.2.2.2.2.2.2.1,x27.2.2.2.2.2.2.2.2.2.2.2.2.2.2.2)))else(some (.next ((IntKind.wrap .i64 (s4+1)),s5,s6,s7,s8,s9,s10,s11,s12,s13,s14,s15,s16,s17,s18,s19,s20))))else((some (s5,s6,s7,s8,s9,s10,s11,s12,s13,s14,s15,s16,s17,s18,s19,s20)).bind fun z28=>some (.stop z28))
def la(a0:(List UInt8))(e1:Int)(e2:Int)(e3:Int)(e4:Int)(e5:Int)(e6:(List (List UInt8)))(e7:(List ae))(e8:(List ae))(e9:Int)(e10:Int)(e11:(List ak))(e12:Int)(e13:Int)(e14:(List ak))(e15:(List am))(e16:(List am))(d1:(List aB)):Option (Int×Int×Int×Int×Int×(List (List UInt8))×(List ae)×(List ae)×Int×Int×(List ak)×Int×Int×(List ak)×(List am)×(List am)):=
  (dG a0).bind fun x1=>if(x1.2 != 0)=true then(some (e1,e2,e3,e4,e5,e6,e7,e8,e9,e10,e11,e12,e13,e14,e15,e16))else((jD (aG.mk e4 e5 e6) x1.1 16).bind fun x3=>(kG (mZ x3 d1) (0,e1,e2,e3,e4,e5,e6,e7,e8,e9,e10,e11,e12,e13,e14,e15,e16)).bind fun o30=>some o30)
def iJ(a0:aG):Option ((List UInt8)×Int):=
  (ei a0).bind fun x1=>if(!x1)=true then(some (([]:(List UInt8)),1))else((dy a0).bind fun x3=>(cd ([83]:List UInt8) [a0.bJ,x3]).bind fun x4=>(eS x4).bind fun x5=>some (x5,0))
def gb(j4:Int):Option (Int):=
  some j4
def gc(a0:aw)(j3:Int):Option (Int):=
  if(decide ((a0.c7.length:Int)>0))=true then((pH a0.c7 (IntKind.wrap .i64 ((a0.c7.length:Int)-1))).bind fun x7=>gb (if x7.fTo>j3 then x7.fTo else j3))else(gb j3)
def jB(a0:aw):Option (Int):=
  (cy a0).bind fun x1=>if(!x1)=true then(some 0)else(if(decide ((a0.eU.length:Int)>0))=true then((pH a0.eU (IntKind.wrap .i64 ((a0.eU.length:Int)-1))).bind fun x10=>gc a0 (if x10.fTo>0 then x10.fTo else 0))else(gc a0 0))
def kQ(a0:aw):Option ((List ae)):=
  (f9 a0.eU a0.c7).bind fun x1=>some x1
def jk(a0:aw)(a1:Int):Option ((List ae)×Int):=
  (cy a0).bind fun x1=>if(!x1)=true then(some (([]:(List ae)),1))else((ib a1 0 1073741825).bind fun x3=>if(!x3)=true then(some (([]:(List ae)),2))else((jB a0).bind fun x5=>(kQ a0).bind fun x6=>(f8 [(ae.mk 0 (if x5>a1 then x5 else a1))] x6).bind fun x7=>some (x7,0)))
def nR(x1:(List ae)):(Int×Int×(List ae))->Option (oJ (Int×Int×(List ae)) ((List ae))):=fun(s2,s3,s4)=>
  if(decide (s3<(x1.length:Int)))=true then((pH x1 s3).bind fun x8=>if(decide (s2<1))=true then(some (.stop s4))else(if(decide ((IntKind.wrap .u64 ((IntKind.wrap .u64 x8.fTo)-(IntKind.wrap .u64 x8.bd)))>(IntKind.wrap .u64 s2)))=true then((qq s4 [(ae.mk x8.bd (IntKind.wrap .i64 (x8.bd+s2)))] 16).bind fun x11=>some (.next (0,(IntKind.wrap .i64 (s3+1)),x11)))else((qq s4 [x8] 16).bind fun x12=>some (.next ((IntKind.wrap .i64 (s2-(IntKind.wrap .i64 (IntKind.wrap .u64 ((IntKind.wrap .u64 x8.fTo)-(IntKind.wrap .u64 x8.bd)))))),(IntKind.wrap .i64 (s3+1)),x12)))))else(some (.stop s4))
def mV(a0:(List ae))(a1:Int):Option ((List ae)):=
  (cj a0).bind fun x1=>(kG (nR x1) (a1,0,([]:(List ae)))).bind fun o14=>some o14
def gd(a0:aw)(a1:Int)(a2:Int):Option ((List ae)×Int):=
  (jk a0 a1).bind fun x1=>if(x1.2 != 0)=true then(some (([]:(List ae)),x1.2))else((ib a2 0 256).bind fun x3=>if(!x3)=true then(some (([]:(List ae)),2))else((mV x1.1 a2).bind fun x5=>some (x5,0)))
def jK(a1:(List ae)):((List UInt8)×Int)->Option (oJ ((List UInt8)×Int) ((List UInt8))):=fun(s6,s7)=>
  if(decide (s7<(a1.length:Int)))=true then((pH a1 s7).bind fun x11=>(cd s6 [x11.bd,x11.fTo]).bind fun x12=>some (.next (x12,(IntKind.wrap .i64 (s7+1)))))else(some (.stop s6))
def gg(a0:Int)(a1:(List ae)):Option ((List UInt8)×Int):=
  (di a0 0 1073741825).bind fun x1=>if(!x1)=true then(some (([]:(List UInt8)),1))else((kW a1 a0).bind fun x3=>if(!x3)=true then(some (([]:(List UInt8)),1))else(if(decide ((a1.length:Int)>16))=true then(some (([]:(List UInt8)),8))else((kG (jK a1) ([82],0)).bind fun o14=>(eS o14).bind fun x15=>some (x15,0))))
def pg(a0:(List UInt8))(e1:Int)(e2:Int)(e3:Int)(e4:Int)(e5:Int)(e6:(List (List UInt8)))(e7:(List ae))(e8:(List ae))(e9:Int)(e10:Int)(e11:(List ak))(e12:Int)(e13:Int)(e14:(List ak))(e15:(List am))(e16:(List am))(d1:(List aB)):Option (Int×Int×Int×Int×Int×(List (List UInt8))×(List ae)×(List ae)×Int×Int×(List ak)×Int×Int×(List ak)×(List am)×(List am)):=
  (iL e16).bind fun x1=>(kz (aC.mk e12 e13 e14) a0 x1.1).bind fun x2=>if(x2.2==0)=true then(some (e1,e2,e3,e4,e5,e6,e7,e8,e9,e10,e11,x2.1.bt,x2.1.ba,x2.1.bq,e15,x1.2))else(some (e1,e2,e3,e4,e5,e6,e7,e8,e9,e10,e11,e12,e13,e14,e15,x1.2))
def ke(e0:Int)(e1:Int)(e2:Int)(e3:Int)(e4:Int)(e5:(List (List UInt8)))(e6:(List ae))(e7:(List ae))(e8:Int)(e9:Int)(e10:(List ak))(e11:Int)(e12:Int)(e13:(List ak))(e14:(List am))(e15:(List am))(d1:(List aB)):Option (Int×Int×Int×Int×Int×(List (List UInt8))×(List ae)×(List ae)×Int×Int×(List ak)×Int×Int×(List ak)×(List am)×(List am)):=
  (iJ (aG.mk e3 e4 e5)).bind fun x1=>(lW x1.1 e0 e1 e2 e3 e4 e5 e6 e7 e8 e9 e10 e11 e12 e13 e14 e15 d1).bind fun x2=>(gd (aw.mk x2.2.2.2.2.2.2.1 x2.2.2.2.2.2.2.2.1) x2.2.2.1 16).bind fun x3=>if(x3.2 != 0)=true then(some (x2.1,x2.2.1,x2.2.2.1,x2.2.2.2.1,x2.2.2.2.2.1,x2.2.2.2.2.2.1,x2.2.2.2.2.2.2.1,x2.2.2.2.2.2.2.2.1,x2.2.2.2.2.2.2.2.2.1,x2.2.2.2.2.2.2.2.2.2.1,x2.2.2.2.2.2.2.2.2.2.2.1,x2.2.2.2.2.2.2.2.2.2.2.2.1,x2.2.2.2.2.2.2.2.2.2.2.2.2.1,x2.2.2.2.2.2.2.2.2.2.2.2.2.2.1,x2.2.2.2.2.2.2.2.2.2.2.2.2.2.2.1,x2.2.2.2.2.2.2.2.2.2.2.2.2.2.2.2))else(if((x3.1.length:Int)==0)=true then(some (x2.1,x2.2.1,x2.2.2.1,x2.2.2.2.1,x2.2.2.2.2.1,x2.2.2.2.2.2.1,x2.2.2.2.2.2.2.1,x2.2.2.2.2.2.2.2.1,x2.2.2.2.2.2.2.2.2.1,x2.2.2.2.2.2.2.2.2.2.1,x2.2.2.2.2.2.2.2.2.2.2.1,x2.2.2.2.2.2.2.2.2.2.2.2.1,x2.2.2.2.2.2.2.2.2.2.2.2.2.1,x2.2.2.2.2.2.2.2.2.2.2.2.2.2.1,x2.2.2.2.2.2.2.2.2.2.2.2.2.2.2.1,x2.2.2.2.2.2.2.2.2.2.2.2.2.2.2.2))else((pH x3.1 (IntKind.wrap .i64 ((x3.1.length:Int)-1))).bind fun x6=>(gg x6.fTo x3.1).bind fun x7=>if(x7.2==0)=true then((pg x7.1 x2.1 x2.2.1 x2.2.2.1 x2.2.2.2.1 x2.2.2.2.2.1 x2.2.2.2.2.2.1 x2.2.2.2.2.2.2.1 x2.2.2.2.2.2.2.2.1 x2.2.2.2.2.2.2.2.2.1 x2.2.2.2.2.2.2.2.2.2.1 x2.2.2.2.2.2.2.2.2.2.2.1 x2.2.2.2.2.2.2.2.2.2.2.2.1 x2.2.2.2.2.2.2.2.2.2.2.2.2.1 x2.2.2.2.2.2.2.2.2.2.2.2.2.2.1 x2.2.2.2.2.2.2.2.2.2.2.2.2.2.2.1 x2.2.2.2.2.2.2.2.2.2.2.2.2.2.2.2 d1).bind fun x9=>some (x9.1,x9.2.1,x9.2.2.1,x9.2.2.2.1,x9.2.2.2.2.1,x9.2.2.2.2.2.1,x9.2.2.2.2.2.2.1,x9.2.2.2.2.2.2.2.1,x9.2.2.2.2.2.2.2.2.1,x9.2.2.2.2.2.2.2.2.2.1,x9.2.2.2.2.2.2.2.2.2.2.1,x9.2.2.2.2.2.2.2.2.2.2.2.1,x9.2.2.2.2.2.2.2.2.2.2.2.2.1,x9.2.2.2.2.2.2.2.2.2.2.2.2.2.1,x9.2.2.2.2.2.2.2.2.2.2.2.2.2.2.1,x9.2.2.2.2.2.2.2.2.2.2.2.2.2.2.2))else(some (x2.1,x2.2.1,x2.2.2.1,x2.2.2.2.1,x2.2.2.2.2.1,x2.2.2.2.2.2.1,x2.2.2.2.2.2.2.1,x2.2.2.2.2.2.2.2.1,x2.2.2.2.2.2.2.2.2.1,x2.2.2.2.2.2.2.2.2.2.1,x2.2.2.2.2.2.2.2.2.2.2.1,x2.2.2.2.2.2.2.2.2.2.2.2.1,x2.2.2.2.2.2.2.2.2.2.2.2.2.1,x2.2.2.2.2.2.2.2.2.2.2.2.2.2.1,x2.2.2.2.2.2.2.2.2.2.2.2.2.2.2.1,x2.2.2.2.2.2.2.2.2.2.2.2.2.2.2.2))))
def jn(x9:aC×(List (List UInt8))×Int):(Int×Int×Int×Int×Int×Int×(List (List UInt8))×(List ae)×(List ae)×Int×Int×(List ak)×Int×Int×(List ak)×(List am)×(List am)×(List aB))->Option (oJ (Int×Int×Int×Int×Int×Int×(List (List UInt8))×(List ae)×(List ae)×Int×Int×(List ak)×Int×Int×(List ak)×(List am)×(List am)×(List aB)) (Int×Int×Int×Int×Int×(List (List UInt8))×(List ae)×(List ae)×Int×Int×(List ak)×Int×Int×(List ak)×(List am)×(List am)×(List aB))):=fun(s10,s11,s12,s13,s14,s15,s16,s17,s18,s19,s20,s21,s22,s23,s24,s25,s26,s27)=>
  if(decide (s10<(x9.2.1.length:Int)))=true then((pH x9.2.1 s10).bind fun x47=>(oe x47 s11 s12 s13 s14 s15 s16 s17 s18 s19 s20 s21 s22 s23 s24 s25 s26 s27).bind fun x48=>(lc x47 x48.1 x48.2.1 x48.2.2.1 x48.2.2.2.1 x48.2.2.2.2.1 x48.2.2.2.2.2.1 x48.2.2.2.2.2.2.1 x48.2.2.2.2.2.2.2.1 x48.2.2.2.2.2.2.2.2.1 x48.2.2.2.2.2.2.2.2.2.1 x48.2.2.2.2.2.2.2.2.2.2.1 x48.2.2.2.2.2.2.2.2.2.2.2.1 x48.2.2.2.2.2.2.2.2.2.2.2.2.1 x48.2.2.2.2.2.2.2.2.2.2.2.2.2.1 x48.2.2.2.2.2.2.2.2.2.2.2.2.2.2.1 x48.2.2.2.2.2.2.2.2.2.2.2.2.2.2.2.1 x48.2.2.2.2.2.2.2.2.2.2.2.2.2.2.2.2).bind fun x49=>some (.next ((IntKind.wrap .i64 (s10+1)),x49.1,x49.2.1,x49.2.2.1,x49.2.2.2.1,x49.2.2.2.2.1,x49.2.2.2.2.2.1,x49.2.2.2.2.2.2.1,x49.2.2.2.2.2.2.2.1,x49.2.2.2.2.2.2.2.2.1,x49.2.2.2.2.2.2.2.2.2.1,x49.2.2.2.2.2.2.2.2.2.2.1,x49.2.2.2.2.2.2.2.2.2.2.2.1,x49.2.2.2.2.2.2.2.2.2.2.2.2.1,x49.2.2.2.2.2.2.2.2.2.2.2.2.2.1,x49.2.2.2.2.2.2.2.2.2.2.2.2.2.2.1,x49.2.2.2.2.2.2.2.2.2.2.2.2.2.2.2,x48.2.2.2.2.2.2.2.2.2.2.2.2.2.2.2.2)))else(some (.stop (s11,s12,s13,s14,s15,s16,s17,s18,s19,s20,s21,s22,s23,s24,s25,s26,s27)))
def ml(x52:aC×(List (List UInt8))×Int)(o51:Int×Int×Int×Int×Int×(List (List UInt8))×(List ae)×(List ae)×Int×Int×(List ak)×Int×Int×(List ak)×(List am)×(List am)×(List aB)):(Int×Int×Int×Int×Int×Int×(List (List UInt8))×(List ae)×(List ae)×Int×Int×(List ak)×Int×Int×(List ak)×(List am)×(List am))->Option (oJ (Int×Int×Int×Int×Int×Int×(List (List UInt8))×(List ae)×(List ae)×Int×Int×(List ak)×Int×Int×(List ak)×(List am)×(List am)) (Int×Int×Int×Int×Int×(List (List UInt8))×(List ae)×(List ae)×Int×Int×(List ak)×Int×Int×(List ak)×(List am)×(List am))):=fun(s53,s54,s55,s56,s57,s58,s59,s60,s61,s62,s63,s64,s65,s66,s67,s68,s69)=>
  if(decide (s53<(x52.2.1.length:Int)))=true then((pH x52.2.1 s53).bind fun x88=>(la x88 s54 s55 s56 s57 s58 s59 s60 s61 s62 s63 s64 s65 s66 s67 s68 s69 o51.2.2.2.2.2.2.2.2.2.2.2.2.2.2.2.2).bind fun x89=>some (.next ((IntKind.wrap .i64 (s53+1)),x89.1,x89.2.1,x89.2.2.1,x89.2.2.2.1,x89.2.2.2.2.1,x89.2.2.2.2.2.1,x89.2.2.2.2.2.2.1,x89.2.2.2.2.2.2.2.1,x89.2.2.2.2.2.2.2.2.1,x89.2.2.2.2.2.2.2.2.2.1,x89.2.2.2.2.2.2.2.2.2.2.1,x89.2.2.2.2.2.2.2.2.2.2.2.1,x89.2.2.2.2.2.2.2.2.2.2.2.2.1,x89.2.2.2.2.2.2.2.2.2.2.2.2.2.1,x89.2.2.2.2.2.2.2.2.2.2.2.2.2.2.1,x89.2.2.2.2.2.2.2.2.2.2.2.2.2.2.2)))else(some (.stop (s54,s55,s56,s57,s58,s59,s60,s61,s62,s63,s64,s65,s66,s67,s68,s69)))
def ks(a0:aK)(a1:(List am))(a2:(List am)):Option (aK×Int):=
  (gD a0).bind fun x1=>if(!x1)=true then(some ((aK.mk 0 0 0 (aG.mk 0 0 []) (aw.mk [] []) (aC.mk 0 0 []) (aC.mk 0 0 []) []),1))else((bO a1).bind fun x3=>if x3=true then(some ((aK.mk 0 0 0 (aG.mk 0 0 []) (aw.mk [] []) (aC.mk 0 0 []) (aC.mk 0 0 []) []),1))else((bO a2).bind fun x5=>if x5=true then(some ((aK.mk 0 0 0 (aG.mk 0 0 []) (aw.mk [] []) (aC.mk 0 0 []) (aC.mk 0 0 []) []),1))else(if(a0.bt==1099511627776)=true then(some ((aK.mk 0 0 0 (aG.mk 0 0 []) (aw.mk [] []) (aC.mk 0 0 []) (aC.mk 0 0 []) []),8))else((fV a0).bind fun x8=>(l7 x8.bF).bind fun x9=>(kG (jn x9) (0,(IntKind.wrap .i64 (x8.bt+1)),x8.br,x8.bY,x8.bj.c8,x8.bj.bJ,x8.bj.ch,x8.bo.eU,x8.bo.c7,x9.1.bt,x9.1.ba,x9.1.bq,x8.fUp.bt,x8.fUp.ba,x8.fUp.bq,a1,a2,x8.bp)).bind fun o51=>(l7 (aC.mk o51.2.2.2.2.2.2.2.2.2.2.2.1 o51.2.2.2.2.2.2.2.2.2.2.2.2.1 o51.2.2.2.2.2.2.2.2.2.2.2.2.2.1)).bind fun x52=>(kG (ml x52 o51) (0,o51.1,o51.2.1,o51.2.2.1,o51.2.2.2.1,o51.2.2.2.2.1,o51.2.2.2.2.2.1,o51.2.2.2.2.2.2.1,o51.2.2.2.2.2.2.2.1,o51.2.2.2.2.2.2.2.2.1,o51.2.2.2.2.2.2.2.2.2.1,o51.2.2.2.2.2.2.2.2.2.2.1,x52.1.bt,x52.1.ba,x52.1.bq,o51.2.2.2.2.2.2.2.2.2.2.2.2.2.2.1,o51.2.2.2.2.2.2.2.2.2.2.2.2.2.2.2.1)).bind fun o91=>(remO o91.1 o91.2.1).bind fun x92=>if(x92==0)=true then((ke o91.1 o91.2.1 o91.2.2.1 o91.2.2.2.1 o91.2.2.2.2.1 o91.2.2.2.2.2.1 o91.2.2.2.2.2.2.1 o91.2.2.2.2.2.2.2.1 o91.2.2.2.2.2.2.2.2.1 o91.2.2.2.2.2.2.2.2.2.1 o91.2.2.2.2.2.2.2.2.2.2.1 o91.2.2.2.2.2.2.2.2.2.2.2.1 o91.2.2.2.2.2.2.2.2.2.2.2.2.1 o91.2.2.2.2.2.2.2.2.2.2.2.2.2.1 o91.2.2.2.2.2.2.2.2.2.2.2.2.2.2.1 o91.2.2.2.2.2.2.2.2.2.2.2.2.2.2.2 o51.2.2.2.2.2.2.2.2.2.2.2.2.2.2.2.2).bind fun x94=>some ((aK.mk x94.1 x94.2.1 x94.2.2.1 (aG.mk x94.2.2.2.1 x94.2.2.2.2.1 x94.2.2.2.2.2.1) (aw.mk x94.2.2.2.2.2.2.1 x94.2.2.2.2.2.2.2.1) (aC.mk x94.2.2.2.2.2.2.2.2.1 x94.2.2.2.2.2.2.2.2.2.1 x94.2.2.2.2.2.2.2.2.2.2.1) (aC.mk x94.2.2.2.2.2.2.2.2.2.2.2.1 x94.2.2.2.2.2.2.2.2.2.2.2.2.1 x94.2.2.2.2.2.2.2.2.2.2.2.2.2.1) o51.2.2.2.2.2.2.2.2.2.2.2.2.2.2.2.2),0))else(some ((aK.mk o91.1 o91.2.1 o91.2.2.1 (aG.mk o91.2.2.2.1 o91.2.2.2.2.1 o91.2.2.2.2.2.1) (aw.mk o91.2.2.2.2.2.2.1 o91.2.2.2.2.2.2.2.1) (aC.mk o91.2.2.2.2.2.2.2.2.1 o91.2.2.2.2.2.2.2.2.2.1 o91.2.2.2.2.2.2.2.2.2.2.1) (aC.mk o91.2.2.2.2.2.2.2.2.2.2.2.1 o91.2.2.2.2.2.2.2.2.2.2.2.2.1 o91.2.2.2.2.2.2.2.2.2.2.2.2.2.1) o51.2.2.2.2.2.2.2.2.2.2.2.2.2.2.2.2),0))))))
def eY(a0:(List aj))(a1:(List aj)):Int->Option (oJ (Int) ((Unit)⊕(Bool))):=fun s2=>
  if(decide (s2<(a0.length:Int)))=true then((pH a0 s2).bind fun x5=>(pH a1 s2).bind fun x6=>(ct x5 x6).bind fun x7=>if(!x7)=true then(some (.stop (.inr false)))else(some (.next (IntKind.wrap .i64 (s2+1)))))else(some (.stop (.inl ())))
def eD(a0:(List aj))(a1:(List aj)):Option (Bool):=
  if((a0.length:Int) != (a1.length:Int))=true then(some false)else((kG (eY a0 a1) 0).bind fun o10=>match o10 with| .inl _=>(some true)| .inr r12=>(some r12))
def fA(x2:(List aj)×aq)(s7:Int):(Int×(List Int)×Int×Int×Int×Int×Int×Int×(List (List UInt8))×(List ae)×(List ae)×Int×Int×(List ak)×Int×Int×(List ak)×(List aB))->Option (oJ (Int×(List Int)×Int×Int×Int×Int×Int×Int×(List (List UInt8))×(List ae)×(List ae)×Int×Int×(List ak)×Int×Int×(List ak)×(List aB)) ((Int×Int×(List Int)×Int×Int×Int×Int×Int×Int×(List (List UInt8))×(List ae)×(List ae)×Int×Int×(List ak)×Int×Int×(List ak)×(List aB))⊕(Bool))):=fun(s27,s28,s29,s30,s31,s32,s33,s34,s35,s36,s37,s38,s39,s40,s41,s42,s43,s44)=>
  if(decide (s27<(x2.1.length:Int)))=true then((ff 2 (aq.mk s28 s29)).bind fun x66=>if(x66.1==0)=true then((pH x2.1 s27).bind fun x68=>(dx x68).bind fun x69=>if(x69.2 != 0)=true then(some (.stop (.inr false)))else((fN x66.2).bind fun x71=>(kr (aK.mk s30 s31 s32 (aG.mk s33 s34 s35) (aw.mk s36 s37) (aC.mk s38 s39 s40) (aC.mk s41 s42 s43) s44) x69.1 x71.1).bind fun x72=>if(x72.2.2==8)=true then((ia ).bind fun x74=>some (.stop (.inr x74)))else(if(x72.2.2 != 0)=true then(some (.stop (.inr false)))else(if(x72.2.1 != s27)=true then(some (.stop (.inr false)))else(some (.next ((IntKind.wrap .i64 (s27+1)),x71.2.fL,x71.2.fAt,x72.1.bt,x72.1.br,x72.1.bY,x72.1.bj.c8,x72.1.bj.bJ,x72.1.bj.ch,x72.1.bo.eU,x72.1.bo.c7,x72.1.bF.bt,x72.1.bF.ba,x72.1.bF.bq,x72.1.fUp.bt,x72.1.fUp.ba,x72.1.fUp.bq,x72.1.bp)))))))else(some (.stop (.inl (s27,s7,x66.2.fL,x66.2.fAt,s30,s31,s32,s33,s34,s35,s36,s37,s38,s39,s40,s41,s42,s43,s44)))))else(some (.stop (.inl (s27,s7,s28,s29,s30,s31,s32,s33,s34,s35,s36,s37,s38,s39,s40,s41,s42,s43,s44))))
def fB(x2:(List aj)×aq):(Int×Int×(List Int)×Int×Int×Int×Int×Int×Int×(List (List UInt8))×(List ae)×(List ae)×Int×Int×(List ak)×Int×Int×(List ak)×(List aB))->Option (oJ (Int×Int×(List Int)×Int×Int×Int×Int×Int×Int×(List (List UInt8))×(List ae)×(List ae)×Int×Int×(List ak)×Int×Int×(List ak)×(List aB)) ((Unit)⊕(Bool))):=fun(s6,s7,s8,s9,s10,s11,s12,s13,s14,s15,s16,s17,s18,s19,s20,s21,s22,s23,s24)=>
  if(decide (s7<30))=true then((kG (fA x2 s7) (s6,s8,s9,s10,s11,s12,s13,s14,s15,s16,s17,s18,s19,s20,s21,s22,s23,s24)).bind fun o78=>match o78 with| .inl y79=>((fN (aq.mk y79.2.2.1 y79.2.2.2.1)).bind fun x81=>(fN x81.2).bind fun x82=>(fN x82.2).bind fun x83=>(ks (aK.mk y79.2.2.2.2.1 y79.2.2.2.2.2.1 y79.2.2.2.2.2.2.1 (aG.mk y79.2.2.2.2.2.2.2.1 y79.2.2.2.2.2.2.2.2.1 y79.2.2.2.2.2.2.2.2.2.1) (aw.mk y79.2.2.2.2.2.2.2.2.2.2.1 y79.2.2.2.2.2.2.2.2.2.2.2.1) (aC.mk y79.2.2.2.2.2.2.2.2.2.2.2.2.1 y79.2.2.2.2.2.2.2.2.2.2.2.2.2.1 y79.2.2.2.2.2.2.2.2.2.2.2.2.2.2.1) (aC.mk y79.2.2.2.2.2.2.2.2.2.2.2.2.2.2.2.1 y79.2.2.2.2.2.2.2.2.2.2.2.2.2.2.2.2.1 y79.2.2.2.2.2.2.2.2.2.2.2.2.2.2.2.2.2.1) y79.2.2.2.2.2.2.2.2.2.2.2.2.2.2.2.2.2.2) [x81.1,x82.1] [x83.1]).bind fun x84=>if(x84.2 != 0)=true then(some (.stop (.inr false)))else((fK x84.1.bp).bind fun x86=>if(decide ((x86.length:Int)>y79.1))=true then(some (.stop (.inr false)))else((si x2.1 0 (x86.length:Int)).bind fun x88=>(eD x86 x88).bind fun x89=>if(!x89)=true then(some (.stop (.inr false)))else(some (.next (y79.1,(IntKind.wrap .i64 (y79.2.1+1)),x83.2.fL,x83.2.fAt,x84.1.bt,x84.1.br,x84.1.bY,x84.1.bj.c8,x84.1.bj.bJ,x84.1.bj.ch,x84.1.bo.eU,x84.1.bo.c7,x84.1.bF.bt,x84.1.bF.ba,x84.1.bF.bq,x84.1.fUp.bt,x84.1.fUp.ba,x84.1.fUp.bq,x84.1.bp))))))| .inr r80=>(some (.stop (.inr r80))))else(some (.stop (.inl ())))
def iu(a0:(List Int)):Option (Bool):=
  (pn a0).bind fun x1=>(mD 4 x1).bind fun x2=>(ff 4 x2.2).bind fun x3=>(ln 200 (IntKind.wrap .i64 (1+x3.1))).bind fun x4=>if(x4.2 != 0)=true then(some false)else((kG (fB x2) (0,0,x3.2.fL,x3.2.fAt,x4.1.bt,x4.1.br,x4.1.bY,x4.1.bj.c8,x4.1.bj.bJ,x4.1.bj.ch,x4.1.bo.eU,x4.1.bo.c7,x4.1.bF.bt,x4.1.bF.ba,x4.1.bF.bq,x4.1.fUp.bt,x4.1.fUp.ba,x4.1.fUp.bq,x4.1.bp)).bind fun o92=>match o92 with| .inl _=>((ia ).bind fun x95=>some x95)| .inr r94=>(some r94))
end
end Go.Dw.Fc
