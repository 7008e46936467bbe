
import Derived.Test.YthadlbjoiidkjaaGreatDoorDwLift4
import Derived.Test.YthadlbjoiidkjaaGreatDoorDwSortP
import Derived.Test.YthadlbjoiidkjaaGreatDoorDwAtoi
import Derived.Test.YthadlbjoiidkjaaGreatDoorDwItoa
import Derived.Test.YthadlbjoiidkjaaGreatDoorDwJoin
import Derived.Test.YthadlbjoiidkjaaGreatDoorDwSplit

namespace Go.Dw.Fa
open Go.Dw
noncomputable section
structure ak where
  fL:(List Int)
  fAt:Int
  deriving DecidableEq
def ak.pd(x:ak):PD:= .agg [.lst (x.fL.map (PD.int .i64)),.int .i64 x.fAt]
structure aK where
  av:Int
  aB:Int
  aQ:Int
  bn:Int
  deriving DecidableEq
def aK.pd(x:aK):PD:= .agg [.int .i64 x.av,.int .i64 x.aB,.int .i64 x.aQ,.int .i64 x.bn]
structure aC where
  bA:(List aK)
  aZ:Int
  bI:Int
  deriving DecidableEq
def aC.pd(x:aC):PD:= .agg [.lst (x.bA.map aK.pd),.int .i64 x.aZ,.int .i64 x.bI]
structure ap where
  aM:(List UInt8)
  aN:(List UInt8)
  ac:(List UInt8)
  aO:(List UInt8)
  deriving DecidableEq
def ap.pd(x:ap):PD:= .agg [.str x.aM,.str x.aN,.str x.ac,.str x.aO]
structure ae where
  ar:ap
  aL:Int
  aY:Int
  bh:Int
  aF:Int
  aH:Int
  deriving DecidableEq
def ae.pd(x:ae):PD:= .agg [.str x.ar.aM,.str x.ar.aN,.str x.ar.ac,.str x.ar.aO,.int .i64 x.aL,.int .i64 x.aY,.int .i64 x.bh,.int .i64 x.aF,.int .i64 x.aH]
structure ah where
  fX:Int
  fY:Int
  fZ:Int
  deriving DecidableEq
def ah.pd(x:ah):PD:= .agg [.int .i64 x.fX,.int .i64 x.fY,.int .i64 x.fZ]
structure aS where
  aX:ah
  aJ:ah
  deriving DecidableEq
def aS.pd(x:aS):PD:= .agg [.int .i64 x.aX.fX,.int .i64 x.aX.fY,.int .i64 x.aX.fZ,.int .i64 x.aJ.fX,.int .i64 x.aJ.fY,.int .i64 x.aJ.fZ]
structure aA where
  aP:ah
  aL:Int
  aQ:Int
  bq:Int
  aD:aS
  deriving DecidableEq
def aA.pd(x:aA):PD:= .agg [.int .i64 x.aP.fX,.int .i64 x.aP.fY,.int .i64 x.aP.fZ,.int .i64 x.aL,.int .i64 x.aQ,.int .i64 x.bq,.int .i64 x.aD.aX.fX,.int .i64 x.aD.aX.fY,.int .i64 x.aD.aX.fZ,.int .i64 x.aD.aJ.fX,.int .i64 x.aD.aJ.fY,.int .i64 x.aD.aJ.fZ]
structure aw where
  aX:Int
  aJ:Int
  deriving DecidableEq
def aw.pd(x:aw):PD:= .agg [.int .i64 x.aX,.int .i64 x.aJ]
structure au where
  aB:(List ae)
  ac:aA
  av:aw
  bd:Int
  deriving DecidableEq
def au.pd(x:au):PD:= .agg [.lst (x.aB.map ae.pd),.int .i64 x.ac.aP.fX,.int .i64 x.ac.aP.fY,.int .i64 x.ac.aP.fZ,.int .i64 x.ac.aL,.int .i64 x.ac.aQ,.int .i64 x.ac.bq,.int .i64 x.ac.aD.aX.fX,.int .i64 x.ac.aD.aX.fY,.int .i64 x.ac.aD.aX.fZ,.int .i64 x.ac.aD.aJ.fX,.int .i64 x.ac.aD.aJ.fY,.int .i64 x.ac.aD.aJ.fZ,.int .i64 x.av.aX,.int .i64 x.av.aJ,.int .i64 x.bd]
structure ai where
  aq:ae
  aa:au
  deriving DecidableEq
def ai.pd(x:ai):PD:= .agg [.str x.aq.ar.aM,.str x.aq.ar.aN,.str x.aq.ar.ac,.str x.aq.ar.aO,.int .i64 x.aq.aL,.int .i64 x.aq.aY,.int .i64 x.aq.bh,.int .i64 x.aq.aF,.int .i64 x.aq.aH,.lst (x.aa.aB.map ae.pd),.int .i64 x.aa.ac.aP.fX,.int .i64 x.aa.ac.aP.fY,.int .i64 x.aa.ac.aP.fZ,.int .i64 x.aa.ac.aL,.int .i64 x.aa.ac.aQ,.int .i64 x.aa.ac.bq,.int .i64 x.aa.ac.aD.aX.fX,.int .i64 x.aa.ac.aD.aX.fY,.int .i64 x.aa.ac.aD.aX.fZ,.int .i64 x.aa.ac.aD.aJ.fX,.int .i64 x.aa.ac.aD.aJ.fY,.int .i64 x.aa.ac.aD.aJ.fZ,.int .i64 x.aa.av.aX,.int .i64 x.aa.av.aJ,.int .i64 x.aa.bd]
structure am where
  fID:Int
  aI:Bool
  aq:ae
  aW:Int
  aj:ai
  fAt:Int
  deriving DecidableEq
def am.pd(x:am):PD:= .agg [.int .i64 x.fID,.bool x.aI,.str x.aq.ar.aM,.str x.aq.ar.aN,.str x.aq.ar.ac,.str x.aq.ar.aO,.int .i64 x.aq.aL,.int .i64 x.aq.aY,.int .i64 x.aq.bh,.int .i64 x.aq.aF,.int .i64 x.aq.aH,.int .i64 x.aW,.str x.aj.aq.ar.aM,.str x.aj.aq.ar.aN,.str x.aj.aq.ar.ac,.str x.aj.aq.ar.aO,.int .i64 x.aj.aq.aL,.int .i64 x.aj.aq.aY,.int .i64 x.aj.aq.bh,.int .i64 x.aj.aq.aF,.int .i64 x.aj.aq.aH,.lst (x.aj.aa.aB.map ae.pd),.int .i64 x.aj.aa.ac.aP.fX,.int .i64 x.aj.aa.ac.aP.fY,.int .i64 x.aj.aa.ac.aP.fZ,.int .i64 x.aj.aa.ac.aL,.int .i64 x.aj.aa.ac.aQ,.int .i64 x.aj.aa.ac.bq,.int .i64 x.aj.aa.ac.aD.aX.fX,.int .i64 x.aj.aa.ac.aD.aX.fY,.int .i64 x.aj.aa.ac.aD.aX.fZ,.int .i64 x.aj.aa.ac.aD.aJ.fX,.int .i64 x.aj.aa.ac.aD.aJ.fY,.int .i64 x.aj.aa.ac.aD.aJ.fZ,.int .i64 x.aj.aa.av.aX,.int .i64 x.aj.aa.av.aJ,.int .i64 x.aj.aa.bd,.int .i64 x.fAt]
structure ag where
  bg:Int
  bk:Int
  fID:Int
  fAt:Int
  aW:Int
  aj:ai
  deriving DecidableEq
def ag.pd(x:ag):PD:= .agg [.int .i64 x.bg,.int .i64 x.bk,.int .i64 x.fID,.int .i64 x.fAt,.int .i64 x.aW,.str x.aj.aq.ar.aM,.str x.aj.aq.ar.aN,.str x.aj.aq.ar.ac,.str x.aj.aq.ar.aO,.int .i64 x.aj.aq.aL,.int .i64 x.aj.aq.aY,.int .i64 x.aj.aq.bh,.int .i64 x.aj.aq.aF,.int .i64 x.aj.aq.aH,.lst (x.aj.aa.aB.map ae.pd),.int .i64 x.aj.aa.ac.aP.fX,.int .i64 x.aj.aa.ac.aP.fY,.int .i64 x.aj.aa.ac.aP.fZ,.int .i64 x.aj.aa.ac.aL,.int .i64 x.aj.aa.ac.aQ,.int .i64 x.aj.aa.ac.bq,.int .i64 x.aj.aa.ac.aD.aX.fX,.int .i64 x.aj.aa.ac.aD.aX.fY,.int .i64 x.aj.aa.ac.aD.aX.fZ,.int .i64 x.aj.aa.ac.aD.aJ.fX,.int .i64 x.aj.aa.ac.aD.aJ.fY,.int .i64 x.aj.aa.ac.aD.aJ.fZ,.int .i64 x.aj.aa.av.aX,.int .i64 x.aj.aa.av.aJ,.int .i64 x.aj.aa.bd]
structure aV where
  deriving DecidableEq
def aV.pd(x:aV):PD:= .agg []
structure gx where
  a0:Int
  a1:Int
  a2:Int
  deriving DecidableEq
def gx.pd(x:gx):PD:= .agg [.int .i64 x.a0,.int .i64 x.a1,.int .i64 x.a2]
structure bN where
  a0:(List UInt8)
  a1:(List UInt8)
  a2:(List UInt8)
  a3:(List UInt8)
  deriving DecidableEq
def bN.pd(x:bN):PD:= .agg [.str x.a0,.str x.a1,.str x.a2,.str x.a3]
structure az where
  bJ:(List (List UInt8))
  fbad:Bool
  deriving DecidableEq
def az.pd(x:az):PD:= .agg [.lst (x.bJ.map PD.str),.bool x.fbad]
structure ba where
  cM:Int
  fAt:Int
  fData:(List UInt8)
  deriving DecidableEq
def ba.pd(x:ba):PD:= .agg [.int .i64 x.cM,.int .i64 x.fAt,.str x.fData]
def co(a b:ae):Bool:=(((a.ar.aM==b.ar.aM)&&((a.ar.aN==b.ar.aN)&&((a.ar.ac==b.ar.ac)&&((a.ar.aO==b.ar.aO)&&true))))&&((a.aL==b.aL)&&((a.aY==b.aY)&&((a.bh==b.bh)&&((a.aF==b.aF)&&((a.aH==b.aH)&&true))))))
def iM(a0:(List Int)):Option (ak):=
  (cutO a0 0 (if 2000<(a0.length:Int)then 2000 else(a0.length:Int))).bind fun x1=>some (ak.mk x1 0)
def Src_Raw(d0:ak):Option (Int×ak):=
  if(decide (d0.fAt>=(d0.fL.length:Int)))=true then(some (0,d0))else((ja d0.fL (IntKind.wrap .i64 ((IntKind.wrap .i64 (d0.fAt+1))-1))).bind fun x2=>some (x2,(ak.mk d0.fL (IntKind.wrap .i64 (d0.fAt+1)))))
def gL(a0:Int)(a1:Int):Option (Int):=
  if(decide (a1<1))=true then(some 0)else((remO a0 a1).bind fun x2=>if(decide (x2<0))=true then(some (IntKind.wrap .i64 (x2+a1)))else(some x2))
def dW(a1:Int)(d0:ak):Option (Int×ak):=
  (Src_Raw d0).bind fun x1=>(gL x1.1 a1).bind fun x2=>some (x2,x1.2)
def fj(a1:(List Int))(d0:ak):Option (Int×ak):=
  (dW (a1.length:Int) d0).bind fun x1=>(ja a1 x1.1).bind fun x2=>some (x2,x1.2)
def fS:(Int×(List Int)×Int×(List aK))->Option (iN (Int×(List Int)×Int×(List aK)) ((List Int)×Int×(List aK))):=fun(s4,s5,s6,s7)=>
  if(decide (s4>0))=true then((dW 400 (ak.mk s5 s6)).bind fun x13=>(dW 4 x13.2).bind fun x14=>(fj [0,10,100,10000] x14.2).bind fun x15=>(fj [0,500,2000,100000] x15.2).bind fun x16=>(lh s7 [(aK.mk (IntKind.wrap .i64 (x13.1-100)) (IntKind.wrap .i64 (1+x14.1)) x15.1 x16.1)] 32).bind fun x17=>some (.next ((IntKind.wrap .i64 (s4-1)),x16.2.fL,x16.2.fAt,x17)))else(some (.stop (s5,s6,s7)))
def eL(d0:ak):Option (aC×ak):=
  (fj [0,2,10,1000] d0).bind fun x1=>(fj [0,0,50,500] x1.2).bind fun x2=>(dW 3 x2.2).bind fun x3=>(fq (fS) ((IntKind.wrap .i64 (1+x3.1)),x3.2.fL,x3.2.fAt,([]:(List aK)))).bind fun o19=>some ((aC.mk o19.2.2 x1.1 x2.1),(ak.mk o19.1 o19.2.1))
def dZ(a0:Int):Option (ap):=
  (gL a0 6).bind fun x1=>(ja [[83,49],[83,50],[83,51],[83,52],[83,53],[83,54]] x1).bind fun x2=>some (ap.mk [65,66] x2 [48,48] [66,72,90])
def iw(a1:Int)(d0:ak):Option (ah×ak):=
  (dW (IntKind.wrap .i64 ((IntKind.wrap .i64 (2*a1))+1)) d0).bind fun x1=>(dW (IntKind.wrap .i64 ((IntKind.wrap .i64 (2*a1))+1)) x1.2).bind fun x2=>(dW (IntKind.wrap .i64 (a1+1)) x2.2).bind fun x3=>some ((ah.mk (IntKind.wrap .i64 (x1.1-a1)) (IntKind.wrap .i64 (x2.1-a1)) x3.1),x3.2)
def fb(x1:Int×ak)(a1:Int):(Int×(List Int)×Int×(List ae))->Option (iN (Int×(List Int)×Int×(List ae)) ((List Int)×Int×(List ae))):=fun(s2,s3,s4,s5)=>
  (dW 4 (ak.mk s3 s4)).bind fun x10=>if(decide (s2<(IntKind.wrap .i64 (1+x10.1))))=true then((dZ s2).bind fun x12=>(dW 3 x10.2).bind fun x13=>(lh s5 [(ae.mk x12 (IntKind.wrap .i64 ((IntKind.wrap .i64 (1000+x1.1))+(IntKind.wrap .i64 (10*a1)))) (IntKind.wrap .i64 ((IntKind.wrap .i64 (1000+x1.1))+(IntKind.wrap .i64 (10*a1)))) (IntKind.wrap .i64 ((IntKind.wrap .i64 ((IntKind.wrap .i64 (1000+x1.1))+(IntKind.wrap .i64 (10*a1))))+x13.1)) a1 0)] 104).bind fun x14=>some (.next ((IntKind.wrap .i64 (s2+1)),x13.2.fL,x13.2.fAt,x14)))else(some (.stop (x10.2.fL,x10.2.fAt,s5)))
def eJ(a1:Int)(d0:ak):Option (ai×ak):=
  (dW 300 d0).bind fun x1=>(fq (fb x1 a1) (0,x1.2.fL,x1.2.fAt,([]:(List ae)))).bind fun o16=>(inO o16.2.2 0).bind fun _=>(ja o16.2.2 0).bind fun x19=>(iw 20 (ak.mk o16.1 o16.2.1)).bind fun x20=>(dW 40 x20.2).bind fun x21=>(fj [0,0,5,500] x21.2).bind fun x22=>(dW 3 x22.2).bind fun x23=>if(decide (x23.1>0))=true then((dW 400 x23.2).bind fun x25=>(dW 60 x25.2).bind fun x26=>some ((ai.mk x19 (au.mk o16.2.2 (aA.mk x20.1 (IntKind.wrap .i64 ((IntKind.wrap .i64 (1000+x1.1))-x21.1)) x22.1 0 (aS.mk x20.1 x20.1)) (aw.mk x25.1 (IntKind.wrap .i64 (x25.1+x26.1))) x23.1)),x26.2))else(some ((ai.mk x19 (au.mk o16.2.2 (aA.mk x20.1 (IntKind.wrap .i64 ((IntKind.wrap .i64 (1000+x1.1))-x21.1)) x22.1 0 (aS.mk x20.1 x20.1)) (aw.mk 0 0) x23.1)),x23.2))
def dj(x12:ai×ak)(s1:Int)(s4:(List ai)):(Int×(List ae))->Option (iN (Int×(List ae)) (Int×(List ai)×(List ae))):=fun(s13,s14)=>
  if(decide (s13<(x12.1.aa.aB.length:Int)))=true then((inO s14 s13).bind fun _=>(nv s14 s13 (fun(z23:ae)=>(ae.mk z23.ar (IntKind.wrap .i64 ((IntKind.wrap .i64 (1000+(IntKind.wrap .i64 (400*s1))))+s13)) z23.aY z23.bh z23.aF z23.aH))).bind fun x22=>(nv x22 s13 (fun(z25:ae)=>(ae.mk z25.ar z25.aL (IntKind.wrap .i64 ((IntKind.wrap .i64 (1000+(IntKind.wrap .i64 (400*s1))))+s13)) z25.bh z25.aF z25.aH))).bind fun x24=>(nv x24 s13 (fun(z27:ae)=>(ae.mk z27.ar z27.aL z27.aY (IntKind.wrap .i64 ((IntKind.wrap .i64 ((IntKind.wrap .i64 (1000+(IntKind.wrap .i64 (400*s1))))+s13))+2)) z27.aF z27.aH))).bind fun x26=>(nv x26 s13 (fun(z29:ae)=>(ae.mk z29.ar z29.aL z29.aY z29.bh 7 z29.aH))).bind fun x28=>some (.next ((IntKind.wrap .i64 (s13+1)),x28)))else(some (.stop (s1,s4,s14)))
def fR(a1:Int):(Int×(List Int)×Int×(List ai))->Option (iN (Int×(List Int)×Int×(List ai)) ((List ai)×(List Int)×Int)):=fun(s1,s2,s3,s4)=>
  if(decide (s1<a1))=true then((dW 3 (ak.mk s2 s3)).bind fun x10=>if(x10.1==0)=true then(some (.next ((IntKind.wrap .i64 (s1+1)),x10.2.fL,x10.2.fAt,s4)))else((eJ 1 x10.2).bind fun x12=>(fq (dj x12 s1 s4) (0,x12.1.aa.aB)).bind fun o31=>(dW 2 x12.2).bind fun x32=>(cutO o31.2.2 (if(IntKind.wrap .i64 ((o31.2.2.length:Int)-1))<x32.1 then(IntKind.wrap .i64 ((o31.2.2.length:Int)-1))else x32.1) (o31.2.2.length:Int)).bind fun x33=>(ja x33 0).bind fun x34=>(lh o31.2.1 [(ai.mk x34 (au.mk x33 x12.1.aa.ac x12.1.aa.av x12.1.aa.bd))] 248).bind fun x35=>some (.next ((IntKind.wrap .i64 (o31.1+1)),x32.2.fL,x32.2.fAt,x35))))else(some (.stop (s4,s2,s3)))
def eK(a1:Int)(d0:ak):Option ((List ai)×ak):=
  (fq (fR a1) (0,d0.fL,d0.fAt,([]:(List ai)))).bind fun o37=>some (o37.1,(ak.mk o37.2.1 o37.2.2))
def ge(a0:aK):Option (Bool):=
  if(decide (a0.av>=(-1000)))=true then(if(decide (a0.av<=2000))=true then(if(decide (a0.aB>=1))=true then(if(decide (a0.aB<=64))=true then(if(decide ((if a0.bn<a0.aQ then a0.bn else a0.aQ)>=0))=true then(some (decide ((if a0.bn>a0.aQ then a0.bn else a0.aQ)<=9007199254740992)))else(some false))else(some false))else(some false))else(some false))else(some false)
def ez(a0:aC):Int->Option (iN (Int) ((Unit)⊕(Int))):=fun s5=>
  if(decide (s5<(a0.bA.length:Int)))=true then((ja a0.bA s5).bind fun x8=>(ge x8).bind fun x9=>if(!x9)=true then(some (.stop (.inr 27)))else(some (.next (IntKind.wrap .i64 (s5+1)))))else(some (.stop (.inl ())))
def cu(a0:aC):Option (Int):=
  if(decide ((a0.bA.length:Int)<1))=true then(some 27)else(if(decide ((a0.bA.length:Int)>8))=true then(some 27)else(if(decide ((if a0.bI<a0.aZ then a0.bI else a0.aZ)<0))=true then(some 27)else(if(decide ((if a0.bI>a0.aZ then a0.bI else a0.aZ)>9007199254740992))=true then(some 27)else((fq (ez a0) 0).bind fun o12=>match o12 with| .inl _=>(some 0)| .inr r14=>(some r14)))))
def c7(a0:(List am)):(Int×Int×(List (ae×aV)))->Option (iN (Int×Int×(List (ae×aV))) ((Unit)⊕(Bool))):=fun(s2,s3,s4)=>
  if(decide (s3<(a0.length:Int)))=true then((ja a0 s3).bind fun x7=>if(decide (x7.fID<=s2))=true then(some (.stop (.inr false)))else(if(decide (x7.fID>=1000))=true then(some (.stop (.inr false)))else(if(decide (x7.fAt<0))=true then(some (.stop (.inr false)))else(if(decide (x7.fAt>18014398509481984))=true then(some (.stop (.inr false)))else(if x7.aI=true then(some (.next (x7.fID,(IntKind.wrap .i64 (s3+1)),s4)))else(if(ky co x7.aq s4)=true then(some (.stop (.inr false)))else(some (.next (x7.fID,(IntKind.wrap .i64 (s3+1)),(kg co x7.aq (aV.mk ) s4))))))))))else(some (.stop (.inl ())))
def gh(a0:(List am)):Option (Bool):=
  if(decide ((a0.length:Int)>200))=true then(some false)else((fq (c7 a0) ((-1),0,([]:List (ae×aV)))).bind fun o15=>match o15 with| .inl _=>(some true)| .inr r17=>(some r17))
def eO(a0:(List UInt8)):Option (Bool):=
  some (!(a0==a0))
def bu(a0:(List UInt8))(a1:(List UInt8)):Option (Int):=
  (eO a0).bind fun x1=>(eO a1).bind fun x2=>if x1=true then(if x2=true then(some 0)else(some (-1)))else(if x2=true then(some 1)else(if(Op.bytesLess a0 a1)=true then(some (-1))else(if(!(Op.bytesLess a0 a1||a0==a1))=true then(some 1)else(some 0))))
def iB(a0:(List Int)):Int->Option (iN (Int) ((Unit)⊕(Int))):=fun s1=>
  if(decide (s1<(a0.length:Int)))=true then((ja a0 s1).bind fun x4=>if(x4 != 0)=true then(some (.stop (.inr x4)))else(some (.next (IntKind.wrap .i64 (s1+1)))))else(some (.stop (.inl ())))
def eN(a0:(List Int)):Option (Int):=
  (fq (iB a0) 0).bind fun o7=>match o7 with| .inl _=>(some 0)| .inr r9=>(some r9)
def eB(a0:ap)(a1:ap):Option (Int):=
  (bu a0.aM a1.aM).bind fun x1=>(bu a0.aN a1.aN).bind fun x2=>(bu a0.ac a1.ac).bind fun x3=>(bu a0.aO a1.aO).bind fun x4=>(eN [x1,x2,x3,x4]).bind fun x5=>some x5
def dJ(a0:Int):Option (Bool):=
  some (a0 != a0)
def bi(a0:Int)(a1:Int):Option (Int):=
  (dJ a0).bind fun x1=>(dJ a1).bind fun x2=>if x1=true then(if x2=true then(some 0)else(some (-1)))else(if x2=true then(some 1)else(if(decide (a0<a1))=true then(some (-1))else(if(decide (a0>a1))=true then(some 1)else(some 0))))
def dt(a0:ae)(a1:ae):Option (Int):=
  (eB a0.ar a1.ar).bind fun x1=>(bi a0.aL a1.aL).bind fun x2=>(bi a0.aY a1.aY).bind fun x3=>(bi a0.bh a1.bh).bind fun x4=>(bi a0.aF a1.aF).bind fun x5=>(bi a0.aH a1.aH).bind fun x6=>(eN [x1,x2,x3,x4,x5,x6]).bind fun x7=>some x7
def fy(a0:(List ae)):Int->Option (iN (Int) ((Unit)⊕(Bool))):=fun s1=>
  if(decide (s1<(a0.length:Int)))=true then((ja a0 (IntKind.wrap .i64 (s1-1))).bind fun x4=>(ja a0 s1).bind fun x5=>(dt x4 x5).bind fun x6=>if(decide (x6>=0))=true then(some (.stop (.inr false)))else(some (.next (IntKind.wrap .i64 (s1+1)))))else(some (.stop (.inl ())))
def dC(a0:(List ae)):Option (Bool):=
  (fq (fy a0) 1).bind fun o9=>match o9 with| .inl _=>(some true)| .inr r11=>(some r11)
def cH(a0:ae)(a1:ae):Option (Int):=
  (bi a0.aL a1.aL).bind fun x1=>(dt a0 a1).bind fun x2=>(eN [x1,x2]).bind fun x3=>some x3
def bQ(a0:(List ae)):(Int×(List UInt8)×(List UInt8)×(List UInt8)×(List UInt8)×Int×Int×Int×Int×Int)->Option (iN (Int×(List UInt8)×(List UInt8)×(List UInt8)×(List UInt8)×Int×Int×Int×Int×Int) ((List UInt8)×(List UInt8)×(List UInt8)×(List UInt8)×Int×Int×Int×Int×Int)):=fun(s3,s4,s5,s6,s7,s8,s9,s10,s11,s12)=>
  if(decide (s3<(a0.length:Int)))=true then((ja a0 s3).bind fun x24=>(cH x24 (ae.mk (ap.mk s4 s5 s6 s7) s8 s9 s10 s11 s12)).bind fun x25=>if(decide (x25<0))=true then((ja a0 s3).bind fun x27=>some (.next ((IntKind.wrap .i64 (s3+1)),x27.ar.aM,x27.ar.aN,x27.ar.ac,x27.ar.aO,x27.aL,x27.aY,x27.bh,x27.aF,x27.aH)))else(some (.next ((IntKind.wrap .i64 (s3+1)),s4,s5,s6,s7,s8,s9,s10,s11,s12))))else(some (.stop (s4,s5,s6,s7,s8,s9,s10,s11,s12)))
def bG(a0:(List ae)):Option (ae):=
  if(decide ((a0.length:Int)<1))=true then(none)else((ja a0 0).bind fun x2=>(fq (bQ a0) (1,x2.ar.aM,x2.ar.aN,x2.ar.ac,x2.ar.aO,x2.aL,x2.aY,x2.bh,x2.aF,x2.aH)).bind fun o29=>some (ae.mk (ap.mk o29.1 o29.2.1 o29.2.2.1 o29.2.2.2.1) o29.2.2.2.2.1 o29.2.2.2.2.2.1 o29.2.2.2.2.2.2.1 o29.2.2.2.2.2.2.2.1 o29.2.2.2.2.2.2.2.2))
def eP(a0:(List ae)):Option (ae):=
  if((a0.length:Int)==0)=true then(some (ae.mk (ap.mk [] [] [] []) 0 0 0 0 0))else((bG a0).bind fun x2=>some x2)
def db(x5:ai)(s1:Int):(Int×(List (ae×aV)))->Option (iN (Int×(List (ae×aV))) ((Int×(List (ae×aV)))⊕(Bool))):=fun(s6,s7)=>
  if(decide (s6<(x5.aa.aB.length:Int)))=true then((ja x5.aa.aB s6).bind fun x12=>if(ky co x12 s7)=true then(some (.stop (.inr false)))else(some (.next ((IntKind.wrap .i64 (s6+1)),(kg co x12 (aV.mk ) s7)))))else(some (.stop (.inl (s1,s7))))
def da(x5:ai)(s1:Int)(s2:(List (ae×aV))):Option (iN (Int×(List (ae×aV))) ((Unit)⊕(Bool))):=
  (fq (db x5 s1) (0,s2)).bind fun o15=>match o15 with| .inl y16=>(some (.next ((IntKind.wrap .i64 (y16.1+1)),y16.2)))| .inr r17=>(some (.stop (.inr r17)))
def dc(a0:(List ai)):(Int×(List (ae×aV)))->Option (iN (Int×(List (ae×aV))) ((Unit)⊕(Bool))):=fun(s1,s2)=>
  if(decide (s1<(a0.length:Int)))=true then((ja a0 s1).bind fun x5=>if((x5.aa.aB.length:Int)==0)=true then(some (.stop (.inr false)))else((dC x5.aa.aB).bind fun x20=>if(!x20)=true then(some (.stop (.inr false)))else((eP x5.aa.aB).bind fun x22=>if(!(((x5.aq.ar.aM==x22.ar.aM)&&((x5.aq.ar.aN==x22.ar.aN)&&((x5.aq.ar.ac==x22.ar.ac)&&((x5.aq.ar.aO==x22.ar.aO)&&true))))&&((x5.aq.aL==x22.aL)&&((x5.aq.aY==x22.aY)&&((x5.aq.bh==x22.bh)&&((x5.aq.aF==x22.aF)&&((x5.aq.aH==x22.aH)&&true)))))))=true then(some (.stop (.inr false)))else(if(decide (s1>0))=true then((ja a0 (IntKind.wrap .i64 (s1-1))).bind fun x25=>(cH x25.aq x5.aq).bind fun x26=>if(decide (x26>=0))=true then(some (.stop (.inr false)))else(da x5 s1 s2))else(da x5 s1 s2)))))else(some (.stop (.inl ())))
def gl(a0:(List ai)):Option (Bool):=
  (fq (dc a0) (0,([]:List (ae×aV)))).bind fun o29=>match o29 with| .inl _=>(some true)| .inr r31=>(some r31)
def dQ(a0:am)(d0:Int):Option (Bool):=
  some (decide (d0<a0.fAt))
def bY(a0:(List am))(d0:Int):Int->Option (iN (Int) ((Unit)⊕(Int))):=fun s1=>
  if(decide (s1<(a0.length:Int)))=true then((ja a0 s1).bind fun x4=>(dQ x4 d0).bind fun x5=>if x5=true then(some (.stop (.inr s1)))else(some (.next (IntKind.wrap .i64 (s1+1)))))else(some (.stop (.inl ())))
def cq(a0:(List am))(d0:Int):Option (Int):=
  (fq (bY a0 d0) 0).bind fun o8=>match o8 with| .inl _=>(some (-1))| .inr r10=>(some r10)
def br(a0:(List am))(d0:Int):Option (Bool):=
  (cq a0 d0).bind fun x1=>some (decide (x1>=0))
def fd(a0:aC)(a1:(List am))(a2:Int)(a3:(List ai))(a4:Int):Option (Int):=
  (cu a0).bind fun x1=>if(x1 != 0)=true then(some 27)else((gh a1).bind fun x3=>if(!x3)=true then(some 1)else((gl a3).bind fun x5=>if(!x5)=true then(some 1)else(if(decide (a2<0))=true then(some 1)else(if(decide ((a1.length:Int)>0))=true then((ja a1 (IntKind.wrap .i64 ((a1.length:Int)-1))).bind fun x9=>if(decide (a2<=x9.fID))=true then(some 1)else(if(decide (a4<0))=true then(some 2)else(if(decide (a4>18014398509481984))=true then(some 2)else((br a1 a4).bind fun x13=>if x13=true then(some 9)else(some 0)))))else(if(decide (a4<0))=true then(some 2)else(if(decide (a4>18014398509481984))=true then(some 2)else((br a1 a4).bind fun x17=>if x17=true then(some 9)else(some 0))))))))
def bZ(a0:ai):Option (ai):=
  (lS 104 a0.aa.aB).bind fun x1=>some (ai.mk a0.aq (au.mk x1 a0.aa.ac a0.aa.av a0.aa.bd))
def fc(x1:(List am)):(Int×(List am))->Option (iN (Int×(List am)) ((List am))):=fun(s2,s3)=>
  if(decide (s2<(x1.length:Int)))=true then((inO s3 s2).bind fun _=>(ja s3 s2).bind fun x9=>(bZ x9.aj).bind fun x10=>(inO s3 s2).bind fun _=>(nv s3 s2 (fun(z14:am)=>(am.mk z14.fID z14.aI z14.aq z14.aW x10 z14.fAt))).bind fun x13=>some (.next ((IntKind.wrap .i64 (s2+1)),x13)))else(some (.stop s3))
def gG(a0:(List am)):Option ((List am)):=
  (lS 384 a0).bind fun x1=>(fq (fc x1) (0,x1)).bind fun o16=>some o16
def fu(a0:(List ae))(a1:ae):Int->Option (iN (Int) ((Unit)⊕(Int))):=fun s1=>
  if(decide (s1<(a0.length:Int)))=true then((ja a0 s1).bind fun x4=>if(((a1.ar.aM==x4.ar.aM)&&((a1.ar.aN==x4.ar.aN)&&((a1.ar.ac==x4.ar.ac)&&((a1.ar.aO==x4.ar.aO)&&true))))&&((a1.aL==x4.aL)&&((a1.aY==x4.aY)&&((a1.bh==x4.bh)&&((a1.aF==x4.aF)&&((a1.aH==x4.aH)&&true))))))=true then(some (.stop (.inr s1)))else(some (.next (IntKind.wrap .i64 (s1+1)))))else(some (.stop (.inl ())))
def di(a0:(List ae))(a1:ae):Option (Int):=
  (fq (fu a0 a1) 0).bind fun o7=>match o7 with| .inl _=>(some (-1))| .inr r9=>(some r9)
def dx(a0:(List ae))(a1:ae):Option (Bool):=
  (di a0 a1).bind fun x1=>some (decide (x1>=0))
def eb(a0:ae)(d0:ai):Option (Bool):=
  (dx d0.aa.aB a0).bind fun x1=>some x1
def cS(a0:(List ae))(d0:ai):Int->Option (iN (Int) ((Unit)⊕(Int))):=fun s1=>
  if(decide (s1<(a0.length:Int)))=true then((ja a0 s1).bind fun x4=>(eb x4 d0).bind fun x5=>if x5=true then(some (.stop (.inr s1)))else(some (.next (IntKind.wrap .i64 (s1+1)))))else(some (.stop (.inl ())))
def cx(a0:(List ae))(d0:ai):Option (Int):=
  (fq (cS a0 d0) 0).bind fun o8=>match o8 with| .inl _=>(some (-1))| .inr r10=>(some r10)
def ce(a0:(List ae))(d0:ai):Option (Bool):=
  (cx a0 d0).bind fun x1=>some (decide (x1>=0))
def fK(a0:ai)(a1:ai):Option (Bool):=
  (ce a0.aa.aB a1).bind fun x1=>some x1
def fx(a1:(List ai)):(Int×(List (ae×Int)))->Option (iN (Int×(List (ae×Int))) ((List (ae×Int)))):=fun(s1,s2)=>
  if(decide (s1<(a1.length:Int)))=true then((ja a1 s1).bind fun x6=>if(!(ky co x6.aq s2))=true then(some (.next ((IntKind.wrap .i64 (s1+1)),(kg co x6.aq s1 s2))))else(some (.next ((IntKind.wrap .i64 (s1+1)),s2))))else(some (.stop s2))
def eM(a0:(List am))(o9:(List (ae×Int))):(Int×(List Int)×(List Bool))->Option (iN (Int×(List Int)×(List Bool)) ((List Int)×(List Bool))):=fun(s12,s13,s14)=>
  if(decide (s12<(a0.length:Int)))=true then((ja a0 s12).bind fun x19=>if x19.aI=true then((inO s13 s12).bind fun _=>(ny s13 s12 (-1)).bind fun x23=>some (.next ((IntKind.wrap .i64 (s12+1)),x23,s14)))else(if(!(ky co x19.aq o9))=true then((inO s13 s12).bind fun _=>(ny s13 s12 (-1)).bind fun x27=>some (.next ((IntKind.wrap .i64 (s12+1)),x27,s14)))else((inO s13 s12).bind fun _=>(ny s13 s12 (bo co x19.aq 0 o9)).bind fun x30=>(inO s14 (bo co x19.aq 0 o9)).bind fun _=>(ny s14 (bo co x19.aq 0 o9) true).bind fun x33=>some (.next ((IntKind.wrap .i64 (s12+1)),x30,x33)))))else(some (.stop (s13,s14)))
def gD(a1:(List ai))(s38:(List Bool))(x42:am)(s37:(List Int))(s36:Int):Int->Option (iN (Int) (Int×(List Int)×(List Bool))):=fun s48=>
  if(decide (s48<(a1.length:Int)))=true then((ja a1 s48).bind fun x54=>(inO s38 s48).bind fun _=>(ja s38 s48).bind fun x57=>if(!x57)=true then((fK x42.aj x54).bind fun x59=>if x59=true then((inO s37 s36).bind fun _=>(ny s37 s36 s48).bind fun x63=>(inO s38 s48).bind fun _=>(ny s38 s48 true).bind fun x66=>some (.stop (s36,x63,x66)))else(some (.next (IntKind.wrap .i64 (s48+1)))))else(some (.next (IntKind.wrap .i64 (s48+1)))))else(some (.stop (s36,s37,s38)))
def gE(a0:(List am))(a1:(List ai)):(Int×(List Int)×(List Bool))->Option (iN (Int×(List Int)×(List Bool)) ((List Int))):=fun(s36,s37,s38)=>
  if(decide (s36<(a0.length:Int)))=true then((ja a0 s36).bind fun x42=>if x42.aI=true then(some (.next ((IntKind.wrap .i64 (s36+1)),s37,s38)))else((inO s37 s36).bind fun _=>(ja s37 s36).bind fun x46=>if(decide (x46>=0))=true then(some (.next ((IntKind.wrap .i64 (s36+1)),s37,s38)))else((fq (gD a1 s38 x42 s37 s36) 0).bind fun o68=>some (.next ((IntKind.wrap .i64 (o68.1+1)),o68.2.1,o68.2.2)))))else(some (.stop s37))
def fJ(a0:(List am))(a1:(List ai)):Option ((List Int)):=
  (fq (fx a1) (0,([]:List (ae×Int)))).bind fun o9=>(mkO (a0.length:Int) 0 8).bind fun x10=>(mkO (a1.length:Int) false 1).bind fun x11=>(fq (eM a0 o9) (0,x10,x11)).bind fun o35=>(fq (gE a0 a1) (0,o35.1,o35.2)).bind fun o70=>some o70
def dw(a0:aK)(a1:ai):Option (Bool):=
  if(decide (a1.aa.bd>=1))=true then(if(decide (a1.aa.av.aX>=a0.av))=true then(if(decide ((a1.aa.aB.length:Int)>=a0.aB))=true then(some (decide (a1.aa.ac.aQ<=a0.aQ)))else(some false))else(some false))else(some false)
def levelL(e:ai):List aK->Option Int
  | []=>some 0
  |x::l=>(levelL e l).bind fun n=>if(n != 0)=true then some (n+1)else(dw x e).bind fun b=>if b=true then some 1 else some 0
def cw(a0:aC)(a1:ai):Option Int:=
  (cu a0).bind fun x1=>if(x1 != 0)=true then some 0 else levelL a1 a0.bA
def dY(a0:ah):Option (gx):=
  some (gx.mk a0.fX a0.fY a0.fZ)
def dn(a0:ah):Option (Bool):=
  (dY a0).bind fun x1=>if(decide (x1.a0<(-1048576)))=true then(some false)else(if(decide (x1.a0>1048576))=true then(some false)else(if(decide (x1.a1<(-1048576)))=true then(some false)else(if(decide (x1.a1>1048576))=true then(some false)else(if(decide (x1.a2<(-16384)))=true then(some false)else(if(decide (x1.a2>1048576))=true then(some false)else(some true))))))
def dN(a0:ah)(a1:ah):Option (Int):=
  (dn a0).bind fun x1=>if(!x1)=true then(some 0)else((dn a1).bind fun x3=>if(!x3)=true then(some 0)else((dY a1).bind fun x5=>(dY a0).bind fun x6=>some (IntKind.wrap .i64 ((IntKind.wrap .i64 ((IntKind.wrap .i64 (0+(IntKind.wrap .i64 ((IntKind.wrap .i64 (x6.a0-x5.a0))*(IntKind.wrap .i64 (x6.a0-x5.a0))))))+(IntKind.wrap .i64 ((IntKind.wrap .i64 (x6.a1-x5.a1))*(IntKind.wrap .i64 (x6.a1-x5.a1))))))+(IntKind.wrap .i64 ((IntKind.wrap .i64 (x6.a2-x5.a2))*(IntKind.wrap .i64 (x6.a2-x5.a2))))))))
def eU(a0:Int)(a1:Int):Option (Int):=
  if(decide (a0<a1))=true then(some (IntKind.wrap .u64 ((IntKind.wrap .u64 a1)-(IntKind.wrap .u64 a0))))else(some (IntKind.wrap .u64 ((IntKind.wrap .u64 a0)-(IntKind.wrap .u64 a1))))
def df(a0:aw)(a1:aw):Option (Bool):=
  some (decide ((if a1.aX>a0.aX then a1.aX else a0.aX)<=(if a1.aJ<a0.aJ then a1.aJ else a0.aJ)))
def gY(a0:aC)(a1:ai)(a2:ai):Option (Bool):=
  (cu a0).bind fun x1=>if(x1 != 0)=true then(some false)else((cw a0 a1).bind fun x3=>(cw a0 a2).bind fun x4=>if(x3 != x4)=true then(some true)else(if(decide (a0.aZ<=4194304))=true then((dN a1.aa.ac.aP a2.aa.ac.aP).bind fun x7=>if(decide (x7>(IntKind.wrap .i64 (a0.aZ*a0.aZ))))=true then(some true)else((eU a1.aa.ac.aL a2.aa.ac.aL).bind fun x9=>if(decide (x9>(IntKind.wrap .u64 a0.aZ)))=true then(some true)else((df a1.aa.av a2.aa.av).bind fun x11=>some (!x11))))else((eU a1.aa.ac.aL a2.aa.ac.aL).bind fun x12=>if(decide (x12>(IntKind.wrap .u64 a0.aZ)))=true then(some true)else((df a1.aa.av a2.aa.av).bind fun x14=>some (!x14)))))
def cv(a0:Int)(a1:am)(d0:Bool)(d1:Int)(d3:Int)(d4:(List ag)):Option (Bool×Int×(List ag)):=
  if d0=true then((bZ a1.aj).bind fun x2=>(lh d4 [(ag.mk d1 a0 a1.fID d3 a1.aW x2)] 288).bind fun x3=>some (true,(IntKind.wrap .i64 (d1+1)),x3))else((bZ a1.aj).bind fun x4=>(lh d4 [(ag.mk d1 a0 a1.fID d3 a1.aW x4)] 288).bind fun x5=>some ((decide (d1>=1000)),(IntKind.wrap .i64 (d1+1)),x5))
def gu(a0:aC)(a1:ai)(a2:Int):Option (Bool):=
  (cw a0 a1).bind fun x1=>if(x1==0)=true then(some false)else(if(decide ((IntKind.wrap .i64 (a2-a1.aa.ac.aL))>=0))=true then((ja a0.bA (IntKind.wrap .i64 (x1-1))).bind fun x4=>some (decide ((IntKind.wrap .i64 (a2-a1.aa.ac.aL))<=x4.bn)))else(some false))
def cL(s6:Int)(a4:Int)(s8:Bool)(s7:Int)(s11:(List ag))(a0:aC)(a3:(List ai))(x19:Int)(j24:Int)(j25:(List am))(j26:(List Bool)):Option (iN (Int×Int×Bool×(List am)×(List Bool)×(List ag)) (Int×Bool×(List am)×(List Bool)×(List ag))):=
  if(j24==0)=true then((nv j25 s6 (fun(z29:am)=>(am.mk z29.fID true z29.aq z29.aW z29.aj z29.fAt))).bind fun x28=>(nv x28 s6 (fun(z31:am)=>(am.mk z31.fID z31.aI z31.aq z31.aW z31.aj a4))).bind fun x30=>(ja x30 s6).bind fun x32=>(cv 3 x32 s8 s7 a4 s11).bind fun x33=>some (.next ((IntKind.wrap .i64 (s6+1)),x33.2.1,x33.1,x30,j26,x33.2.2)))else((ja j25 s6).bind fun x34=>if(decide ((IntKind.wrap .i64 (a4-x34.fAt))>=a0.bI))=true then((ja j25 s6).bind fun x36=>(ja a3 x19).bind fun x37=>(gY a0 x36.aj x37).bind fun x38=>if x38=true then((ja a3 x19).bind fun x40=>(bZ x40).bind fun x41=>(nv j25 s6 (fun(z43:am)=>(am.mk z43.fID z43.aI z43.aq j24 z43.aj z43.fAt))).bind fun x42=>(nv x42 s6 (fun(z45:am)=>(am.mk z45.fID z45.aI z45.aq z45.aW x41 z45.fAt))).bind fun x44=>(nv x44 s6 (fun(z47:am)=>(am.mk z47.fID z47.aI z47.aq z47.aW z47.aj a4))).bind fun x46=>(ja x46 s6).bind fun x48=>(cv 2 x48 s8 s7 a4 s11).bind fun x49=>some (.next ((IntKind.wrap .i64 (s6+1)),x49.2.1,x49.1,x46,j26,x49.2.2)))else(some (.next ((IntKind.wrap .i64 (s6+1)),s7,s8,j25,j26,s11))))else(some (.next ((IntKind.wrap .i64 (s6+1)),s7,s8,j25,j26,s11))))
def fT(x5:(List Int))(a3:(List ai))(a0:aC)(a4:Int):(Int×Int×Bool×(List am)×(List Bool)×(List ag))->Option (iN (Int×Int×Bool×(List am)×(List Bool)×(List ag)) (Int×Bool×(List am)×(List Bool)×(List ag))):=fun(s6,s7,s8,s9,s10,s11)=>
  if(decide (s6<(x5.length:Int)))=true then((ja x5 s6).bind fun x19=>(inO s9 s6).bind fun _=>(ja s9 s6).bind fun x22=>if x22.aI=true then(some (.next ((IntKind.wrap .i64 (s6+1)),s7,s8,s9,s10,s11)))else(if(decide (x19>=0))=true then((inO s10 x19).bind fun _=>(ny s10 x19 true).bind fun x54=>(ja a3 x19).bind fun x55=>(nv s9 s6 (fun(z57:am)=>(am.mk z57.fID z57.aI x55.aq z57.aW z57.aj z57.fAt))).bind fun x56=>(ja a3 x19).bind fun x58=>(cw a0 x58).bind fun x59=>cL s6 a4 s8 s7 s11 a0 a3 x19 x59 x56 x54)else(cL s6 a4 s8 s7 s11 a0 a3 x19 0 s9 s10)))else(some (.stop (s7,s8,s9,s10,s11)))
def fU(a3:(List ai))(o61:Int×Bool×(List am)×(List Bool)×(List ag))(a0:aC)(a4:Int):(Int×Int×Bool×(List am)×(List ag))->Option (iN (Int×Int×Bool×(List am)×(List ag)) (Bool×(List am)×(List ag))):=fun(s62,s63,s64,s65,s66)=>
  if(decide (s62<(a3.length:Int)))=true then((ja a3 s62).bind fun x72=>(inO o61.2.2.2.1 s62).bind fun _=>(ja o61.2.2.2.1 s62).bind fun x75=>if(!x75)=true then((gu a0 x72 a4).bind fun x77=>if x77=true then((cw a0 x72).bind fun x79=>(bZ x72).bind fun x80=>(lh s65 [(am.mk s63 false x72.aq x79 x80 a4)] 384).bind fun x81=>(cv 1 (am.mk s63 false x72.aq x79 x80 a4) s64 s63 a4 s66).bind fun x82=>some (.next ((IntKind.wrap .i64 (s62+1)),x82.2.1,x82.1,x81,x82.2.2)))else(some (.next ((IntKind.wrap .i64 (s62+1)),s63,s64,s65,s66))))else(some (.next ((IntKind.wrap .i64 (s62+1)),s63,s64,s65,s66))))else(some (.stop (s64,s65,s66)))
def gR(a0:aC)(a1:(List am))(a2:Int)(a3:(List ai))(a4:Int):Option ((List am)×(List ag)×Int):=
  (fd a0 a1 a2 a3 a4).bind fun x1=>if(x1 != 0)=true then(some (([]:(List am)),([]:(List ag)),x1))else((gG a1).bind fun x3=>(mkO (a3.length:Int) false 1).bind fun x4=>(fJ a1 a3).bind fun x5=>(fq (fT x5 a3 a0 a4) (0,a2,false,x3,x4,([]:(List ag)))).bind fun o61=>(fq (fU a3 o61 a0 a4) (0,o61.1,o61.2.1,o61.2.2.1,o61.2.2.2.2)).bind fun o84=>if(decide ((o84.2.1.length:Int)>200))=true then(some (([]:(List am)),([]:(List ag)),8))else(if o84.1=true then(some (([]:(List am)),([]:(List ag)),8))else(some (o84.2.1,o84.2.2,0))))
def fP(a0:Int):Option (Bool):=
  if(decide (a0>=65))=true then(if(decide (a0<=90))=true then(some true)else(if(decide (a0>=48))=true then(some (decide (a0<=57)))else(some false)))else(if(decide (a0>=48))=true then(some (decide (a0<=57)))else(some false))
def dA(a0:(List UInt8)):Int->Option (iN (Int) ((Unit)⊕(Bool))):=fun s1=>
  if(decide (s1<(a0.length:Int)))=true then((qx a0 s1).bind fun x4=>(fP x4).bind fun x5=>if(!x5)=true then(some (.stop (.inr false)))else(some (.next (IntKind.wrap .i64 (s1+1)))))else(some (.stop (.inl ())))
def cE(a0:(List UInt8))(a1:Int)(a2:Int):Option (Bool):=
  (fq (dA a0) 0).bind fun o8=>match o8 with| .inl _=>(if(decide ((a0.length:Int)>=a1))=true then(some (decide ((a0.length:Int)<=a2)))else(some false))| .inr r10=>(some r10)
def ct(a0:ap):Option (Bool):=
  (cE a0.aM 1 2).bind fun x1=>if x1=true then((cE a0.aN 1 5).bind fun x3=>if x3=true then((cE a0.ac 0 2).bind fun x5=>if x5=true then(if((a0.ac.length:Int) != 1)=true then((cE a0.aO 3 3).bind fun x8=>some x8)else(some false))else(some false))else(some false))else(some false)
def fQ(a0:Int)(a1:Int)(a2:Int):Option (Bool):=
  if(decide (a0>=a1))=true then(some (decide (a0<=a2)))else(some false)
def bV(a0:ae):Option (Bool):=
  (ct a0.ar).bind fun x1=>if x1=true then(if(decide (a0.aY>=0))=true then(if(decide (a0.aY<=a0.aL))=true then(if(decide (a0.aL<=a0.bh))=true then(if(decide (a0.bh<=18014398509481984))=true then((fQ a0.aF 0 1073741823).bind fun x7=>if x7=true then((fQ a0.aH (-1) 1).bind fun x9=>some x9)else(some false))else(some false))else(some false))else(some false))else(some false))else(some false)
def de(a0:ae):Option (Bool):=
  (bV a0).bind fun x1=>some (!x1)
def bt(a0:(List ae)):Int->Option (iN (Int) ((Unit)⊕(Int))):=fun s1=>
  if(decide (s1<(a0.length:Int)))=true then((ja a0 s1).bind fun x4=>(de x4).bind fun x5=>if x5=true then(some (.stop (.inr s1)))else(some (.next (IntKind.wrap .i64 (s1+1)))))else(some (.stop (.inl ())))
def bz(a0:(List ae)):Option (Int):=
  (fq (bt a0) 0).bind fun o8=>match o8 with| .inl _=>(some (-1))| .inr r10=>(some r10)
def bj(a0:(List ae)):Option (Bool):=
  (bz a0).bind fun x1=>some (decide (x1>=0))
def eQ(a0:Int):Option (Bool):=
  if(decide (a0<(-1152921504606846976)))=true then(some true)else(some (decide (a0>1152921504606846976)))
def bC(a0:(List Int)):Int->Option (iN (Int) ((Unit)⊕(Int))):=fun s1=>
  if(decide (s1<(a0.length:Int)))=true then((ja a0 s1).bind fun x4=>(eQ x4).bind fun x5=>if x5=true then(some (.stop (.inr s1)))else(some (.next (IntKind.wrap .i64 (s1+1)))))else(some (.stop (.inl ())))
def bB(a0:(List Int)):Option (Int):=
  (fq (bC a0) 0).bind fun o8=>match o8 with| .inl _=>(some (-1))| .inr r10=>(some r10)
def bv(a0:(List Int)):Option (Bool):=
  (bB a0).bind fun x1=>some (decide (x1>=0))
def dm(a0:(List Int)):Option (Bool):=
  (bv a0).bind fun x1=>some (!x1)
def dl(a0:ah):Option ((List Int)):=
  some [a0.fX,a0.fY,a0.fZ]
def cY(j2:(List Int)):Option ((List Int)):=
  some j2
def dg(a0:Int):Option ((List Int)):=
  if(decide (a0<0))=true then(none)else(if(decide ((IntKind.wrap .i64 (a0-0))>0))=true then((mkZ (IntKind.wrap .i64 (a0-0)) 0 8).bind fun x5=>(subO x5.length 0 0).bind fun _=>cY (x5.take (0:Int).toNat))else(cY ([]:List Int)))
def cd(a0:(List (List Int))):(Int×Int)->Option (iN (Int×Int) (Int)):=fun(s1,s2)=>
  if(decide (s2<(a0.length:Int)))=true then((ja a0 s2).bind fun x6=>if(decide ((IntKind.wrap .i64 (s1+(x6.length:Int)))<0))=true then(none)else(some (.next ((IntKind.wrap .i64 (s1+(x6.length:Int))),(IntKind.wrap .i64 (s2+1))))))else(some (.stop s1))
def bT(a0:(List (List Int))):(Int×(List Int))->Option (iN (Int×(List Int)) ((List Int))):=fun(s11,s12)=>
  if(decide (s11<(a0.length:Int)))=true then((ja a0 s11).bind fun x16=>(lh s12 x16 8).bind fun x17=>some (.next ((IntKind.wrap .i64 (s11+1)),x17)))else(some (.stop s12))
def ch(a0:(List (List Int))):Option ((List Int)):=
  (fq (cd a0) (0,0)).bind fun o9=>(dg o9).bind fun x10=>(fq (bT a0) (0,x10)).bind fun o19=>some o19
def cU(a0:au):Option ((List Int)):=
  (dl a0.ac.aP).bind fun x1=>(dl a0.ac.aD.aX).bind fun x2=>(dl a0.ac.aD.aJ).bind fun x3=>(ch [x1,[a0.ac.aL,a0.ac.aQ,a0.ac.bq],x2,x3,[a0.av.aX,a0.av.aJ,a0.bd]]).bind fun x4=>some x4
def dS(a0:ag):Option (Bool):=
  if(decide (a0.bg<0))=true then(some false)else(if(decide (a0.bg>=1000))=true then(some false)else(if(decide (a0.bk<1))=true then(some false)else(if(decide (a0.bk>3))=true then(some false)else(if(decide (a0.fID<0))=true then(some false)else(if(decide (a0.fID>a0.bg))=true then(some false)else(if(!((a0.fID==a0.bg)==(a0.bk==1)))=true then(some false)else(if(decide (a0.aW<0))=true then(some false)else(if(decide (a0.aW>8))=true then(some false)else(if(decide ((a0.aj.aa.aB.length:Int)>64))=true then(some false)else((bV a0.aj.aq).bind fun x11=>if(!x11)=true then(some false)else((bj a0.aj.aa.aB).bind fun x13=>if x13=true then(some false)else((dm [a0.fAt]).bind fun x15=>if x15=true then((cU a0.aj.aa).bind fun x17=>(dm x17).bind fun x18=>some x18)else(some false)))))))))))))
def cj(x5:ag)(s2:(List (Int×Bool)))(s1:Int):Option (iN (Int×(List (Int×Bool))) ((Unit)⊕(Bool))):=
  if(x5.bk != 1)=true then(if(!(bo (fun a b=>a==b) x5.fID false s2))=true then(some (.stop (.inr false)))else(some (.next ((IntKind.wrap .i64 (s1+1)),(kg (fun a b=>a==b) x5.fID (x5.bk != 3) s2)))))else(some (.next ((IntKind.wrap .i64 (s1+1)),(kg (fun a b=>a==b) x5.fID (x5.bk != 3) s2))))
def bU(a0:(List ag)):(Int×(List (Int×Bool)))->Option (iN (Int×(List (Int×Bool))) ((Unit)⊕(Bool))):=fun(s1,s2)=>
  if(decide (s1<(a0.length:Int)))=true then((ja a0 s1).bind fun x5=>(dS x5).bind fun x9=>if(!x9)=true then(some (.stop (.inr false)))else(if(x5.bg != s1)=true then(some (.stop (.inr false)))else(if(decide (s1>0))=true then((ja a0 (IntKind.wrap .i64 (s1-1))).bind fun x13=>if(decide (x5.fAt<x13.fAt))=true then(some (.stop (.inr false)))else(cj x5 s2 s1))else(cj x5 s2 s1))))else(some (.stop (.inl ())))
def cC(a0:(List ag)):Option (Bool):=
  (fq (bU a0) (0,([]:List (Int×Bool)))).bind fun o16=>match o16 with| .inl _=>(some true)| .inr r18=>(some r18)
def c6(a0:am):Option (Bool):=
  some a0.aI
def bp(a0:(List am)):Int->Option (iN (Int) ((Unit)⊕(Int))):=fun s1=>
  if(decide (s1<(a0.length:Int)))=true then((ja a0 s1).bind fun x4=>(c6 x4).bind fun x5=>if x5=true then(some (.stop (.inr s1)))else(some (.next (IntKind.wrap .i64 (s1+1)))))else(some (.stop (.inl ())))
def cn(a0:(List am)):Option (Int):=
  (fq (bp a0) 0).bind fun o8=>match o8 with| .inl _=>(some (-1))| .inr r10=>(some r10)
def bL:(Int×Int×(List am))->Option (iN (Int×Int×(List am)) (Int×(List am))):=fun(s3,s4,s5)=>
  if(decide (s4<(s5.length:Int)))=true then((inO s5 s4).bind fun _=>(ja s5 s4).bind fun x12=>(c6 x12).bind fun x13=>if(!x13)=true then((inO s5 s3).bind fun _=>(ny s5 s3 x12).bind fun x17=>some (.next ((IntKind.wrap .i64 (s3+1)),(IntKind.wrap .i64 (s4+1)),x17)))else(some (.next (s3,(IntKind.wrap .i64 (s4+1)),s5))))else(some (.stop (s3,s5)))
def cm(d0:(List am)):Option ((List am)):=
  (cn d0).bind fun x1=>if(x1==(-1))=true then(some d0)else((fq (bL) (x1,(IntKind.wrap .i64 (x1+1)),d0)).bind fun o19=>(subO o19.2.length o19.1 (o19.2.length:Int)).bind fun _=>(qP o19.2.length (0+(o19.1:Int).toNat) (0+((o19.2.length:Int):Int).toNat)).bind fun _=>(subO (me o19.2 (0+(o19.1:Int).toNat) ((0+((o19.2.length:Int):Int).toNat)-(0+(o19.1:Int).toNat)) (am.mk 0 false (ae.mk (ap.mk [] [] [] []) 0 0 0 0 0) 0 (ai.mk (ae.mk (ap.mk [] [] [] []) 0 0 0 0 0) (au.mk [] (aA.mk (ah.mk 0 0 0) 0 0 0 (aS.mk (ah.mk 0 0 0) (ah.mk 0 0 0))) (aw.mk 0 0) 0)) 0)).length 0 o19.1).bind fun _=>(p6 (me o19.2 (0+(o19.1:Int).toNat) ((0+((o19.2.length:Int):Int).toNat)-(0+(o19.1:Int).toNat)) (am.mk 0 false (ae.mk (ap.mk [] [] [] []) 0 0 0 0 0) 0 (ai.mk (ae.mk (ap.mk [] [] [] []) 0 0 0 0 0) (au.mk [] (aA.mk (ah.mk 0 0 0) 0 0 0 (aS.mk (ah.mk 0 0 0) (ah.mk 0 0 0))) (aw.mk 0 0) 0)) 0)) (0+(0:Int).toNat) (0+(o19.1:Int).toNat)).bind fun x24=>some x24)
def gQ(a0:(List am)):Option ((List am)):=
  (gG a0).bind fun x1=>(cm x1).bind fun x2=>some x2
def fp(a0:ag):Option (ag):=
  (lS 104 a0.aj.aa.aB).bind fun x1=>some (ag.mk a0.bg a0.bk a0.fID a0.fAt a0.aW (ai.mk a0.aj.aq (au.mk x1 a0.aj.aa.ac a0.aj.aa.av a0.aj.aa.bd)))
def bc(a0:ag)(a1:ag):Option (Int):=
  (bi a0.fID a1.fID).bind fun x1=>some x1
def fA(a0:(List ag)):(Int×(List (Int×Int)))->Option (iN (Int×(List (Int×Int))) ((List (Int×Int)))):=fun(s1,s2)=>
  if(decide (s1<(a0.length:Int)))=true then((ja a0 s1).bind fun x6=>some (.next ((IntKind.wrap .i64 (s1+1)),(kg (fun a b=>a==b) x6.fID s1 s2))))else(some (.stop s2))
def cN(a0:(List ag))(o8:(List (Int×Int))):(Int×(List ag))->Option (iN (Int×(List ag)) ((List ag))):=fun(s9,s10)=>
  if(decide (s9<(a0.length:Int)))=true then((ja a0 s9).bind fun x14=>if((bo (fun a b=>a==b) x14.fID 0 o8)==s9)=true then(if(x14.bk != 3)=true then((fp x14).bind fun x17=>(lh s10 [x17] 288).bind fun x18=>some (.next ((IntKind.wrap .i64 (s9+1)),x18)))else(some (.next ((IntKind.wrap .i64 (s9+1)),s10))))else(some (.next ((IntKind.wrap .i64 (s9+1)),s10))))else(some (.stop s10))
def eh(a0:(List ag)):Option ((List ag)):=
  (fq (fA a0) (0,([]:List (Int×Int)))).bind fun o8=>(fq (cN a0 o8) (0,([]:(List ag)))).bind fun o20=>(oo bc o20).bind fun x21=>some x21
def cX(a0:(List ae))(a1:(List ae)):Int->Option (iN (Int) ((Unit)⊕(Bool))):=fun s2=>
  if(decide (s2<(a0.length:Int)))=true then((ja a0 s2).bind fun x5=>(ja a1 s2).bind fun x6=>if(!(((x5.ar.aM==x6.ar.aM)&&((x5.ar.aN==x6.ar.aN)&&((x5.ar.ac==x6.ar.ac)&&((x5.ar.aO==x6.ar.aO)&&true))))&&((x5.aL==x6.aL)&&((x5.aY==x6.aY)&&((x5.bh==x6.bh)&&((x5.aF==x6.aF)&&((x5.aH==x6.aH)&&true)))))))=true then(some (.stop (.inr false)))else(some (.next (IntKind.wrap .i64 (s2+1)))))else(some (.stop (.inl ())))
def cB(a0:(List ae))(a1:(List ae)):Option (Bool):=
  if((a0.length:Int) != (a1.length:Int))=true then(some false)else((fq (cX a0 a1) 0).bind fun o9=>match o9 with| .inl _=>(some true)| .inr r11=>(some r11))
def eT(a0:au)(a1:au):Option (Bool):=
  (cB a0.aB a1.aB).bind fun x1=>if x1=true then(if(((a0.ac.aP.fX==a1.ac.aP.fX)&&((a0.ac.aP.fY==a1.ac.aP.fY)&&((a0.ac.aP.fZ==a1.ac.aP.fZ)&&true)))&&((a0.ac.aL==a1.ac.aL)&&((a0.ac.aQ==a1.ac.aQ)&&((a0.ac.bq==a1.ac.bq)&&((((a0.ac.aD.aX.fX==a1.ac.aD.aX.fX)&&((a0.ac.aD.aX.fY==a1.ac.aD.aX.fY)&&((a0.ac.aD.aX.fZ==a1.ac.aD.aX.fZ)&&true)))&&(((a0.ac.aD.aJ.fX==a1.ac.aD.aJ.fX)&&((a0.ac.aD.aJ.fY==a1.ac.aD.aJ.fY)&&((a0.ac.aD.aJ.fZ==a1.ac.aD.aJ.fZ)&&true)))&&true))&&true)))))=true then(if((a0.av.aX==a1.av.aX)&&((a0.av.aJ==a1.av.aJ)&&true))=true then(some (a0.bd==a1.bd))else(some false))else(some false))else(some false)
def bO(a0:ai)(a1:ai):Option (Bool):=
  if(((a0.aq.ar.aM==a1.aq.ar.aM)&&((a0.aq.ar.aN==a1.aq.ar.aN)&&((a0.aq.ar.ac==a1.aq.ar.ac)&&((a0.aq.ar.aO==a1.aq.ar.aO)&&true))))&&((a0.aq.aL==a1.aq.aL)&&((a0.aq.aY==a1.aq.aY)&&((a0.aq.bh==a1.aq.bh)&&((a0.aq.aF==a1.aq.aF)&&((a0.aq.aH==a1.aq.aH)&&true))))))=true then((eT a0.aa a1.aa).bind fun x2=>some x2)else(some false)
def cO(a0:Int):Option (ag):=
  (dZ 0).bind fun x1=>some (ag.mk a0 1 a0 7 1 (ai.mk (ae.mk x1 5 4 9 0 (-1)) (au.mk [(ae.mk x1 5 4 9 0 (-1))] (aA.mk (ah.mk 0 0 0) 0 0 0 (aS.mk (ah.mk 0 0 0) (ah.mk 0 0 0))) (aw.mk 0 0) 0)))
def gw(a0:(List Int)):(Int×(List (List UInt8)))->Option (iN (Int×(List (List UInt8))) ((List (List UInt8)))):=fun(s1,s2)=>
  if(decide (s1<(a0.length:Int)))=true then((ja a0 s1).bind fun x5=>(qI x5).bind fun x6=>(lh s2 [x6] 16).bind fun x7=>some (.next ((IntKind.wrap .i64 (s1+1)),x7)))else((some s2).bind fun z8=>some (.stop z8))
def cP(a0:(List Int)):Option ((List (List UInt8))):=
  (fq (gw a0) (0,([]:(List (List UInt8))))).bind fun o10=>some o10
def fO(a0:ap):Option (bN):=
  some (bN.mk a0.aM a0.aN a0.ac a0.aO)
def cJ(a0:ap):Option ((List UInt8)×Int):=
  (ct a0).bind fun x1=>if(!x1)=true then(some (([]:(List UInt8)),1))else((fO a0).bind fun x3=>(pc [x3.a0,x3.a1,x3.a2,x3.a3] ([46]:List UInt8)).bind fun x4=>some (x4,0))
def cp(a0:(List Int)):(Int×(List (List UInt8)))->Option (iN (Int×(List (List UInt8))) ((List (List UInt8)))):=fun(s2,s3)=>
  if(decide (s2<(a0.length:Int)))=true then((ja a0 s2).bind fun x6=>(qI x6).bind fun x7=>(lh s3 [x7] 16).bind fun x8=>some (.next ((IntKind.wrap .i64 (s2+1)),x8)))else((some s3).bind fun z9=>some (.stop z9))
def bD(a0:(List Int))(d1:(List (List UInt8))):Option ((List (List UInt8))):=
  (fq (cp a0) (0,d1)).bind fun o11=>some o11
def dB(a0:ae)(d1:(List (List UInt8))):Option ((List (List UInt8))):=
  (cJ a0.ar).bind fun x1=>(lh d1 [x1.1] 16).bind fun x2=>(bD [a0.aL,a0.aY,a0.bh,a0.aF,a0.aH] x2).bind fun x3=>some x3
def cA(a0:ag):(Int×(List (List UInt8)))->Option (iN (Int×(List (List UInt8))) ((List (List UInt8)))):=fun(s6,s7)=>
  if(decide (s6<(a0.aj.aa.aB.length:Int)))=true then((ja a0.aj.aa.aB s6).bind fun x11=>(dB x11 s7).bind fun x12=>some (.next ((IntKind.wrap .i64 (s6+1)),x12)))else(some (.stop s7))
def cQ(a0:ag):Option ((List UInt8)×Int):=
  (dS a0).bind fun x1=>if(!x1)=true then(some (([]:(List UInt8)),1))else((cP [a0.bg,a0.bk,a0.fID,a0.fAt,a0.aW]).bind fun x3=>(dB a0.aj.aq x3).bind fun x4=>(bD [(a0.aj.aa.aB.length:Int)] x4).bind fun x5=>(fq (cA a0) (0,x5)).bind fun o14=>(cU a0.aj.aa).bind fun x15=>(bD x15 o14).bind fun x16=>(pc x16 ([32]:List UInt8)).bind fun x17=>some (x17,0))
def d8(d0:az):Option ((List UInt8)×az):=
  if((d0.bJ.length:Int)==0)=true then(some (([]:(List UInt8)),(az.mk d0.bJ true)))else((ja d0.bJ 0).bind fun x2=>(cutO d0.bJ 1 (d0.bJ.length:Int)).bind fun x3=>some (x2,(az.mk x3 d0.fbad)))
def aG(d0:az):Option (Int×az):=
  (d8 d0).bind fun x1=>(atoiO x1.1).bind fun x2=>if x1.2.fbad=true then(some (x2.1,(az.mk x1.2.bJ true)))else(if(!x2.2)=true then(some (x2.1,(az.mk x1.2.bJ true)))else((qI x2.1).bind fun x5=>some (x2.1,(az.mk x1.2.bJ (!(x5==x1.1))))))
def cZ(a0:(List UInt8)):Option (ap×Int):=
  (nW a0 ([46]:List UInt8)).bind fun x1=>if((x1.length:Int) != 4)=true then(some ((ap.mk [] [] [] []),3))else((ja x1 0).bind fun x3=>(ja x1 1).bind fun x4=>(ja x1 2).bind fun x5=>(ja x1 3).bind fun x6=>(ct (ap.mk x3 x4 x5 x6)).bind fun x7=>if(!x7)=true then(some ((ap.mk [] [] [] []),3))else(some ((ap.mk x3 x4 x5 x6),0)))
def du(d0:az):Option (ae×az):=
  (d8 d0).bind fun x1=>(cZ x1.1).bind fun x2=>if x1.2.fbad=true then((aG (az.mk x1.2.bJ true)).bind fun x4=>(aG x4.2).bind fun x5=>(aG x5.2).bind fun x6=>(aG x6.2).bind fun x7=>(aG x7.2).bind fun x8=>some ((ae.mk x2.1 x4.1 x5.1 x6.1 x7.1 x8.1),x8.2))else((aG (az.mk x1.2.bJ (x2.2 != 0))).bind fun x9=>(aG x9.2).bind fun x10=>(aG x10.2).bind fun x11=>(aG x11.2).bind fun x12=>(aG x12.2).bind fun x13=>some ((ae.mk x2.1 x9.1 x10.1 x11.1 x12.1 x13.1),x13.2))
def ck(d0:az):Option (ah×az):=
  (aG d0).bind fun x1=>(aG x1.2).bind fun x2=>(aG x2.2).bind fun x3=>some ((ah.mk x1.1 x2.1 x3.1),x3.2)
def cz:(Int×(List (List UInt8))×Bool×(List ae))->Option (iN (Int×(List (List UInt8))×Bool×(List ae)) ((List (List UInt8))×Bool×(List ae))):=fun(s9,s10,s11,s12)=>
  if(decide (s9>0))=true then(if(!s11)=true then((du (az.mk s10 s11)).bind fun x19=>(lh s12 [x19.1] 104).bind fun x20=>some (.next ((IntKind.wrap .i64 (s9-1)),x19.2.bJ,x19.2.fbad,x20)))else(some (.stop (s10,s11,s12))))else(some (.stop (s10,s11,s12)))
def dX(a0:(List UInt8)):Option (ag×Int):=
  (nW a0 ([32]:List UInt8)).bind fun x1=>(aG (az.mk x1 false)).bind fun x2=>(aG x2.2).bind fun x3=>(aG x3.2).bind fun x4=>(aG x4.2).bind fun x5=>(aG x5.2).bind fun x6=>(du x6.2).bind fun x7=>(aG x7.2).bind fun x8=>(fq (cz) (x8.1,x8.2.bJ,x8.2.fbad,([]:(List ae)))).bind fun o22=>(ck (az.mk o22.1 o22.2.1)).bind fun x23=>(aG x23.2).bind fun x24=>(aG x24.2).bind fun x25=>(aG x25.2).bind fun x26=>(ck x26.2).bind fun x27=>(ck x27.2).bind fun x28=>(aG x28.2).bind fun x29=>(aG x29.2).bind fun x30=>(aG x30.2).bind fun x31=>if x31.2.fbad=true then(some ((ag.mk 0 0 0 0 0 (ai.mk (ae.mk (ap.mk [] [] [] []) 0 0 0 0 0) (au.mk [] (aA.mk (ah.mk 0 0 0) 0 0 0 (aS.mk (ah.mk 0 0 0) (ah.mk 0 0 0))) (aw.mk 0 0) 0))),3))else(if(decide ((x31.2.bJ.length:Int)>0))=true then(some ((ag.mk 0 0 0 0 0 (ai.mk (ae.mk (ap.mk [] [] [] []) 0 0 0 0 0) (au.mk [] (aA.mk (ah.mk 0 0 0) 0 0 0 (aS.mk (ah.mk 0 0 0) (ah.mk 0 0 0))) (aw.mk 0 0) 0))),3))else((cQ (ag.mk x2.1 x3.1 x4.1 x5.1 x6.1 (ai.mk x7.1 (au.mk o22.2.2 (aA.mk x23.1 x24.1 x25.1 x26.1 (aS.mk x27.1 x28.1)) (aw.mk x29.1 x30.1) x31.1)))).bind fun x34=>if(x34.2 != 0)=true then(some ((ag.mk 0 0 0 0 0 (ai.mk (ae.mk (ap.mk [] [] [] []) 0 0 0 0 0) (au.mk [] (aA.mk (ah.mk 0 0 0) 0 0 0 (aS.mk (ah.mk 0 0 0) (ah.mk 0 0 0))) (aw.mk 0 0) 0))),3))else(if(!(x34.1==a0))=true then(some ((ag.mk 0 0 0 0 0 (ai.mk (ae.mk (ap.mk [] [] [] []) 0 0 0 0 0) (au.mk [] (aA.mk (ah.mk 0 0 0) 0 0 0 (aS.mk (ah.mk 0 0 0) (ah.mk 0 0 0))) (aw.mk 0 0) 0))),3))else(some ((ag.mk x2.1 x3.1 x4.1 x5.1 x6.1 (ai.mk x7.1 (au.mk o22.2.2 (aA.mk x23.1 x24.1 x25.1 x26.1 (aS.mk x27.1 x28.1)) (aw.mk x29.1 x30.1) x31.1))),0)))))
def bW(a0:ag)(a1:ag):Option (Bool):=
  if(a0.bg==a1.bg)=true then(if(a0.bk==a1.bk)=true then(if(a0.fID==a1.fID)=true then(if(a0.fAt==a1.fAt)=true then(if(a0.aW==a1.aW)=true then((bO a0.aj a1.aj).bind fun x6=>some x6)else(some false))else(some false))else(some false))else(some false))else(some false)
def fC(a0:(List ba)):(Int×(List (Int×ag)))->Option (iN (Int×(List (Int×ag))) ((List (Int×ag)))):=fun(s1,s2)=>
  if(decide (s1<(a0.length:Int)))=true then((ja a0 s1).bind fun x6=>if(ky (fun a b=>a==b) x6.cM s2)=true then(some (.next ((IntKind.wrap .i64 (s1+1)),s2)))else((dX x6.fData).bind fun x8=>if(x8.2==0)=true then(if(x8.1.bg==x6.cM)=true then(some (.next ((IntKind.wrap .i64 (s1+1)),(kg (fun a b=>a==b) x6.cM x8.1 s2))))else(some (.next ((IntKind.wrap .i64 (s1+1)),s2))))else(some (.next ((IntKind.wrap .i64 (s1+1)),s2)))))else(some (.stop s2))
def hP(o12:(List (Int×ag))):(Int×(List ag))->Option (iN (Int×(List ag)) ((List ag))):=fun(s13,s14)=>
  if(!(ky (fun a b=>a==b) s13 o12))=true then(some (.stop s14))else((lh s14 [(ag.mk ((bo (fun a b=>a==b) s13 (ag.mk 0 0 0 0 0 (ai.mk (ae.mk (ap.mk [] [] [] []) 0 0 0 0 0) (au.mk [] (aA.mk (ah.mk 0 0 0) 0 0 0 (aS.mk (ah.mk 0 0 0) (ah.mk 0 0 0))) (aw.mk 0 0) 0))) o12).bg) ((bo (fun a b=>a==b) s13 (ag.mk 0 0 0 0 0 (ai.mk (ae.mk (ap.mk [] [] [] []) 0 0 0 0 0) (au.mk [] (aA.mk (ah.mk 0 0 0) 0 0 0 (aS.mk (ah.mk 0 0 0) (ah.mk 0 0 0))) (aw.mk 0 0) 0))) o12).bk) ((bo (fun a b=>a==b) s13 (ag.mk 0 0 0 0 0 (ai.mk (ae.mk (ap.mk [] [] [] []) 0 0 0 0 0) (au.mk [] (aA.mk (ah.mk 0 0 0) 0 0 0 (aS.mk (ah.mk 0 0 0) (ah.mk 0 0 0))) (aw.mk 0 0) 0))) o12).fID) ((bo (fun a b=>a==b) s13 (ag.mk 0 0 0 0 0 (ai.mk (ae.mk (ap.mk [] [] [] []) 0 0 0 0 0) (au.mk [] (aA.mk (ah.mk 0 0 0) 0 0 0 (aS.mk (ah.mk 0 0 0) (ah.mk 0 0 0))) (aw.mk 0 0) 0))) o12).fAt) ((bo (fun a b=>a==b) s13 (ag.mk 0 0 0 0 0 (ai.mk (ae.mk (ap.mk [] [] [] []) 0 0 0 0 0) (au.mk [] (aA.mk (ah.mk 0 0 0) 0 0 0 (aS.mk (ah.mk 0 0 0) (ah.mk 0 0 0))) (aw.mk 0 0) 0))) o12).aW) (ai.mk (ae.mk ((((bo (fun a b=>a==b) s13 (ag.mk 0 0 0 0 0 (ai.mk (ae.mk (ap.mk [] [] [] []) 0 0 0 0 0) (au.mk [] (aA.mk (ah.mk 0 0 0) 0 0 0 (aS.mk (ah.mk 0 0 0) (ah.mk 0 0 0))) (aw.mk 0 0) 0))) o12).aj).aq).ar) ((((bo (fun a b=>a==b) s13 (ag.mk 0 0 0 0 0 (ai.mk (ae.mk (ap.mk [] [] [] []) 0 0 0 0 0) (au.mk [] (aA.mk (ah.mk 0 0 0) 0 0 0 (aS.mk (ah.mk 0 0 0) (ah.mk 0 0 0))) (aw.mk 0 0) 0))) o12).aj).aq).aL) ((((bo (fun a b=>a==b) s13 (ag.mk 0 0 0 0 0 (ai.mk (ae.mk (ap.mk [] [] [] []) 0 0 0 0 0) (au.mk [] (aA.mk (ah.mk 0 0 0) 0 0 0 (aS.mk (ah.mk 0 0 0) (ah.mk 0 0 0))) (aw.mk 0 0) 0))) o12).aj).aq).aY) ((((bo (fun a b=>a==b) s13 (ag.mk 0 0 0 0 0 (ai.mk (ae.mk (ap.mk [] [] [] []) 0 0 0 0 0) (au.mk [] (aA.mk (ah.mk 0 0 0) 0 0 0 (aS.mk (ah.mk 0 0 0) (ah.mk 0 0 0))) (aw.mk 0 0) 0))) o12).aj).aq).bh) ((((bo (fun a b=>a==b) s13 (ag.mk 0 0 0 0 0 (ai.mk (ae.mk (ap.mk [] [] [] []) 0 0 0 0 0) (au.mk [] (aA.mk (ah.mk 0 0 0) 0 0 0 (aS.mk (ah.mk 0 0 0) (ah.mk 0 0 0))) (aw.mk 0 0) 0))) o12).aj).aq).aF) ((((bo (fun a b=>a==b) s13 (ag.mk 0 0 0 0 0 (ai.mk (ae.mk (ap.mk [] [] [] []) 0 0 0 0 0) (au.mk [] (aA.mk (ah.mk 0 0 0) 0 0 0 (aS.mk (ah.mk 0 0 0) (ah.mk 0 0 0))) (aw.mk 0 0) 0))) o12).aj).aq).aH)) (au.mk ((((bo (fun a b=>a==b) s13 (ag.mk 0 0 0 0 0 (ai.mk (ae.mk (ap.mk [] [] [] []) 0 0 0 0 0) (au.mk [] (aA.mk (ah.mk 0 0 0) 0 0 0 (aS.mk (ah.mk 0 0 0) (ah.mk 0 0 0))) (aw.mk 0 0) 0))) o12).aj).aa).aB) (aA.mk (((((bo (fun a b=>a==b) s13 (ag.mk 0 0 0 0 0 (ai.mk (ae.mk (ap.mk [] [] [] []) 0 0 0 0 0) (au.mk [] (aA.mk (ah.mk 0 0 0) 0 0 0 (aS.mk (ah.mk 0 0 0) (ah.mk 0 0 0))) (aw.mk 0 0) 0))) o12).aj).aa).ac).aP) (((((bo (fun a b=>a==b) s13 (ag.mk 0 0 0 0 0 (ai.mk (ae.mk (ap.mk [] [] [] []) 0 0 0 0 0) (au.mk [] (aA.mk (ah.mk 0 0 0) 0 0 0 (aS.mk (ah.mk 0 0 0) (ah.mk 0 0 0))) (aw.mk 0 0) 0))) o12).aj).aa).ac).aL) (((((bo (fun a b=>a==b) s13 (ag.mk 0 0 0 0 0 (ai.mk (ae.mk (ap.mk [] [] [] []) 0 0 0 0 0) (au.mk [] (aA.mk (ah.mk 0 0 0) 0 0 0 (aS.mk (ah.mk 0 0 0) (ah.mk 0 0 0))) (aw.mk 0 0) 0))) o12).aj).aa).ac).aQ) (((((bo (fun a b=>a==b) s13 (ag.mk 0 0 0 0 0 (ai.mk (ae.mk (ap.mk [] [] [] []) 0 0 0 0 0) (au.mk [] (aA.mk (ah.mk 0 0 0) 0 0 0 (aS.mk (ah.mk 0 0 0) (ah.mk 0 0 0))) (aw.mk 0 0) 0))) o12).aj).aa).ac).bq) (aS.mk ((((((bo (fun a b=>a==b) s13 (ag.mk 0 0 0 0 0 (ai.mk (ae.mk (ap.mk [] [] [] []) 0 0 0 0 0) (au.mk [] (aA.mk (ah.mk 0 0 0) 0 0 0 (aS.mk (ah.mk 0 0 0) (ah.mk 0 0 0))) (aw.mk 0 0) 0))) o12).aj).aa).ac).aD).aX) ((((((bo (fun a b=>a==b) s13 (ag.mk 0 0 0 0 0 (ai.mk (ae.mk (ap.mk [] [] [] []) 0 0 0 0 0) (au.mk [] (aA.mk (ah.mk 0 0 0) 0 0 0 (aS.mk (ah.mk 0 0 0) (ah.mk 0 0 0))) (aw.mk 0 0) 0))) o12).aj).aa).ac).aD).aJ))) ((((bo (fun a b=>a==b) s13 (ag.mk 0 0 0 0 0 (ai.mk (ae.mk (ap.mk [] [] [] []) 0 0 0 0 0) (au.mk [] (aA.mk (ah.mk 0 0 0) 0 0 0 (aS.mk (ah.mk 0 0 0) (ah.mk 0 0 0))) (aw.mk 0 0) 0))) o12).aj).aa).av) ((((bo (fun a b=>a==b) s13 (ag.mk 0 0 0 0 0 (ai.mk (ae.mk (ap.mk [] [] [] []) 0 0 0 0 0) (au.mk [] (aA.mk (ah.mk 0 0 0) 0 0 0 (aS.mk (ah.mk 0 0 0) (ah.mk 0 0 0))) (aw.mk 0 0) 0))) o12).aj).aa).bd))))] 288).bind fun x17=>some (.next ((IntKind.wrap .i64 (s13+1)),x17)))
def gm(a0:(List ba)):Option ((List ag)):=
  (fq (fC a0) (0,([]:List (Int×ag)))).bind fun o12=>(fq (hP o12) (0,([]:(List ag)))).bind fun o19=>some o19
def d7:Option (Bool):=
  (cO 0).bind fun x1=>(cQ x1).bind fun x2=>(cO 2).bind fun x3=>(cQ x3).bind fun x4=>(dX x2.1).bind fun x5=>(catO x2.1 [32]).bind fun x6=>(dX x6).bind fun x7=>if(x2.2==0)=true then(if(x4.2==0)=true then(if(x5.2==0)=true then((cO 0).bind fun x11=>(bW x5.1 x11).bind fun x12=>if x12=true then(if(x7.2==3)=true then((gm [(ba.mk 2 0 x4.1),(ba.mk 0 0 x2.1)]).bind fun x15=>if((x15.length:Int)==1)=true then((cO 0).bind fun x17=>(cO 1).bind fun x18=>(cC [x17,x18]).bind fun x19=>some x19)else(some false))else(some false))else(some false))else(some false))else(some false))else(some false)
def dp(x2:aC×ak):((List am)×Int×Int×(List Int)×Int×(List ag))->Option (iN ((List am)×Int×Int×(List Int)×Int×(List ag)) (((List am)×(List ag))⊕(Bool))):=fun(s3,s4,s5,s6,s7,s8)=>
  if(decide (s5<7))=true then((dW 300 (ak.mk s6 s7)).bind fun x13=>(eK 4 x13.2).bind fun x14=>(gR x2.1 s3 (s8.length:Int) x14.1 (IntKind.wrap .i64 (s4+x13.1))).bind fun x15=>if(x15.2.2 != 0)=true then(some (.stop (.inr false)))else((lh s8 x15.2.1 288).bind fun x17=>some (.next (x15.1,(IntKind.wrap .i64 (s4+x13.1)),(IntKind.wrap .i64 (s5+1)),x14.2.fL,x14.2.fAt,x17))))else(some (.stop (.inl (s3,s8))))
def dq(x28:(List am))(x29:(List ag)):Int->Option (iN (Int) ((Unit)⊕(Bool))):=fun s31=>
  if(decide (s31<(x28.length:Int)))=true then((ja x29 s31).bind fun x34=>(ja x28 s31).bind fun x35=>if(x34.fID != x35.fID)=true then(some (.stop (.inr false)))else((ja x28 s31).bind fun x37=>if(x34.aW != x37.aW)=true then(some (.stop (.inr false)))else((ja x28 s31).bind fun x39=>if(x34.fAt != x39.fAt)=true then(some (.stop (.inr false)))else((ja x28 s31).bind fun x41=>(bO x34.aj x41.aj).bind fun x42=>if(!x42)=true then(some (.stop (.inr false)))else(some (.next (IntKind.wrap .i64 (s31+1))))))))else(some (.stop (.inl ())))
def eS(a0:(List Int))(a1:Int):Option (Bool):=
  (iM a0).bind fun x1=>(eL x1).bind fun x2=>(fq (dp x2) (([]:(List am)),1000,0,x2.2.fL,x2.2.fAt,([]:(List ag)))).bind fun o19=>match o19 with| .inl y20=>((cC y20.2).bind fun x22=>if(!x22)=true then(some false)else((gL a1 (IntKind.wrap .i64 ((y20.2.length:Int)+1))).bind fun x24=>(cutO y20.2 0 x24).bind fun x25=>(cC x25).bind fun x26=>if(!x26)=true then(some false)else((gQ y20.1).bind fun x28=>(eh y20.2).bind fun x29=>if((x28.length:Int) != (x29.length:Int))=true then(some false)else((fq (dq x28 x29) 0).bind fun o45=>match o45 with| .inl _=>((d7 ).bind fun x48=>some x48)| .inr r47=>(some r47)))))| .inr r21=>(some r21)
end
end Go.Dw.Fa
