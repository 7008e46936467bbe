
import Derived.Test.YtgiepghgloiinaaGreatDoorDwLift4
import Derived.Test.YtgiepghgloiinaaGreatDoorDwDeepL
import Derived.Test.YtgiepghgloiinaaGreatDoorDwSort
import Derived.Test.YtgiepghgloiinaaGreatDoorDwSplit
set_option linter.unusedVariables false
set_option linter.unusedSimpArgs false
open Go.IntKind renaming wrap->CH
open Int renaming toNat->CI

namespace Go.Dw.Ix
open Go.Dw
noncomputable section
structure ac where
  aD:(List UInt8)
  aC:(List UInt8)
  au:(List UInt8)
  aF:(List UInt8)
  deriving DecidableEq
def ac.pd(x:ac):PD:= .agg [.str x.aD,.str x.aC,.str x.au,.str x.aF]
structure av where
  aI:Int
  aH:Int
  deriving DecidableEq
def av.pd(x:av):PD:= .agg [.int .i64 x.aI,.int .i64 x.aH]
structure aw where
  fX:Int
  fY:Int
  fZ:Int
  deriving DecidableEq
def aw.pd(x:aw):PD:= .agg [.int .i64 x.fX,.int .i64 x.fY,.int .i64 x.fZ]
structure aK where
  a0:Int
  a1:Int
  a2:Int
  deriving DecidableEq
def aK.pd(x:aK):PD:= .agg [.int .i64 x.a0,.int .i64 x.a1,.int .i64 x.a2]
structure ak where
  aQ:Int
  aI:aK
  aH:aK
  aO:(List Int)
  aJ:Int
  aS:Int
  deriving DecidableEq
def ak.pd(x:ak):PD:= .agg [.int .i64 x.aQ,.int .i64 x.aI.a0,.int .i64 x.aI.a1,.int .i64 x.aI.a2,.int .i64 x.aH.a0,.int .i64 x.aH.a1,.int .i64 x.aH.a2,.lst (x.aO.map (PD.int .i64)),.int .i64 x.aJ,.int .i64 x.aS]
structure ar where
  aA:(List ak)
  deriving DecidableEq
def ar.pd(x:ar):PD:= .agg [.lst (x.aA.map ak.pd)]
structure ah where
  az:Int
  fTo:Int
  aM:av
  aq:aw
  aB:ar
  deriving DecidableEq
def ah.pd(x:ah):PD:= .agg [.int .i64 x.az,.int .i64 x.fTo,.int .i64 x.aM.aI,.int .i64 x.aM.aH,.int .i64 x.aq.fX,.int .i64 x.aq.fY,.int .i64 x.aq.fZ,.lst (x.aB.aA.map ak.pd)]
structure aa where
  aj:ac
  al:(List ah)
  deriving DecidableEq
def aa.pd(x:aa):PD:= .agg [.str x.aj.aD,.str x.aj.aC,.str x.aj.au,.str x.aj.aF,.lst (x.al.map ah.pd)]
structure ai where
  am:(List aa)
  deriving DecidableEq
def ai.pd(x:ai):PD:= .agg [.lst (x.am.map aa.pd)]
structure ap where
  az:Int
  fTo:Int
  deriving DecidableEq
def ap.pd(x:ap):PD:= .agg [.int .i64 x.az,.int .i64 x.fTo]
structure ae where
  fL:(List Int)
  fAt:Int
  deriving DecidableEq
def ae.pd(x:ae):PD:= .agg [.lst (x.fL.map (PD.int .i64)),.int .i64 x.fAt]
structure aG where
  aQ:Int
  aj:ac
  az:Int
  bi:ah
  deriving DecidableEq
def aG.pd(x:aG):PD:= .agg [.int .i64 x.aQ,.str x.aj.aD,.str x.aj.aC,.str x.aj.au,.str x.aj.aF,.int .i64 x.az,.int .i64 x.bi.az,.int .i64 x.bi.fTo,.int .i64 x.bi.aM.aI,.int .i64 x.bi.aM.aH,.int .i64 x.bi.aq.fX,.int .i64 x.bi.aq.fY,.int .i64 x.bi.aq.fZ,.lst (x.bi.aB.aA.map ak.pd)]
structure A4_Int where
  a0:Int
  a1:Int
  a2:Int
  a3:Int
  deriving DecidableEq
def A4_Int.pd(x:A4_Int):PD:= .agg [.int .i64 x.a0,.int .i64 x.a1,.int .i64 x.a2,.int .i64 x.a3]
structure bd where
  a0:(List UInt8)
  a1:(List UInt8)
  a2:(List UInt8)
  a3:(List UInt8)
  deriving DecidableEq
def bd.pd(x:bd):PD:= .agg [.str x.a0,.str x.a1,.str x.a2,.str x.a3]
def jy(a0:(List Int)):Option (Bool):=
  some (decide ((a0.length:Int)<=500))
def fK:Option (ai):=
  some (ai.mk [(aa.mk (ac.mk [65] [66] [] [72,72,90]) [(ah.mk 10 20 (av.mk 100 1) (aw.mk 0 0 0) (ar.mk [])),(ah.mk 20 30 (av.mk 100 1) (aw.mk 5 0 0) (ar.mk []))])])
def dH(a0:Int):Option (Bool):=
  if(decide (a0>=65))=true then(if(decide (a0<=90))=true then(some true)else(if(decide (a0>=48))=true then(some (decide (a0<=57)))else(some false)))else(if(decide (a0>=48))=true then(some (decide (a0<=57)))else(some false))
def cv(a0:(List UInt8)):Int->Option (jY (Int) ((Unit)⊕(Bool))):=fun s1=>
  if(decide (s1<(a0.length:Int)))=true then((lr a0 s1).bind fun a=>(dH a).bind fun b=>if(!b)=true then(some (.stop (.inr false)))else(some (.next (CH .i64 (s1+1)))))else(some (.stop (.inl ())))
def cu(a0:(List UInt8))(a1:Int)(a2:Int):Option (Bool):=
  (cI (cv a0) 0).bind fun b=>match b with| .inl _=>(if(decide ((a0.length:Int)>=a1))=true then(some (decide ((a0.length:Int)<=a2)))else(some false))| .inr a=>(some a)
def cC(a0:ac):Option (Bool):=
  (cu a0.aD 1 2).bind fun a=>if a=true then((cu a0.aC 1 5).bind fun b=>if b=true then((cu a0.au 0 2).bind fun c=>if c=true then(if((a0.au.length:Int) != 1)=true then((cu a0.aF 3 3).bind fun e=>some e)else(some false))else(some false))else(some false))else(some false)
def iD(a0:Int)(a1:Int)(a2:Int):Option (Bool):=
  if(decide (a0>=a1))=true then(some (decide (a0<=a2)))else(some false)
def hJ:(Int×Int)->Option (jY (Int×Int) (Int)):=fun(s1,s2)=>
  if(s2 != 0)=true then((rb s1 s2).bind fun a=>some (.next (s2,a)))else(some (.stop s1))
def gO(a0:Int)(a1:Int):Option (Int):=
  (cI (hJ) (a0,a1)).bind fun a=>some a
def fM(a0:av):Option (Bool):=
  (iD a0.aI 1 4096).bind fun a=>if a=true then((iD a0.aH 1 4096).bind fun b=>if b=true then((gO a0.aI a0.aH).bind fun c=>some (c==1))else(some false))else(some false)
def aU(a0:Int)(a1:Int)(a2:Int):Option (Bool):=
  if(decide (a0>=a1))=true then(some (decide (a0<=a2)))else(some false)
def eC(a0:Int):Option (Bool):=
  (aU a0 (-1048576) 1048576).bind fun a=>some (!a)
def bu(a0:(List Int)):Int->Option (jY (Int) ((Unit)⊕(Int))):=fun s1=>
  if(decide (s1<(a0.length:Int)))=true then((jB a0 s1).bind fun a=>(eC a).bind fun b=>if b=true then(some (.stop (.inr s1)))else(some (.next (CH .i64 (s1+1)))))else(some (.stop (.inl ())))
def bI(a0:(List Int)):Option (Int):=
  (cI (bu a0) 0).bind fun b=>match b with| .inl _=>(some (-1))| .inr a=>(some a)
def bt(a0:(List Int)):Option (Bool):=
  (bI a0).bind fun a=>some (decide (a>=0))
def bM(a0:(List Int)):Option (Bool):=
  (bt a0).bind fun a=>some (!a)
def eT(a0:(List Int)):(Int×Int)->Option (jY (Int×Int) (Int)):=fun(s1,s2)=>
  if(decide (s2<(a0.length:Int)))=true then((jB a0 s2).bind fun a=>some (.next ((CH .i64 (s1+a)),(CH .i64 (s2+1)))))else(some (.stop s1))
def co(a0:(List Int)):Option (Int):=
  (cI (eT a0) (0,0)).bind fun a=>some a
def b9(a0:ak):Option (Bool):=
  if((a0.aO.length:Int)==0)=true then(if(a0.aJ==0)=true then(if(a0.aQ==0)=true then(if(a0.aS==0)=true then(if((a0.aI.a0==a0.aI.a0)&&((a0.aI.a1==0)&&((a0.aI.a2==0)&&true)))=true then(if((a0.aH.a0==a0.aH.a0)&&((a0.aH.a1==0)&&((a0.aH.a2==0)&&true)))=true then((aU a0.aI.a0 1 1048576).bind fun t=>if t=true then((aU a0.aH.a0 1 1048576).bind fun u=>some u)else(some false))else(some false))else(some false))else(some false))else(if(a0.aQ==1)=true then(if(a0.aS==0)=true then((bM [a0.aI.a0,a0.aI.a1,a0.aI.a2]).bind fun a=>if a=true then((bM [a0.aH.a0,a0.aH.a1,a0.aH.a2]).bind fun b=>if b=true then(some (a0.aH.a0 != 0))else(some false))else(some false))else(some false))else(if(a0.aQ==2)=true then(if((a0.aI.a0==0)&&((a0.aI.a1==0)&&((a0.aI.a2==0)&&true)))=true then(if((a0.aH.a0==0)&&((a0.aH.a1==0)&&((a0.aH.a2==0)&&true)))=true then((aU (a0.aO.length:Int) 1 128).bind fun c=>if c=true then((bM a0.aO).bind fun e=>if e=true then((co a0.aO).bind fun f=>if(f != 0)=true then((aU a0.aJ 1 64).bind fun g=>if g=true then((aU a0.aS 0 40).bind fun i=>some i)else(some false))else(some false))else(some false))else(some false))else(some false))else(some false))else(some false))))else(if(a0.aQ==0)=true then(some false)else(if(a0.aQ==1)=true then(some false)else(if(a0.aQ==2)=true then(if((a0.aI.a0==0)&&((a0.aI.a1==0)&&((a0.aI.a2==0)&&true)))=true then(if((a0.aH.a0==0)&&((a0.aH.a1==0)&&((a0.aH.a2==0)&&true)))=true then((aU (a0.aO.length:Int) 1 128).bind fun j=>if j=true then((bM a0.aO).bind fun k=>if k=true then((co a0.aO).bind fun l=>if(l != 0)=true then((aU a0.aJ 1 64).bind fun m=>if m=true then((aU a0.aS 0 40).bind fun n=>some n)else(some false))else(some false))else(some false))else(some false))else(some false))else(some false))else(some false)))))else(if(a0.aQ==0)=true then(some false)else(if(a0.aQ==1)=true then(some false)else(if(a0.aQ==2)=true then(if((a0.aI.a0==0)&&((a0.aI.a1==0)&&((a0.aI.a2==0)&&true)))=true then(if((a0.aH.a0==0)&&((a0.aH.a1==0)&&((a0.aH.a2==0)&&true)))=true then((aU (a0.aO.length:Int) 1 128).bind fun o=>if o=true then((bM a0.aO).bind fun p=>if p=true then((co a0.aO).bind fun q=>if(q != 0)=true then((aU a0.aJ 1 64).bind fun r=>if r=true then((aU a0.aS 0 40).bind fun s=>some s)else(some false))else(some false))else(some false))else(some false))else(some false))else(some false))else(some false))))
def cz(a0:ak):Option (Bool):=
  (b9 a0).bind fun a=>some (!a)
def a6(a0:(List ak)):Int->Option (jY (Int) ((Unit)⊕(Int))):=fun s1=>
  if(decide (s1<(a0.length:Int)))=true then((jB a0 s1).bind fun a=>(cz a).bind fun b=>if b=true then(some (.stop (.inr s1)))else(some (.next (CH .i64 (s1+1)))))else(some (.stop (.inl ())))
def bC(a0:(List ak)):Option (Int):=
  (cI (a6 a0) 0).bind fun b=>match b with| .inl _=>(some (-1))| .inr a=>(some a)
def aZ(a0:(List ak)):Option (Bool):=
  (bC a0).bind fun a=>some (decide (a>=0))
def dE(a0:(List ak)):(Int×Int)->Option (jY (Int×Int) ((Int)⊕(Int))):=fun(s1,s2)=>
  if(decide (s2<(a0.length:Int)))=true then((jB a0 s2).bind fun a=>if(a.aQ != 2)=true then(some (.next (s1,(CH .i64 (s2+1)))))else(if(decide ((CH .i64 (s1*a.aJ))>64))=true then(some (.stop (.inr 0)))else(some (.next ((CH .i64 (s1*a.aJ)),(CH .i64 (s2+1)))))))else(some (.stop (.inl s1)))
def cX(a0:(List ak)):Option (Int):=
  (cI (dE a0) (1,0)).bind fun a=>match a with| .inl c=>(some c)| .inr b=>(some b)
def dt(a0:ar):Option (Bool):=
  if(decide ((a0.aA.length:Int)>8))=true then(some false)else((aZ a0.aA).bind fun x2=>if x2=true then(some false)else((cX a0.aA).bind fun a=>some (decide (a>0))))
def cm(a0:Int)(a1:Int)(a2:Int):Option (Bool):=
  if(decide (a0>=a1))=true then(some (decide (a0<=a2)))else(some false)
def bD(a0:ah):Option (Bool):=
  if(decide (a0.az>=0))=true then(if(decide (a0.az<a0.fTo))=true then(if(decide (a0.fTo<=9007199254740992))=true then((fM a0.aM).bind fun c=>if c=true then((dt a0.aB).bind fun e=>if e=true then((cm a0.aq.fX (-1048576) 1048576).bind fun f=>if f=true then((cm a0.aq.fY (-1048576) 1048576).bind fun a=>if a=true then((cm a0.aq.fZ (-16384) 1048576).bind fun b=>some b)else(some false))else(some false))else(some false))else(some false))else(some false))else(some false))else(some false)
def bQ(a0:(List ah)):Int->Option (jY (Int) ((Unit)⊕(Bool))):=fun s1=>
  if(decide (s1<(a0.length:Int)))=true then((jB a0 s1).bind fun a=>(bD a).bind fun b=>if(!b)=true then(some (.stop (.inr false)))else(if(decide (s1>0))=true then((jB a0 (CH .i64 (s1-1))).bind fun c=>if(decide (a.az<c.fTo))=true then(some (.stop (.inr false)))else(some (.next (CH .i64 (s1+1)))))else(some (.next (CH .i64 (s1+1))))))else(some (.stop (.inl ())))
def cG(a0:(List ah)):Option (Bool):=
  (cI (bQ a0) 0).bind fun a=>match a with| .inl _=>((cm (a0.length:Int) 1 32).bind fun c=>some c)| .inr b=>(some b)
def dp(a0:(List UInt8)):Option (Bool):=
  some (!(a0==a0))
def aW(a0:(List UInt8))(a1:(List UInt8)):Option (Int):=
  (dp a0).bind fun a=>(dp a1).bind fun x2=>if a=true then(if x2=true then(some 0)else(some (-1)))else(if x2=true then(some 1)else(if(Op.bytesLess a0 a1)=true then(some (-1))else(if(!(Op.bytesLess a0 a1||a0==a1))=true then(some 1)else(some 0))))
def a7(a0:(List Int)):Int->Option (jY (Int) ((Unit)⊕(Int))):=fun s1=>
  if(decide (s1<(a0.length:Int)))=true then((jB a0 s1).bind fun a=>if(a != 0)=true then(some (.stop (.inr a)))else(some (.next (CH .i64 (s1+1)))))else(some (.stop (.inl ())))
def fJ(a0:(List Int)):Option (Int):=
  (cI (a7 a0) 0).bind fun a=>match a with| .inl _=>(some 0)| .inr b=>(some b)
def bv(a0:ac)(a1:ac):Option (Int):=
  (aW a0.aD a1.aD).bind fun a=>(aW a0.aC a1.aC).bind fun x2=>(aW a0.au a1.au).bind fun b=>(aW a0.aF a1.aF).bind fun c=>(fJ [a,x2,b,c]).bind fun e=>some e
def b8(a0:ai):Int->Option (jY (Int) ((Unit)⊕(Bool))):=fun s1=>
  if(decide (s1<(a0.am.length:Int)))=true then((jB a0.am s1).bind fun c=>(cC c.aj).bind fun e=>if(!e)=true then(some (.stop (.inr false)))else((cG c.al).bind fun f=>if(!f)=true then(some (.stop (.inr false)))else(if(decide (s1>0))=true then((jB a0.am (CH .i64 (s1-1))).bind fun a=>(bv a.aj c.aj).bind fun b=>if(decide (b>=0))=true then(some (.stop (.inr false)))else(some (.next (CH .i64 (s1+1)))))else(some (.next (CH .i64 (s1+1)))))))else(some (.stop (.inl ())))
def bg(a0:ai):Option (Bool):=
  (cI (b8 a0) 0).bind fun a=>match a with| .inl _=>(some (decide ((a0.am.length:Int)<=128)))| .inr b=>(some b)
def bP(f:(List ak)):(Int×(List ak))->Option (jY (Int×(List ak)) ((List ak))):=fun(s2,b)=>
  if(decide (s2<(f.length:Int)))=true then((inO b s2).bind fun _=>(jB b s2).bind fun g=>(nk 8 g.aO).bind fun c=>(inO b s2).bind fun _=>(oT b s2 (fun(a:ak)=>(ak.mk a.aQ a.aI a.aH c a.aJ a.aS))).bind fun e=>some (.next ((CH .i64 (s2+1)),e)))else(some (.stop b))
def dj(a0:ah):Option (ah):=
  (nk 96 a0.aB.aA).bind fun b=>(cI (bP b) (0,b)).bind fun a=>some (ah.mk a0.az a0.fTo a0.aM a0.aq (ar.mk a))
def cp(e:(List ah)):(Int×(List ah))->Option (jY (Int×(List ah)) ((List ah))):=fun(s2,a)=>
  if(decide (s2<(e.length:Int)))=true then((inO a s2).bind fun _=>(jB a s2).bind fun f=>(dj f).bind fun b=>(inO a s2).bind fun _=>(tC a s2 b).bind fun c=>some (.next ((CH .i64 (s2+1)),c)))else(some (.stop a))
def et(a0:aa):Option (aa):=
  (nk 80 a0.al).bind fun b=>(cI (cp b) (0,b)).bind fun a=>some (aa.mk a0.aj a)
def bX(a0:ai)(a1:ac):Int->Option (jY (Int) ((Unit)⊕(aa×Bool))):=fun s1=>
  if(decide (s1<(a0.am.length:Int)))=true then((jB a0.am s1).bind fun a=>if((a.aj.aD==a1.aD)&&((a.aj.aC==a1.aC)&&((a.aj.au==a1.au)&&((a.aj.aF==a1.aF)&&true))))=true then((et a).bind fun b=>some (.stop (.inr (b,true))))else(some (.next (CH .i64 (s1+1)))))else(some (.stop (.inl ())))
def bW(a0:ai)(a1:ac):Option (aa×Bool):=
  (cI (bX a0 a1) 0).bind fun b=>match b with| .inl _=>(some ((aa.mk (ac.mk [] [] [] []) []),false))| .inr a=>(some a)
def cV(a0:aa)(a1:Int):Int->Option (jY (Int) ((Unit)⊕(ah×Bool))):=fun s1=>
  if(decide (s1<(a0.al.length:Int)))=true then((jB a0.al s1).bind fun a=>if(decide (a.az<=a1))=true then(if(decide (a1<a.fTo))=true then(some (.stop (.inr (a,true))))else(some (.next (CH .i64 (s1+1)))))else(some (.next (CH .i64 (s1+1)))))else(some (.stop (.inl ())))
def db(a0:aa)(a1:Int):Option (ah×Bool):=
  (cI (cV a0 a1) 0).bind fun b=>match b with| .inl _=>(some ((ah.mk 0 0 (av.mk 0 0) (aw.mk 0 0 0) (ar.mk [])),false))| .inr a=>(some a)
def da(a0:ai)(a1:ac)(a2:Int):Option (ah×Int):=
  (bg a0).bind fun b=>if(!b)=true then(some ((ah.mk 0 0 (av.mk 0 0) (aw.mk 0 0 0) (ar.mk [])),1))else((bW a0 a1).bind fun c=>(db c.1 a2).bind fun a=>if(!a.2)=true then(some ((ah.mk 0 0 (av.mk 0 0) (aw.mk 0 0 0) (ar.mk [])),6))else(some (a.1,0)))
def span_some(a0:ap):Option (Bool):=
  some (decide (a0.az<a0.fTo))
def eB(a0:ap):Option (Bool):=
  (span_some a0).bind fun a=>some (!a)
def bp(a0:(List ap)):Int->Option (jY (Int) ((Unit)⊕(Int))):=fun s1=>
  if(decide (s1<(a0.length:Int)))=true then((jB a0 s1).bind fun a=>(eB a).bind fun b=>if b=true then(some (.stop (.inr s1)))else(some (.next (CH .i64 (s1+1)))))else(some (.stop (.inl ())))
def cO(a0:(List ap)):Option (Int):=
  (cI (bp a0) 0).bind fun b=>match b with| .inl _=>(some (-1))| .inr a=>(some a)
def fH:(Int×Int×(List ap))->Option (jY (Int×Int×(List ap)) (Int×(List ap))):=fun(b,c,a)=>
  if(decide (c<(a.length:Int)))=true then((inO a c).bind fun _=>(jB a c).bind fun e=>(eB e).bind fun f=>if(!f)=true then((inO a b).bind fun _=>(tC a b e).bind fun g=>some (.next ((CH .i64 (b+1)),(CH .i64 (c+1)),g)))else(some (.next (b,(CH .i64 (c+1)),a))))else(some (.stop (b,a)))
def bS(d0:(List ap)):Option ((List ap)):=
  (cO d0).bind fun b=>if(b==(-1))=true then(some d0)else((cI (fH) (b,(CH .i64 (b+1)),d0)).bind fun a=>(oK a.2.length a.1 (a.2.length:Int)).bind fun _=>(rX a.2.length (0+(a.1:Int).toNat) (0+((a.2.length:Int):Int).toNat)).bind fun _=>(oK (qO a.2 (0+(a.1:Int).toNat) ((0+((a.2.length:Int):Int).toNat)-(0+(a.1:Int).toNat)) (ap.mk 0 0)).length 0 a.1).bind fun _=>some ((qO a.2 (0+(a.1:Int).toNat) ((0+((a.2.length:Int):Int).toNat)-(0+(a.1:Int).toNat)) (ap.mk 0 0)).take (a.1:Int).toNat))
def eI(a0:Int):Option (Bool):=
  some (a0 != a0)
def dJ(a0:Int)(a1:Int):Option (Int):=
  (eI a0).bind fun a=>(eI a1).bind fun x2=>if a=true then(if x2=true then(some 0)else(some (-1)))else(if x2=true then(some 1)else(if(decide (a0<a1))=true then(some (-1))else(if(decide (a0>a1))=true then(some 1)else(some 0))))
def bj(a0:ap)(a1:ap):Option (Int):=
  (dJ a0.az a1.az).bind fun a=>some a
def bG(k:(List ap)):(Int×(List ap))->Option (jY (Int×(List ap)) ((List ap))):=fun(c,a)=>
  if(decide (c<(k.length:Int)))=true then((inO k c).bind fun _=>(jB k c).bind fun b=>if(decide ((a.length:Int)>0))=true then((inO a (CH .i64 ((a.length:Int)-1))).bind fun _=>(jB a (CH .i64 ((a.length:Int)-1))).bind fun f=>if(decide (b.az<=f.fTo))=true then((inO a (CH .i64 ((a.length:Int)-1))).bind fun _=>(jB a (CH .i64 ((a.length:Int)-1))).bind fun e=>(inO a (CH .i64 ((a.length:Int)-1))).bind fun _=>(oT a (CH .i64 ((a.length:Int)-1)) (fun(z23:ap)=>(ap.mk z23.az (if b.fTo>e.fTo then b.fTo else e.fTo)))).bind fun g=>some (.next ((CH .i64 (c+1)),g)))else((lu a [b] 16).bind fun i=>some (.next ((CH .i64 (c+1)),i))))else((lu a [b] 16).bind fun j=>some (.next ((CH .i64 (c+1)),j))))else(some (.stop a))
def em(a0:(List ap)):Option ((List ap)):=
  (nk 16 a0).bind fun b=>(bS b).bind fun x2=>(pK bj x2).bind fun c=>(cI (bG c) (0,([]:(List ap)))).bind fun a=>some a
def a8(e:aa×Bool):(Int×(List ap))->Option (jY (Int×(List ap)) ((List ap))):=fun(a,c)=>
  if(decide (a<(e.1.al.length:Int)))=true then((jB e.1.al a).bind fun f=>(lu c [(ap.mk f.az f.fTo)] 16).bind fun b=>some (.next ((CH .i64 (a+1)),b)))else(some (.stop c))
def bO(a0:ai)(a1:ac):Option ((List ap)):=
  (bg a0).bind fun c=>if(!c)=true then(some ([]:(List ap)))else((bW a0 a1).bind fun e=>(cI (a8 e) (0,([]:(List ap)))).bind fun a=>(em a).bind fun b=>some b)
def dS(a0:(List ap))(a1:(List ap)):Int->Option (jY (Int) ((Unit)⊕(Bool))):=fun s2=>
  if(decide (s2<(a0.length:Int)))=true then((jB a0 s2).bind fun a=>(jB a1 s2).bind fun b=>if(!((a.az==b.az)&&((a.fTo==b.fTo)&&true)))=true then(some (.stop (.inr false)))else(some (.next (CH .i64 (s2+1)))))else(some (.stop (.inl ())))
def eY(a0:(List ap))(a1:(List ap)):Option (Bool):=
  if((a0.length:Int) != (a1.length:Int))=true then(some false)else((cI (dS a0 a1) 0).bind fun b=>match b with| .inl _=>(some true)| .inr a=>(some a))
def dA:Option (Bool):=
  (fK ).bind fun i=>(jB i.am 0).bind fun x2=>(fK ).bind fun j=>(da j x2.aj 20).bind fun g=>(fK ).bind fun k=>(da k x2.aj 30).bind fun l=>if(g.2==0)=true then(if(g.1.aq.fX==5)=true then(if(l.2==6)=true then((fK ).bind fun a=>(bg a).bind fun b=>if b=true then((fK ).bind fun c=>(bO c x2.aj).bind fun e=>(eY e [(ap.mk 10 30)]).bind fun f=>some f)else(some false))else(some false))else(some false))else(some false)
def jg(a0:(List Int)):Option (ae):=
  some (ae.mk a0 0)
def aN(a1:Int)(d0:ae):Option (Int×ae):=
  if(decide (d0.fAt>=(d0.fL.length:Int)))=true then(some (0,d0))else(if(decide (a1<1))=true then(some (0,d0))else((jB d0.fL d0.fAt).bind fun b=>(rb b a1).bind fun a=>if(decide (a<0))=true then(some ((CH .i64 (a+a1)),(ae.mk d0.fL (CH .i64 (d0.fAt+1)))))else(some (a,(ae.mk d0.fL (CH .i64 (d0.fAt+1)))))))
def bK(a1:(List Int))(d0:ae):Option (Int×ae):=
  (aN (a1.length:Int) d0).bind fun a=>(jB a1 a.1).bind fun x2=>some (x2,a.2)
def cZ(d0:ae):Option (ac×ae):=
  (aN 3 d0).bind fun a=>(jB [[71,82],[88],[55,65]] a.1).bind fun x2=>(aN 4 a.2).bind fun b=>(jB [[70,85,82],[65],[65,66,67,68,69],[70,85]] b.1).bind fun f=>(aN 3 b.2).bind fun c=>(jB [[],[48,48],[49,48]] c.1).bind fun g=>(aN 3 c.2).bind fun e=>(jB [[72,72,90],[72,72,78],[66,72,90]] e.1).bind fun i=>some ((ac.mk x2 f g i),e.2)
def bn(a0:Int)(a1:Int)(a2:Int):Option (Bool):=
  if(decide (a0>=a1))=true then(some (decide (a0<=a2)))else(some false)
def jP:(Int×Int)->Option (jY (Int×Int) (Int)):=fun(s1,s2)=>
  if(s2 != 0)=true then((rb s1 s2).bind fun a=>some (.next (s2,a)))else(some (.stop s1))
def ip(a0:Int)(a1:Int):Option (Int):=
  (cI (jP) (a0,a1)).bind fun a=>some a
def gH(a0:Int)(a1:Int):Option (av×Int):=
  (bn a0 1 4096).bind fun b=>if(!b)=true then(some ((av.mk 0 0),2))else((bn a1 1 4096).bind fun c=>if(!c)=true then(some ((av.mk 0 0),2))else((ip a0 a1).bind fun a=>(quoO .i64 a0 a).bind fun e=>(quoO .i64 a1 a).bind fun f=>some ((av.mk e f),0)))
def jc(d0:ae):Option (av×ae):=
  (bK [1,3,20,100,40,4096,7] d0).bind fun a=>(bK [1,1,1,3,7,4096] a.2).bind fun x2=>(gH a.1 x2.1).bind fun b=>some (b.1,x2.2)
def fh:(Int×(List Int)×Int×(List Int))->Option (jY (Int×(List Int)×Int×(List Int)) ((List Int)×Int×(List Int))):=fun(b,c,e,f)=>
  if(decide (b>0))=true then((aN 4 (ae.mk c e)).bind fun a=>(lu [a.1] f 8).bind fun g=>(lu g [a.1] 8).bind fun i=>some (.next ((CH .i64 (b-1)),a.2.fL,a.2.fAt,i)))else(some (.stop (c,e,f)))
def iw(d0:ae):Option (ak×ae):=
  (aN 3 d0).bind fun g=>if(g.1==0)=true then((aN 9 g.2).bind fun m=>(aN 9 m.2).bind fun n=>some ((ak.mk 0 (aK.mk (CH .i64 (1+m.1)) 0 0) (aK.mk (CH .i64 (1+n.1)) 0 0) [] 0 0),n.2))else(if(g.1==1)=true then((aN 9 g.2).bind fun o=>(aN 9 o.2).bind fun p=>(aN 3 p.2).bind fun q=>(bK [1,2, -3,1048576] q.2).bind fun r=>(aN 9 r.2).bind fun i=>(bK [0,1,1048576] i.2).bind fun j=>some ((ak.mk 1 (aK.mk (CH .i64 (o.1-4)) (CH .i64 (p.1-4)) q.1) (aK.mk r.1 (CH .i64 (i.1-4)) j.1) [] 0 0),j.2))else((aN 4 g.2).bind fun k=>(bK [1,1,2,5] k.2).bind fun b=>(aN 5 b.2).bind fun c=>(aN 3 c.2).bind fun e=>(cI (fh) (e.1,e.2.fL,e.2.fAt,[(CH .i64 (1+k.1))])).bind fun a=>(aN 6 (ae.mk a.1 a.2.1)).bind fun f=>if(f.1==0)=true then((lu a.2.2 [3] 8).bind fun l=>some ((ak.mk 2 (aK.mk 0 0 0) (aK.mk 0 0 0) l b.1 c.1),f.2))else(some ((ak.mk 2 (aK.mk 0 0 0) (aK.mk 0 0 0) a.2.2 b.1 c.1),f.2))))
def fg:(Int×Int×(List Int)×Int×(List ak))->Option (jY (Int×Int×(List Int)×Int×(List ak)) ((List Int)×Int×(List ak))):=fun(s2,c,g,i,b)=>
  if(decide (c>0))=true then((iw (ae.mk g i)).bind fun a=>if(a.1.aQ==2)=true then(if(decide ((CH .i64 (s2*a.1.aJ))>64))=true then(some (.stop (a.2.fL,a.2.fAt,b)))else((lu b [a.1] 96).bind fun e=>some (.next ((CH .i64 (s2*a.1.aJ)),(CH .i64 (c-1)),a.2.fL,a.2.fAt,e))))else((lu b [a.1] 96).bind fun f=>some (.next (s2,(CH .i64 (c-1)),a.2.fL,a.2.fAt,f))))else(some (.stop (g,i,b)))
def eF(d0:ae):Option (ar×ae):=
  (aN 4 d0).bind fun b=>(cI (fg) (1,b.1,b.2.fL,b.2.fAt,([]:(List ak)))).bind fun a=>some ((ar.mk a.2.2),(ae.mk a.1 a.2.1))
def iv(d0:ae):Option (ah×ae):=
  (aN 20 d0).bind fun a=>(jc a.2).bind fun x2=>(aN 8 x2.2).bind fun b=>(bK [0,500, -1048576,1048576] b.2).bind fun c=>(aN 1000 c.2).bind fun e=>(bK [0, -200, -16384] e.2).bind fun f=>(aN 2 f.2).bind fun g=>if(g.1==0)=true then((eF g.2).bind fun i=>some ((ah.mk (CH .i64 (1000000000000+(CH .i64 (1000*a.1)))) (CH .i64 ((CH .i64 (1000000000000+(CH .i64 (1000*a.1))))+(CH .i64 (1000*(CH .i64 (1+b.1)))))) x2.1 (aw.mk c.1 e.1 f.1) i.1),i.2))else(some ((ah.mk (CH .i64 (1000000000000+(CH .i64 (1000*a.1)))) (CH .i64 ((CH .i64 (1000000000000+(CH .i64 (1000*a.1))))+(CH .i64 (1000*(CH .i64 (1+b.1)))))) x2.1 (aw.mk c.1 e.1 f.1) (ar.mk [])),g.2))
def eK(a0:ar):(Int×(List ak))->Option (jY (Int×(List ak)) ((List ak))):=fun(s1,s2)=>
  if(decide (s1<(a0.aA.length:Int)))=true then((jB a0.aA s1).bind fun a=>(lu ([]:List Int) a.aO 8).bind fun b=>(lu s2 [(ak.mk a.aQ a.aI a.aH b a.aJ a.aS)] 96).bind fun c=>some (.next ((CH .i64 (s1+1)),c)))else(some (.stop s2))
def gP(a0:ar):Option (ar):=
  (cI (eK a0) (0,([]:(List ak)))).bind fun a=>some (ar.mk a)
def cx(a0:ah):Option (ah):=
  (gP a0.aB).bind fun a=>some (ah.mk a0.az a0.fTo a0.aM a0.aq a)
def dI(a1:ai)(o:Int×ae)(x2:ac×ae)(u:(List Int))(v:Int)(p:Int)(f:Int)(g:Int)(i:Int)(j:Int)(k:Int)(l:Int)(m:Int)(n:(List ak)):Option (aG×ae):=
  if(decide ((a1.am.length:Int)>0))=true then((aN 3 (ae.mk u v)).bind fun q=>if(decide (q.1>0))=true then((aN (a1.am.length:Int) q.2).bind fun r=>(jB a1.am r.1).bind fun b=>if(o.1 != 0)=true then((aN (b.al.length:Int) r.2).bind fun s=>(jB b.al s.1).bind fun c=>if(o.1==2)=true then((aN 3 s.2).bind fun t=>if(decide (t.1>0))=true then((cx c).bind fun a=>(aN 3 t.2).bind fun e=>if(e.1==0)=true then((bK [-1,500,3000] e.2).bind fun x=>some ((aG.mk o.1 b.aj c.az (ah.mk a.az (CH .i64 (a.fTo+x.1)) a.aM a.aq a.aB)),x.2))else(if(e.1==1)=true then(some ((aG.mk o.1 b.aj c.az (ah.mk a.az a.fTo a.aM (aw.mk 77 a.aq.fY a.aq.fZ) a.aB)),e.2))else(if(e.1==2)=true then((eF e.2).bind fun y=>some ((aG.mk o.1 b.aj c.az (ah.mk a.az a.fTo a.aM a.aq y.1)),y.2))else(some ((aG.mk o.1 b.aj c.az a),e.2)))))else(some ((aG.mk o.1 b.aj c.az (ah.mk f g (av.mk i j) (aw.mk k l m) (ar.mk n))),t.2)))else(some ((aG.mk o.1 b.aj c.az (ah.mk f g (av.mk i j) (aw.mk k l m) (ar.mk n))),s.2)))else(some ((aG.mk o.1 b.aj p (ah.mk f g (av.mk i j) (aw.mk k l m) (ar.mk n))),r.2)))else(some ((aG.mk o.1 x2.1 p (ah.mk f g (av.mk i j) (aw.mk k l m) (ar.mk n))),q.2)))else(some ((aG.mk o.1 x2.1 p (ah.mk f g (av.mk i j) (aw.mk k l m) (ar.mk n))),(ae.mk u v)))
def hC(a1:ai)(d0:ae):Option (aG×ae):=
  (bK [0,0,1,2] d0).bind fun b=>(cZ b.2).bind fun x2=>if(b.1 != 1)=true then((iv x2.2).bind fun a=>dI a1 b x2 a.2.fL a.2.fAt a.1.az a.1.az a.1.fTo a.1.aM.aI a.1.aM.aH a.1.aq.fX a.1.aq.fY a.1.aq.fZ a.1.aB.aA)else(dI a1 b x2 x2.2.fL x2.2.fAt 0 0 0 0 0 0 0 0 [])
def cM(a0:(List UInt8)):Int->Option (jY (Int) ((Unit)⊕(Bool))):=fun s1=>
  if(decide (s1<(a0.length:Int)))=true then((lr a0 s1).bind fun e=>if(decide (e>=65))=true then((lr a0 s1).bind fun f=>if(decide (f<=90))=true then(some (.next (CH .i64 (s1+1))))else((lr a0 s1).bind fun g=>if(decide (g>=48))=true then((lr a0 s1).bind fun a=>if(!(decide (a<=57)))=true then(some (.stop (.inr false)))else(some (.next (CH .i64 (s1+1)))))else(some (.stop (.inr false)))))else((lr a0 s1).bind fun b=>if(decide (b>=48))=true then((lr a0 s1).bind fun c=>if(!(decide (c<=57)))=true then(some (.stop (.inr false)))else(some (.next (CH .i64 (s1+1)))))else(some (.stop (.inr false)))))else(some (.stop (.inl ())))
def cL(a0:(List UInt8))(a1:Int)(a2:Int):Option (Bool):=
  (cI (cM a0) 0).bind fun a=>match a with| .inl _=>(if(decide ((a0.length:Int)>=a1))=true then(some (decide ((a0.length:Int)<=a2)))else(some false))| .inr b=>(some b)
def du(a0:ac):Option (Bool):=
  (cL a0.aD 1 2).bind fun a=>if a=true then((cL a0.aC 1 5).bind fun b=>if b=true then(if(a0.au== [])=true then((cL a0.aF 3 3).bind fun c=>some c)else((cL a0.au 2 2).bind fun e=>if e=true then((cL a0.aF 3 3).bind fun f=>some f)else(some false)))else(some false))else(some false)
def iW(a0:av):Option (Bool):=
  (bn a0.aI 1 4096).bind fun a=>if a=true then((bn a0.aH 1 4096).bind fun b=>if b=true then((ip a0.aI a0.aH).bind fun c=>some (c==1))else(some false))else(some false)
def fr(a0:(List Int)):Int->Option (jY (Int) ((Unit)⊕(Bool))):=fun s1=>
  if(decide (s1<(a0.length:Int)))=true then((jB a0 s1).bind fun a=>(bn a (-1048576) 1048576).bind fun b=>if(!b)=true then(some (.stop (.inr false)))else(some (.next (CH .i64 (s1+1)))))else(some (.stop (.inl ())))
def dv(a0:(List Int)):Option (Bool):=
  (cI (fr a0) 0).bind fun b=>match b with| .inl _=>(some true)| .inr a=>(some a)
def ref18_total_l7(a0:(List Int)):(Int×Int)->Option (jY (Int×Int) (Int)):=fun(s1,s2)=>
  if(decide (s2<(a0.length:Int)))=true then((jB a0 s2).bind fun a=>some (.next ((CH .i64 (s1+a)),(CH .i64 (s2+1)))))else(some (.stop s1))
def gf(a0:(List Int)):Option (Int):=
  (cI (ref18_total_l7 a0) (0,0)).bind fun a=>some a
def ey(a0:ak):Option (Bool):=
  if((a0.aO.length:Int)==0)=true then(if(a0.aJ==0)=true then(if(a0.aQ==0)=true then(if(a0.aS==0)=true then((bn a0.aI.a0 1 1048576).bind fun t=>if t=true then((bn a0.aH.a0 1 1048576).bind fun u=>if u=true then(if(a0.aI.a1==0)=true then(if(a0.aI.a2==0)=true then(if(a0.aH.a1==0)=true then(some (a0.aH.a2==0))else(some false))else(some false))else(some false))else(some false))else(some false))else(some false))else(if(a0.aQ==1)=true then(if(a0.aS==0)=true then((dv [a0.aI.a0,a0.aI.a1,a0.aI.a2]).bind fun a=>if a=true then((dv [a0.aH.a0,a0.aH.a1,a0.aH.a2]).bind fun b=>if b=true then(some (a0.aH.a0 != 0))else(some false))else(some false))else(some false))else(if(a0.aQ==2)=true then(if((a0.aI.a0==0)&&((a0.aI.a1==0)&&((a0.aI.a2==0)&&true)))=true then(if((a0.aH.a0==0)&&((a0.aH.a1==0)&&((a0.aH.a2==0)&&true)))=true then((bn (a0.aO.length:Int) 1 128).bind fun c=>if c=true then((dv a0.aO).bind fun e=>if e=true then((gf a0.aO).bind fun f=>if(f != 0)=true then((bn a0.aJ 1 64).bind fun g=>if g=true then((bn a0.aS 0 40).bind fun i=>some i)else(some false))else(some false))else(some false))else(some false))else(some false))else(some false))else(some false))))else(if(a0.aQ==0)=true then(some false)else(if(a0.aQ==1)=true then(some false)else(if(a0.aQ==2)=true then(if((a0.aI.a0==0)&&((a0.aI.a1==0)&&((a0.aI.a2==0)&&true)))=true then(if((a0.aH.a0==0)&&((a0.aH.a1==0)&&((a0.aH.a2==0)&&true)))=true then((bn (a0.aO.length:Int) 1 128).bind fun j=>if j=true then((dv a0.aO).bind fun k=>if k=true then((gf a0.aO).bind fun l=>if(l != 0)=true then((bn a0.aJ 1 64).bind fun m=>if m=true then((bn a0.aS 0 40).bind fun n=>some n)else(some false))else(some false))else(some false))else(some false))else(some false))else(some false))else(some false)))))else(if(a0.aQ==0)=true then(some false)else(if(a0.aQ==1)=true then(some false)else(if(a0.aQ==2)=true then(if((a0.aI.a0==0)&&((a0.aI.a1==0)&&((a0.aI.a2==0)&&true)))=true then(if((a0.aH.a0==0)&&((a0.aH.a1==0)&&((a0.aH.a2==0)&&true)))=true then((bn (a0.aO.length:Int) 1 128).bind fun o=>if o=true then((dv a0.aO).bind fun p=>if p=true then((gf a0.aO).bind fun q=>if(q != 0)=true then((bn a0.aJ 1 64).bind fun r=>if r=true then((bn a0.aS 0 40).bind fun s=>some s)else(some false))else(some false))else(some false))else(some false))else(some false))else(some false))else(some false))))
def gn(a0:ar):(Int×Int)->Option (jY (Int×Int) ((Unit)⊕(Bool))):=fun(s1,s2)=>
  if(decide (s2<(a0.aA.length:Int)))=true then((jB a0.aA s2).bind fun b=>(ey b).bind fun c=>if(!c)=true then(some (.stop (.inr false)))else((jB a0.aA s2).bind fun e=>if(e.aQ==2)=true then((jB a0.aA s2).bind fun a=>if(decide ((CH .i64 (s1*a.aJ))>64))=true then(some (.stop (.inr false)))else(some (.next ((CH .i64 (s1*a.aJ)),(CH .i64 (s2+1))))))else(some (.next (s1,(CH .i64 (s2+1)))))))else(some (.stop (.inl ())))
def hZ(a0:ar):Option (Bool):=
  (cI (gn a0) (1,0)).bind fun a=>match a with| .inl _=>(some (decide ((a0.aA.length:Int)<=8)))| .inr b=>(some b)
def cH(a0:ah):Option (Bool):=
  if(decide (a0.az>=0))=true then(if(decide (a0.az<a0.fTo))=true then(if(decide (a0.fTo<=9007199254740992))=true then((iW a0.aM).bind fun c=>if c=true then((hZ a0.aB).bind fun e=>if e=true then((bn a0.aq.fX (-1048576) 1048576).bind fun f=>if f=true then((bn a0.aq.fY (-1048576) 1048576).bind fun a=>if a=true then((bn a0.aq.fZ (-16384) 1048576).bind fun b=>some b)else(some false))else(some false))else(some false))else(some false))else(some false))else(some false))else(some false)
def cn(a0:(List UInt8))(a1:(List UInt8)):Option (Int):=
  if(Op.bytesLess a0 a1)=true then(some (-1))else(if(!(Op.bytesLess a0 a1||a0==a1))=true then(some 1)else(some 0))
def dg(a0:ac)(a1:ac):Option (Int):=
  (cn a0.aD a1.aD).bind fun a=>(cn a0.aC a1.aC).bind fun x2=>(cn a0.au a1.au).bind fun b=>(cn a0.aF a1.aF).bind fun c=>if(a != 0)=true then(some a)else(if(x2 != 0)=true then(some x2)else(if(b != 0)=true then(some b)else(if(c != 0)=true then(some c)else(some 0))))
def eR(b:aa)(s1:Int):Int->Option (jY (Int) ((Int)⊕(Bool))):=fun a=>
  if(decide (a<(b.al.length:Int)))=true then((jB b.al a).bind fun g=>(cH g).bind fun c=>if(!c)=true then(some (.stop (.inr false)))else(if(decide (a>0))=true then((jB b.al a).bind fun e=>(jB b.al (CH .i64 (a-1))).bind fun f=>if(decide (e.az<f.fTo))=true then(some (.stop (.inr false)))else(some (.next (CH .i64 (a+1)))))else(some (.next (CH .i64 (a+1))))))else(some (.stop (.inl s1)))
def eQ(e:aa)(s1:Int):Option (jY (Int) ((Unit)⊕(Bool))):=
  (cI (eR e s1) 0).bind fun a=>match a with| .inl c=>(some (.next (CH .i64 (c+1))))| .inr b=>(some (.stop (.inr b)))
def eS(a0:ai):Int->Option (jY (Int) ((Unit)⊕(Bool))):=fun s1=>
  if(decide (s1<(a0.am.length:Int)))=true then((jB a0.am s1).bind fun a=>(du a.aj).bind fun b=>if(!b)=true then(some (.stop (.inr false)))else(if(decide (s1>0))=true then((jB a0.am (CH .i64 (s1-1))).bind fun c=>(dg c.aj a.aj).bind fun e=>if(decide (e>=0))=true then(some (.stop (.inr false)))else((bn (a.al.length:Int) 1 32).bind fun f=>if(!f)=true then(some (.stop (.inr false)))else(eQ a s1)))else((bn (a.al.length:Int) 1 32).bind fun g=>if(!g)=true then(some (.stop (.inr false)))else(eQ a s1))))else(some (.stop (.inl ())))
def dw(a0:ai):Option (Bool):=
  (cI (eS a0) 0).bind fun a=>match a with| .inl _=>(some (decide ((a0.am.length:Int)<=128)))| .inr b=>(some b)
def dm(a0:ak)(a1:ak):Int->Option (jY (Int) ((Unit)⊕(Bool))):=fun a=>
  if(decide (a<(a0.aO.length:Int)))=true then((jB a0.aO a).bind fun b=>(jB a1.aO a).bind fun c=>if(b != c)=true then(some (.stop (.inr false)))else(some (.next (CH .i64 (a+1)))))else(some (.stop (.inl ())))
def eP(a0:ak)(a1:ak):Option (Bool):=
  if(a0.aQ != a1.aQ)=true then(some false)else(if(!((a0.aI.a0==a1.aI.a0)&&((a0.aI.a1==a1.aI.a1)&&((a0.aI.a2==a1.aI.a2)&&true))))=true then(some false)else(if(!((a0.aH.a0==a1.aH.a0)&&((a0.aH.a1==a1.aH.a1)&&((a0.aH.a2==a1.aH.a2)&&true))))=true then(some false)else(if(a0.aJ != a1.aJ)=true then(some false)else(if(a0.aS != a1.aS)=true then(some false)else(if((a0.aO.length:Int) != (a1.aO.length:Int))=true then(some false)else((cI (dm a0 a1) 0).bind fun a=>match a with| .inl _=>(some true)| .inr b=>(some b)))))))
def eL(a0:ar)(a1:ar):Int->Option (jY (Int) ((Unit)⊕(Bool))):=fun s2=>
  if(decide (s2<(a0.aA.length:Int)))=true then((jB a0.aA s2).bind fun a=>(jB a1.aA s2).bind fun b=>(eP a b).bind fun c=>if(!c)=true then(some (.stop (.inr false)))else(some (.next (CH .i64 (s2+1)))))else(some (.stop (.inl ())))
def fQ(a0:ar)(a1:ar):Option (Bool):=
  if((a0.aA.length:Int) != (a1.aA.length:Int))=true then(some false)else((cI (eL a0 a1) 0).bind fun a=>match a with| .inl _=>(some true)| .inr b=>(some b))
def ca(a0:ah)(a1:ah):Option (Bool):=
  if(a0.az==a1.az)=true then(if(a0.fTo==a1.fTo)=true then(if((a0.aM.aI==a1.aM.aI)&&((a0.aM.aH==a1.aM.aH)&&true))=true then(if((a0.aq.fX==a1.aq.fX)&&((a0.aq.fY==a1.aq.fY)&&((a0.aq.fZ==a1.aq.fZ)&&true)))=true then((fQ a0.aB a1.aB).bind fun a=>some a)else(some false))else(some false))else(some false))else(some false)
def jE(a0:ah):Option (Bool):=
  (ca a0 (ah.mk 0 0 (av.mk 0 0) (aw.mk 0 0 0) (ar.mk []))).bind fun a=>some a
def iF(a0:ai)(a1:aG):Option (Bool):=
  (dw a0).bind fun a=>if(!a)=true then(some false)else((bn a1.aQ 0 2).bind fun b=>if(!b)=true then(some false)else((du a1.aj).bind fun c=>if(!c)=true then(some false)else(if(a1.aQ==1)=true then((jE a1.bi).bind fun e=>some e)else((cH a1.bi).bind fun f=>if f=true then(if(a1.aQ==2)=true then(some true)else(some (a1.az==a1.bi.az)))else(some false)))))
def cN(a0:ai)(s1:Int)(s2:(List aa)):(Int×(List ah))->Option (jY (Int×(List ah)) (Int×(List aa)×(List ah))):=fun(a,i)=>
  (jB a0.am s1).bind fun b=>if(decide (a<(b.al.length:Int)))=true then((jB a0.am s1).bind fun c=>(jB c.al a).bind fun e=>(cx e).bind fun f=>(lu i [f] 80).bind fun g=>some (.next ((CH .i64 (a+1)),g)))else(some (.stop (s1,s2,i)))
def ef(a0:ai):(Int×(List aa))->Option (jY (Int×(List aa)) ((List aa))):=fun(s1,s2)=>
  if(decide (s1<(a0.am.length:Int)))=true then((jB a0.am s1).bind fun c=>(cI (cN a0 s1 s2) (0,([]:(List ah)))).bind fun a=>(lu a.2.1 [(aa.mk c.aj a.2.2)] 88).bind fun b=>some (.next ((CH .i64 (a.1+1)),b)))else(some (.stop s2))
def eZ(a0:ai):Option (ai):=
  (cI (ef a0) (0,([]:(List aa)))).bind fun a=>some (ai.mk a)
def cW(a0:ai)(s1:Int)(a1:aG):Int->Option (jY (Int) ((Int)⊕(Int×Int))):=fun a=>
  (jB a0.am s1).bind fun e=>if(decide (a<(e.al.length:Int)))=true then((jB a0.am s1).bind fun b=>(jB b.al a).bind fun c=>if(c.az==a1.az)=true then(some (.stop (.inr (s1,a))))else(some (.next (CH .i64 (a+1)))))else(some (.stop (.inl s1)))
def gp(a0:ai)(a1:aG):Int->Option (jY (Int) ((Unit)⊕(Int×Int))):=fun s1=>
  if(decide (s1<(a0.am.length:Int)))=true then((jB a0.am s1).bind fun a=>if(!((a.aj.aD==a1.aj.aD)&&((a.aj.aC==a1.aj.aC)&&((a.aj.au==a1.aj.au)&&((a.aj.aF==a1.aj.aF)&&true)))))=true then(some (.next (CH .i64 (s1+1))))else((cI (cW a0 s1 a1) 0).bind fun b=>match b with| .inl e=>(some (.stop (.inr (e,(-1)))))| .inr c=>(some (.stop (.inr c)))))else(some (.stop (.inl ())))
def ic(a0:ai)(a1:aG):Option (Int×Int):=
  (cI (gp a0 a1) 0).bind fun a=>match a with| .inl _=>(some ((-1),(-1)))| .inr b=>(some b)
def dZ(a0:(List ah))(a1:ah):Int->Option (jY (Int) ((Unit)⊕(Bool))):=fun s1=>
  if(decide (s1<(a0.length:Int)))=true then((jB a0 s1).bind fun a=>if(decide (a.az<a1.fTo))=true then((jB a0 s1).bind fun b=>if(decide (a1.az<b.fTo))=true then(some (.stop (.inr true)))else(some (.next (CH .i64 (s1+1)))))else(some (.next (CH .i64 (s1+1)))))else(some (.stop (.inl ())))
def fy(a0:(List ah))(a1:ah):Option (Bool):=
  (cI (dZ a0 a1) 0).bind fun b=>match b with| .inl _=>(some false)| .inr a=>(some a)
def fx(a0:(List ah))(a1:ah):Int->Option (jY (Int) (Int)):=fun s1=>
  if(decide (s1<(a0.length:Int)))=true then((jB a0 s1).bind fun a=>if(decide (a.az<a1.az))=true then(some (.next (CH .i64 (s1+1))))else(some (.stop s1)))else(some (.stop s1))
def jh(a0:(List ah))(a1:ah):Option ((List ah)):=
  (cI (fx a0 a1) 0).bind fun g=>(lP a0 0 g).bind fun i=>(lu ([]:List ah) i 80).bind fun a=>(cx a1).bind fun b=>(lu a [b] 80).bind fun c=>(lP a0 g (a0.length:Int)).bind fun e=>(lu c e 80).bind fun f=>some f
def gW(a:(List aa)):Option (ai×Int):=
  some ((ai.mk a),0)
def dN(a1:aG)(a:Int)(b:(List aa)):Option (ai×Int):=
  (inO b a).bind fun _=>(jB b a).bind fun e=>(fy e.al a1.bi).bind fun f=>if f=true then(some ((ai.mk []),11))else((inO b a).bind fun _=>(jB b a).bind fun g=>(jh g.al a1.bi).bind fun i=>(inO b a).bind fun _=>(oT b a (fun(z31:aa)=>(aa.mk z31.aj i))).bind fun c=>if(decide ((c.length:Int)>128))=true then(some ((ai.mk []),8))else((inO c a).bind fun _=>(jB c a).bind fun j=>if(decide ((j.al.length:Int)>32))=true then(some ((ai.mk []),8))else(some ((ai.mk c),0))))
def dP(b:(List aa))(a1:aG):Int->Option (jY (Int) (Int)):=fun a=>
  if(decide (a<(b.length:Int)))=true then((inO b a).bind fun _=>(jB b a).bind fun c=>(dg c.aj a1.aj).bind fun e=>if(decide (e<0))=true then(some (.next (CH .i64 (a+1))))else(some (.stop a)))else(some (.stop a))
def dO(a1:aG)(e:Int×Int)(c:(List aa)):Option (ai×Int):=
  if(a1.aQ==1)=true then((inO c e.1).bind fun _=>(jB c e.1).bind fun g=>if((g.al.length:Int)==0)=true then((oK c.length 0 e.1).bind fun _=>(oK c.length (CH .i64 (e.1+1)) (c.length:Int)).bind fun _=>(pJ c (0+((CH .i64 (e.1+1)):Int).toNat) (0+((c.length:Int):Int).toNat)).bind fun i=>(lu (c.take (e.1:Int).toNat) i 88).bind fun j=>gW j)else(gW c))else(if(decide (e.1<0))=true then((cI (dP c a1) 0).bind fun b=>(lu c [(aa.mk (ac.mk [] [] [] []) [])] 88).bind fun a=>(oK a.length (CH .i64 (b+1)) (a.length:Int)).bind fun _=>(oK a.length b (a.length:Int)).bind fun _=>(rX a.length (0+((CH .i64 (b+1)):Int).toNat) (0+((a.length:Int):Int).toNat)).bind fun _=>(pJ a (0+(b:Int).toNat) (0+((a.length:Int):Int).toNat)).bind fun f=>(inO (nM a (0+((CH .i64 (b+1)):Int).toNat) ((0+((a.length:Int):Int).toNat)-(0+((CH .i64 (b+1)):Int).toNat)) f) b).bind fun _=>(oT (nM a (0+((CH .i64 (b+1)):Int).toNat) ((0+((a.length:Int):Int).toNat)-(0+((CH .i64 (b+1)):Int).toNat)) f) b (fun(z59:aa)=>(aa.mk a1.aj []))).bind fun k=>dN a1 b k)else(dN a1 e.1 c))
def ia(a0:ai)(a1:aG):Option (ai×Int):=
  (iF a0 a1).bind fun l=>if(!l)=true then(some ((ai.mk []),1))else((eZ a0).bind fun c=>(ic c a1).bind fun a=>if(a1.aQ != 0)=true then(if(decide (a.2<0))=true then(some ((ai.mk []),6))else((inO c.am a.1).bind fun _=>(jB c.am a.1).bind fun b=>(lP b.al 0 a.2).bind fun e=>(lu ([]:List ah) e 80).bind fun f=>(lP b.al (CH .i64 (a.2+1)) (b.al.length:Int)).bind fun g=>(lu f g 80).bind fun i=>(inO c.am a.1).bind fun _=>(oT c.am a.1 (fun(k:aa)=>(aa.mk k.aj i))).bind fun j=>dO a1 a j))else(dO a1 a c.am))
def eU:(Int×(List Int)×Int×(List aa))->Option (jY (Int×(List Int)×Int×(List aa)) ((List aa)×(List Int)×Int)):=fun(e,f,g,c)=>
  if(decide (e>0))=true then((hC (ai.mk c) (ae.mk f g)).bind fun a=>(ia (ai.mk c) a.1).bind fun b=>if(b.2==0)=true then(some (.next ((CH .i64 (e-1)),a.2.fL,a.2.fAt,b.1.am)))else(some (.next ((CH .i64 (e-1)),a.2.fL,a.2.fAt,c))))else(some (.stop (c,f,g)))
def ff(a1:Int)(d0:ae):Option (ai×ae):=
  (aN (CH .i64 (a1+1)) d0).bind fun b=>(cI (eU) (b.1,b.2.fL,b.2.fAt,([]:(List aa)))).bind fun a=>some ((ai.mk a.1),(ae.mk a.2.1 a.2.2))
def bF(a:(List Int))(b:Int)(c:(List aa)):Option (ai×ae):=
  some ((ai.mk c),(ae.mk a b))
def fc(a1:ai)(d0:ae):Option (ai×ae):=
  (eZ a1).bind fun f=>if((f.am.length:Int)==0)=true then((cZ d0).bind fun I=>some ((ai.mk [(aa.mk I.1 [])]),I.2))else((aN (f.am.length:Int) d0).bind fun b=>(inO f.am b.1).bind fun _=>(jB f.am b.1).bind fun c=>(atO b.1 (CI b.1)).bind fun _=>(atO b.1 (CI b.1)).bind fun _=>(aN (c.al.length:Int) b.2).bind fun g=>(inO c.al g.1).bind fun _=>(aN 9 g.2).bind fun a=>if(a.1==0)=true then((oT f.am b.1 (fun(z45:aa)=>(aa.mk (ac.mk [103,114] z45.aj.aC z45.aj.au z45.aj.aF) z45.al))).bind fun u=>bF a.2.fL a.2.fAt (lG u (CI b.1) (fun(z46:aa)=>(aa.mk z46.aj c.al))))else(if(a.1==1)=true then((atO b.1 (CI b.1)).bind fun _=>bF a.2.fL a.2.fAt (lG f.am (CI b.1) (fun(z51:aa)=>(aa.mk z51.aj []))))else(if(a.1==2)=true then((jB c.al g.1).bind fun v=>(jB c.al g.1).bind fun x=>(bK [-1,v.fTo,(CH .i64 (x.fTo-1)),0] a.2).bind fun j=>(oT c.al g.1 (fun(z59:ah)=>(ah.mk j.1 z59.fTo z59.aM z59.aq z59.aB))).bind fun y=>bF j.2.fL j.2.fAt (lG f.am (CI b.1) (fun(z60:aa)=>(aa.mk z60.aj y))))else(if(a.1==3)=true then((jB c.al g.1).bind fun z=>(bK [9007199254740992,9007199254740993,z.az] a.2).bind fun k=>(oT c.al g.1 (fun(z67:ah)=>(ah.mk z67.az k.1 z67.aM z67.aq z67.aB))).bind fun B=>bF k.2.fL k.2.fAt (lG f.am (CI b.1) (fun(G:aa)=>(aa.mk G.aj B))))else(if(a.1==4)=true then((bK [1048577, -1048576,3] a.2).bind fun s=>(bK [-16385,1048576,0] s.2).bind fun l=>(oT c.al g.1 (fun(z75:ah)=>(ah.mk z75.az z75.fTo z75.aM (aw.mk s.1 0 l.1) z75.aB))).bind fun C=>bF l.2.fL l.2.fAt (lG f.am (CI b.1) (fun(z76:aa)=>(aa.mk z76.aj C))))else(if(a.1==5)=true then((aN 3 a.2).bind fun m=>(oT c.al g.1 (fun(z82:ah)=>(ah.mk z82.az z82.fTo (av.mk m.1 2) z82.aq z82.aB))).bind fun D=>bF m.2.fL m.2.fAt (lG f.am (CI b.1) (fun(H:aa)=>(aa.mk H.aj D))))else(if(a.1==6)=true then((jB c.al g.1).bind fun E=>(atO g.1 (CI g.1)).bind fun _=>(aN 4 a.2).bind fun n=>(lu E.aB.aA [(ak.mk n.1 (aK.mk 0 0 0) (aK.mk 0 0 0) [] 0 0)] 96).bind fun F=>(atO g.1 (CI g.1)).bind fun _=>bF n.2.fL n.2.fAt (lG f.am (CI b.1) (fun(z93:aa)=>(aa.mk z93.aj (lG c.al (CI g.1) (fun(i:ah)=>(ah.mk i.az i.fTo i.aM i.aq (ar.mk F))))))))else(if(a.1==7)=true then((inO (lG f.am (CI b.1) (fun(e:aa)=>(aa.mk e.aj c.al))) 0).bind fun _=>(jB (lG f.am (CI b.1) (fun(e:aa)=>(aa.mk e.aj c.al))) 0).bind fun o=>(lu (lG f.am (CI b.1) (fun(e:aa)=>(aa.mk e.aj c.al))) [o] 88).bind fun p=>bF a.2.fL a.2.fAt p)else(if(a.1==8)=true then((atO b.1 (CI b.1)).bind fun _=>(jB c.al g.1).bind fun q=>(lu c.al [q] 80).bind fun r=>(atO b.1 (CI b.1)).bind fun _=>bF a.2.fL a.2.fAt (lG f.am (CI b.1) (fun(t:aa)=>(aa.mk t.aj r))))else(bF a.2.fL a.2.fAt (lG f.am (CI b.1) (fun(z117:aa)=>(aa.mk z117.aj c.al)))))))))))))
def eD(a0:(List Int))(a1:(List Int)):Int->Option (jY (Int) ((Unit)⊕(Bool))):=fun s2=>
  if(decide (s2<(a0.length:Int)))=true then((jB a0 s2).bind fun a=>(jB a1 s2).bind fun b=>if(a != b)=true then(some (.stop (.inr false)))else(some (.next (CH .i64 (s2+1)))))else(some (.stop (.inl ())))
def ez(a0:(List Int))(a1:(List Int)):Option (Bool):=
  if((a0.length:Int) != (a1.length:Int))=true then(some false)else((cI (eD a0 a1) 0).bind fun b=>match b with| .inl _=>(some true)| .inr a=>(some a))
def dD(a0:ak)(a1:ak):Option (Bool):=
  if(a0.aQ==a1.aQ)=true then(if((a0.aI.a0==a1.aI.a0)&&((a0.aI.a1==a1.aI.a1)&&((a0.aI.a2==a1.aI.a2)&&true)))=true then(if((a0.aH.a0==a1.aH.a0)&&((a0.aH.a1==a1.aH.a1)&&((a0.aH.a2==a1.aH.a2)&&true)))=true then((ez a0.aO a1.aO).bind fun a=>if a=true then(if(a0.aJ==a1.aJ)=true then(some (a0.aS==a1.aS))else(some false))else(some false))else(some false))else(some false))else(some false)
def ck(a0:(List ak))(a1:(List ak)):Int->Option (jY (Int) ((Unit)⊕(Bool))):=fun s2=>
  if(decide (s2<(a0.length:Int)))=true then((jB a0 s2).bind fun a=>(jB a1 s2).bind fun b=>(dD a b).bind fun c=>if(!c)=true then(some (.stop (.inr false)))else(some (.next (CH .i64 (s2+1)))))else(some (.stop (.inl ())))
def bT(a0:(List ak))(a1:(List ak)):Option (Bool):=
  if((a0.length:Int) != (a1.length:Int))=true then(some false)else((cI (ck a0 a1) 0).bind fun a=>match a with| .inl _=>(some true)| .inr b=>(some b))
def gc(a0:ar)(a1:ar):Option (Bool):=
  (bT a0.aA a1.aA).bind fun a=>some a
def cy(a0:ah)(a1:ah):Option (Bool):=
  if(a0.az==a1.az)=true then(if(a0.fTo==a1.fTo)=true then(if((a0.aM.aI==a1.aM.aI)&&((a0.aM.aH==a1.aM.aH)&&true))=true then(if((a0.aq.fX==a1.aq.fX)&&((a0.aq.fY==a1.aq.fY)&&((a0.aq.fZ==a1.aq.fZ)&&true)))=true then((gc a0.aB a1.aB).bind fun a=>some a)else(some false))else(some false))else(some false))else(some false)
def bN(a0:(List ah))(a1:(List ah)):Int->Option (jY (Int) ((Unit)⊕(Bool))):=fun s2=>
  if(decide (s2<(a0.length:Int)))=true then((jB a0 s2).bind fun a=>(jB a1 s2).bind fun b=>(cy a b).bind fun c=>if(!c)=true then(some (.stop (.inr false)))else(some (.next (CH .i64 (s2+1)))))else(some (.stop (.inl ())))
def bB(a0:(List ah))(a1:(List ah)):Option (Bool):=
  if((a0.length:Int) != (a1.length:Int))=true then(some false)else((cI (bN a0 a1) 0).bind fun a=>match a with| .inl _=>(some true)| .inr b=>(some b))
def dl(a0:aa)(a1:aa):Option (Bool):=
  if((a0.aj.aD==a1.aj.aD)&&((a0.aj.aC==a1.aj.aC)&&((a0.aj.au==a1.aj.au)&&((a0.aj.aF==a1.aj.aF)&&true))))=true then((bB a0.al a1.al).bind fun x2=>some x2)else(some false)
def b6(a0:(List aa))(a1:(List aa)):Int->Option (jY (Int) ((Unit)⊕(Bool))):=fun s2=>
  if(decide (s2<(a0.length:Int)))=true then((jB a0 s2).bind fun a=>(jB a1 s2).bind fun b=>(dl a b).bind fun c=>if(!c)=true then(some (.stop (.inr false)))else(some (.next (CH .i64 (s2+1)))))else(some (.stop (.inl ())))
def bJ(a0:(List aa))(a1:(List aa)):Option (Bool):=
  if((a0.length:Int) != (a1.length:Int))=true then(some false)else((cI (b6 a0 a1) 0).bind fun a=>match a with| .inl _=>(some true)| .inr b=>(some b))
def fk(a0:ai)(a1:ai):Option (Bool):=
  (bJ a0.am a1.am).bind fun a=>some a
def fw(f:aa)(g:aa)(s2:Int):Int->Option (jY (Int) ((Int)⊕(Bool))):=fun a=>
  if(decide (a<(f.al.length:Int)))=true then((jB f.al a).bind fun b=>(jB g.al a).bind fun c=>(ca b c).bind fun e=>if(!e)=true then(some (.stop (.inr false)))else(some (.next (CH .i64 (a+1)))))else(some (.stop (.inl s2)))
def gV(a0:ai)(a1:ai):Int->Option (jY (Int) ((Unit)⊕(Bool))):=fun s2=>
  if(decide (s2<(a0.am.length:Int)))=true then((jB a0.am s2).bind fun a=>(jB a1.am s2).bind fun b=>if(!((a.aj.aD==b.aj.aD)&&((a.aj.aC==b.aj.aC)&&((a.aj.au==b.aj.au)&&((a.aj.aF==b.aj.aF)&&true)))))=true then(some (.stop (.inr false)))else(if((a.al.length:Int) != (b.al.length:Int))=true then(some (.stop (.inr false)))else((cI (fw a b s2) 0).bind fun c=>match c with| .inl f=>(some (.next (CH .i64 (f+1))))| .inr e=>(some (.stop (.inr e))))))else(some (.stop (.inl ())))
def gT(a0:ai)(a1:ai):Option (Bool):=
  if((a0.am.length:Int) != (a1.am.length:Int))=true then(some false)else((cI (gV a0 a1) 0).bind fun a=>match a with| .inl _=>(some true)| .inr b=>(some b))
def gR(a0:ai)(a1:ac):Int->Option (jY (Int) ((Unit)⊕(aa×Bool))):=fun s1=>
  if(decide (s1<(a0.am.length:Int)))=true then((jB a0.am s1).bind fun a=>if((a.aj.aD==a1.aD)&&((a.aj.aC==a1.aC)&&((a.aj.au==a1.au)&&((a.aj.aF==a1.aF)&&true))))=true then((lP a0.am s1 (CH .i64 (s1+1))).bind fun e=>(eZ (ai.mk e)).bind fun c=>(inO c.am 0).bind fun _=>(jB c.am 0).bind fun b=>some (.stop (.inr (b,true))))else(some (.next (CH .i64 (s1+1)))))else(some (.stop (.inl ())))
def fR(a0:ai)(a1:ac):Option (aa×Bool):=
  (cI (gR a0 a1) 0).bind fun a=>match a with| .inl _=>(some ((aa.mk (ac.mk [] [] [] []) []),false))| .inr b=>(some b)
def fO(s2:(List ap))(a0:(List ap))(s1:Int):Int->Option (jY (Int) (Int×Int×(List ap))):=fun a=>
  if(decide (a>0))=true then((inO s2 (CH .i64 (a-1))).bind fun _=>(jB s2 (CH .i64 (a-1))).bind fun b=>(jB a0 s1).bind fun c=>if(decide (b.az>c.az))=true then(some (.next (CH .i64 (a-1))))else(some (.stop (s1,a,s2))))else(some (.stop (s1,a,s2)))
def dq(a0:(List ap)):(Int×(List ap))->Option (jY (Int×(List ap)) ((List ap))):=fun(s1,s2)=>
  if(decide (s1<(a0.length:Int)))=true then((jB a0 s1).bind fun i=>(jB a0 s1).bind fun j=>if(decide (i.az>=j.fTo))=true then(some (.next ((CH .i64 (s1+1)),s2)))else((cI (fO s2 a0 s1) (s2.length:Int)).bind fun a=>(jB a0 a.1).bind fun e=>(lu a.2.2 [e] 16).bind fun b=>(oK b.length (CH .i64 (a.2.1+1)) (b.length:Int)).bind fun _=>(oK b.length a.2.1 (b.length:Int)).bind fun _=>(rX b.length (0+((CH .i64 (a.2.1+1)):Int).toNat) (0+((b.length:Int):Int).toNat)).bind fun _=>(pJ b (0+(a.2.1:Int).toNat) (0+((b.length:Int):Int).toNat)).bind fun c=>(jB a0 a.1).bind fun f=>(inO (nM b (0+((CH .i64 (a.2.1+1)):Int).toNat) ((0+((b.length:Int):Int).toNat)-(0+((CH .i64 (a.2.1+1)):Int).toNat)) c) a.2.1).bind fun _=>(tC (nM b (0+((CH .i64 (a.2.1+1)):Int).toNat) ((0+((b.length:Int):Int).toNat)-(0+((CH .i64 (a.2.1+1)):Int).toNat)) c) a.2.1 f).bind fun g=>some (.next ((CH .i64 (a.1+1)),g))))else(some (.stop s2))
def fP(c:(List ap)):(Int×(List ap))->Option (jY (Int×(List ap)) ((List ap))):=fun(b,a)=>
  if(decide (b<(c.length:Int)))=true then(if(decide ((a.length:Int)>0))=true then((inO c b).bind fun _=>(jB c b).bind fun g=>(inO a (CH .i64 ((a.length:Int)-1))).bind fun _=>(jB a (CH .i64 ((a.length:Int)-1))).bind fun i=>if(decide (g.az<=i.fTo))=true then((inO a (CH .i64 ((a.length:Int)-1))).bind fun _=>(jB a (CH .i64 ((a.length:Int)-1))).bind fun e=>(inO c b).bind fun _=>(jB c b).bind fun f=>(inO a (CH .i64 ((a.length:Int)-1))).bind fun _=>(oT a (CH .i64 ((a.length:Int)-1)) (fun(o:ap)=>(ap.mk o.az (if f.fTo>e.fTo then f.fTo else e.fTo)))).bind fun j=>some (.next ((CH .i64 (b+1)),j)))else((inO c b).bind fun _=>(jB c b).bind fun k=>(lu a [k] 16).bind fun l=>some (.next ((CH .i64 (b+1)),l))))else((inO c b).bind fun _=>(jB c b).bind fun m=>(lu a [m] 16).bind fun n=>some (.next ((CH .i64 (b+1)),n))))else(some (.stop a))
def gD(a0:(List ap)):Option ((List ap)):=
  (cI (dq a0) (0,([]:(List ap)))).bind fun a=>(cI (fP a) (0,([]:(List ap)))).bind fun b=>some b
def dM(e:aa×Bool):(Int×(List ap))->Option (jY (Int×(List ap)) ((List ap))):=fun(a,f)=>
  if(decide (a<(e.1.al.length:Int)))=true then((jB e.1.al a).bind fun g=>(jB e.1.al a).bind fun b=>(lu f [(ap.mk g.az b.fTo)] 16).bind fun c=>some (.next ((CH .i64 (a+1)),c)))else(some (.stop f))
def gg(a0:ai)(a1:ac):Option ((List ap)):=
  (dw a0).bind fun c=>if(!c)=true then(some ([]:(List ap)))else((fR a0 a1).bind fun e=>(cI (dM e) (0,([]:(List ap)))).bind fun a=>(gD a).bind fun b=>some b)
def fu(b:aa×Bool)(a2:Int):Int->Option (jY (Int) ((Unit)⊕(ah×Int))):=fun a=>
  if(decide (a<(b.1.al.length:Int)))=true then((jB b.1.al a).bind fun e=>if(decide (e.az<=a2))=true then((jB b.1.al a).bind fun f=>if(decide (a2<f.fTo))=true then((jB b.1.al a).bind fun c=>some (.stop (.inr (c,0))))else(some (.next (CH .i64 (a+1)))))else(some (.next (CH .i64 (a+1)))))else(some (.stop (.inl ())))
def jS(a0:ai)(a1:ac)(a2:Int):Option (ah×Int):=
  (dw a0).bind fun c=>if(!c)=true then(some ((ah.mk 0 0 (av.mk 0 0) (aw.mk 0 0 0) (ar.mk [])),1))else((fR a0 a1).bind fun e=>(cI (fu e a2) 0).bind fun a=>match a with| .inl _=>(some ((ah.mk 0 0 (av.mk 0 0) (aw.mk 0 0 0) (ar.mk [])),6))| .inr b=>(some b))
def iV(a0:aa):Option (ah):=
  if((a0.al.length:Int)==0)=true then(some (ah.mk 0 0 (av.mk 0 0) (aw.mk 0 0 0) (ar.mk [])))else((jB a0.al 0).bind fun x2=>some x2)
def dF(b:(List UInt8))(s2:Int):Int->Option (jY (Int) ((Int)⊕((List (List UInt8))×Bool))):=fun a=>
  if(decide (a<(b.length:Int)))=true then((lr b a).bind fun c=>(dH c).bind fun e=>if(!e)=true then((lr b a).bind fun f=>if(f != 63)=true then((lr b a).bind fun g=>if(g != 42)=true then(some (.stop (.inr (([]:(List (List UInt8))),false))))else(some (.next (CH .i64 (a+1)))))else(some (.next (CH .i64 (a+1)))))else(some (.next (CH .i64 (a+1)))))else(some (.stop (.inl s2)))
def dG(e:(List (List UInt8))):Int->Option (jY (Int) ((Unit)⊕((List (List UInt8))×Bool))):=fun s2=>
  if(decide (s2<(e.length:Int)))=true then((jB e s2).bind fun f=>(cI (dF f s2) 0).bind fun a=>match a with| .inl c=>(if(decide ((f.length:Int)>8))=true then(some (.stop (.inr (([]:(List (List UInt8))),false))))else(some (.next (CH .i64 (c+1)))))| .inr b=>(some (.stop (.inr b))))else(some (.stop (.inl ())))
def ek(a0:(List UInt8)):Option ((List (List UInt8))×Bool):=
  (u7 a0 ([46]:List UInt8)).bind fun c=>(cI (dG c) 0).bind fun a=>match a with| .inl _=>(some (c,((c.length:Int)==4)))| .inr b=>(some b)
def gG(a0:ac):Option (bd):=
  some (bd.mk a0.aD a0.aC a0.au a0.aF)
def bh:Nat->(List UInt8)->(List UInt8)->Option (Bool)
  |0,_,_=>none
  |nfu+1,a0,a1=>
  if(a0== [])=true then(some (a1== []))else((lr a0 0).bind fun x2=>if(x2==42)=true then((lP a0 1 (a0.length:Int)).bind fun l=>((bh nfu) l a1).bind fun m=>if m=true then(some true)else(if(!(a1== []))=true then((lP a1 1 (a1.length:Int)).bind fun n=>((bh nfu) a0 n).bind fun o=>some o)else(some false)))else(if(!(a1== []))=true then((lr a0 0).bind fun a=>if(a==63)=true then((lP a0 1 (a0.length:Int)).bind fun b=>(lP a1 1 (a1.length:Int)).bind fun c=>((bh nfu) b c).bind fun e=>some e)else((lr a0 0).bind fun f=>(lr a1 0).bind fun g=>if(f==g)=true then((lP a0 1 (a0.length:Int)).bind fun i=>(lP a1 1 (a1.length:Int)).bind fun j=>((bh nfu) i j).bind fun k=>some k)else(some false)))else(some false)))
def df(a0:(List UInt8))(a1:(List UInt8)):Option (Bool):=tw fun n=>bh n a0 a1
def eA(a0:(List (List UInt8)))(a1:ac):Option (Bool):=
  (gG a1).bind fun a=>(jB a0 0).bind fun x2=>(df x2 a.a0).bind fun e=>if(!e)=true then(some false)else((jB a0 1).bind fun f=>(df f a.a1).bind fun g=>if(!g)=true then(some false)else((jB a0 2).bind fun i=>(df i a.a2).bind fun j=>if(!j)=true then(some false)else((jB a0 3).bind fun b=>(df b a.a3).bind fun c=>if(!c)=true then(some false)else(some true))))
def d9(a1:(List ac))(g:(List (List UInt8))×Bool):(Int×(List ac))->Option (jY (Int×(List ac)) ((List ac))):=fun(a,b)=>
  if(decide (a<(a1.length:Int)))=true then((jB a1 a).bind fun f=>(cC f).bind fun i=>if i=true then((eA g.1 f).bind fun c=>if c=true then((lu b [f] 64).bind fun e=>some (.next ((CH .i64 (a+1)),e)))else(some (.next ((CH .i64 (a+1)),b))))else(some (.next ((CH .i64 (a+1)),b))))else(some (.stop b))
def gd(a0:(List UInt8))(a1:(List ac)):Option ((List ac)×Int):=
  (ek a0).bind fun b=>if(!b.2)=true then(some (([]:(List ac)),3))else((cI (d9 a1 b) (0,([]:(List ac)))).bind fun a=>some (a,0))
def ch(a0:ai)(a2:Int):(Int×(List ac))->Option (jY (Int×(List ac)) ((List ac))):=fun(a,b)=>
  if(decide (a<(a0.am.length:Int)))=true then((jB a0.am a).bind fun e=>(db e a2).bind fun f=>if f.2=true then((lu b [e.aj] 64).bind fun c=>some (.next ((CH .i64 (a+1)),c)))else(some (.next ((CH .i64 (a+1)),b))))else(some (.stop b))
def dY(a0:ai)(a1:(List UInt8))(a2:Int):Option ((List ac)×Int):=
  (bg a0).bind fun c=>if(!c)=true then(some (([]:(List ac)),1))else((cI (ch a0 a2) (0,([]:(List ac)))).bind fun b=>(gd a1 b).bind fun a=>some (a.1,a.2))
def gC(a0:(List ap))(a1:Int):Int->Option (jY (Int) ((Unit)⊕(Bool))):=fun s1=>
  if(decide (s1<(a0.length:Int)))=true then((jB a0 s1).bind fun a=>if(decide (a.az<=a1))=true then((jB a0 s1).bind fun b=>if(decide (a1<b.fTo))=true then(some (.stop (.inr true)))else(some (.next (CH .i64 (s1+1)))))else(some (.next (CH .i64 (s1+1)))))else(some (.stop (.inl ())))
def gJ(a0:(List ap))(a1:Int):Option (Bool):=
  (cI (gC a0 a1) 0).bind fun b=>match b with| .inl _=>(some false)| .inr a=>(some a)
def gm(a0:(List UInt8))(a1:Int):(Int×(List (List UInt8)))->Option (jY (Int×(List (List UInt8))) ((List (List UInt8)))):=fun(s1,s2)=>
  if(decide (s1<(a0.length:Int)))=true then((lr a0 s1).bind fun f=>if(f==a1)=true then((lu s2 [[]] 16).bind fun g=>some (.next ((CH .i64 (s1+1)),g)))else((inO s2 (CH .i64 ((s2.length:Int)-1))).bind fun _=>(jB s2 (CH .i64 ((s2.length:Int)-1))).bind fun a=>(lP a0 s1 (CH .i64 (s1+1))).bind fun b=>(rY a b).bind fun c=>(inO s2 (CH .i64 ((s2.length:Int)-1))).bind fun _=>(tC s2 (CH .i64 ((s2.length:Int)-1)) c).bind fun e=>some (.next ((CH .i64 (s1+1)),e))))else(some (.stop s2))
def hU(a0:(List UInt8))(a1:Int):Option ((List (List UInt8))):=
  (cI (gm a0 a1) (0,[[]])).bind fun a=>some a
def dL(e:(List (List UInt8)))(b:Int):((List UInt8)×Int)->Option (jY ((List UInt8)×Int) (Int×(List UInt8))):=fun(c,a)=>
  (jB e b).bind fun f=>if(decide (a<(f.length:Int)))=true then((jB e b).bind fun g=>(lr g a).bind fun i=>if(i != 42)=true then((jB e b).bind fun j=>(lr j a).bind fun k=>if(k != 63)=true then((jB e b).bind fun l=>(lP l a (CH .i64 (a+1))).bind fun m=>(rY c m).bind fun n=>some (.next (n,(CH .i64 (a+1)))))else(some (.next (c,(CH .i64 (a+1))))))else(some (.next (c,(CH .i64 (a+1))))))else(some (.stop (b,c)))
def eO(f:(List (List UInt8))):Int->Option (jY (Int) ((Unit)⊕((List (List UInt8))×Bool))):=fun e=>
  if(decide (e<4))=true then((cI (dL f e) (([]:(List UInt8)),0)).bind fun a=>(jB f a.1).bind fun b=>if(decide ((b.length:Int)>8))=true then(some (.stop (.inr (([]:(List (List UInt8))),false))))else((cL a.2 0 8).bind fun c=>if(!c)=true then(some (.stop (.inr (([]:(List (List UInt8))),false))))else(some (.next (CH .i64 (a.1+1))))))else(some (.stop (.inl ())))
def ge(a0:(List UInt8)):Option ((List (List UInt8))×Bool):=
  (hU a0 46).bind fun c=>if((c.length:Int) != 4)=true then(some (([]:(List (List UInt8))),false))else((cI (eO c) 0).bind fun a=>match a with| .inl _=>(some (c,true))| .inr b=>(some b))
def bY(a1:(List UInt8))(a0:(List UInt8))(rc:(List UInt8)->(List UInt8)->Option (Bool)):Int->Option (jY (Int) ((Unit)⊕(Bool))):=fun a=>
  if(decide (a<=(a1.length:Int)))=true then((lP a0 1 (a0.length:Int)).bind fun b=>(lP a1 a (a1.length:Int)).bind fun c=>(rc b c).bind fun e=>if e=true then(some (.stop (.inr true)))else(some (.next (CH .i64 (a+1)))))else(some (.stop (.inl ())))
def bR:Nat->(List UInt8)->(List UInt8)->Option (Bool)
  |0,_,_=>none
  |nfu+1,a0,a1=>
  if(a0== [])=true then(some (a1== []))else((lr a0 0).bind fun x2=>if(x2==42)=true then((cI (bY a1 a0 (bR nfu)) 0).bind fun a=>match a with| .inl _=>(some false)| .inr b=>(some b))else(if(!(a1== []))=true then((lr a0 0).bind fun c=>if(c==63)=true then((lP a0 1 (a0.length:Int)).bind fun e=>(lP a1 1 (a1.length:Int)).bind fun f=>((bR nfu) e f).bind fun g=>some g)else((lr a0 0).bind fun i=>(lr a1 0).bind fun j=>if(i==j)=true then((lP a0 1 (a0.length:Int)).bind fun k=>(lP a1 1 (a1.length:Int)).bind fun l=>((bR nfu) k l).bind fun m=>some m)else(some false)))else(some false)))
def eb(a0:(List UInt8))(a1:(List UInt8)):Option (Bool):=tw fun n=>bR n a0 a1
def hX(a0:(List (List UInt8)))(a1:ac):Option (Bool):=
  (jB a0 0).bind fun c=>(eb c a1.aD).bind fun x2=>if x2=true then((jB a0 1).bind fun e=>(eb e a1.aC).bind fun f=>if f=true then((jB a0 2).bind fun g=>(eb g a1.au).bind fun i=>if i=true then((jB a0 3).bind fun a=>(eb a a1.aF).bind fun b=>some b)else(some false))else(some false))else(some false)
def ew(a1:(List ac))(i:(List (List UInt8))×Bool):(Int×(List ac))->Option (jY (Int×(List ac)) ((List ac))):=fun(a,b)=>
  if(decide (a<(a1.length:Int)))=true then((jB a1 a).bind fun j=>(du j).bind fun k=>if k=true then((jB a1 a).bind fun c=>(hX i.1 c).bind fun e=>if e=true then((jB a1 a).bind fun f=>(lu b [f] 64).bind fun g=>some (.next ((CH .i64 (a+1)),g)))else(some (.next ((CH .i64 (a+1)),b))))else(some (.next ((CH .i64 (a+1)),b))))else(some (.stop b))
def gB(a0:(List UInt8))(a1:(List ac)):Option ((List ac)×Int):=
  (ge a0).bind fun b=>if(!b.2)=true then(some (([]:(List ac)),3))else((cI (ew a1 b) (0,([]:(List ac)))).bind fun a=>some (a,0))
def dc(a0:ai)(a2:Int):(Int×(List ac))->Option (jY (Int×(List ac)) ((List ac))):=fun(a,b)=>
  if(decide (a<(a0.am.length:Int)))=true then((jB a0.am a).bind fun g=>(gg a0 g.aj).bind fun i=>(gJ i a2).bind fun c=>if c=true then((jB a0.am a).bind fun e=>(lu b [e.aj] 64).bind fun f=>some (.next ((CH .i64 (a+1)),f)))else(some (.next ((CH .i64 (a+1)),b))))else(some (.stop b))
def gb(a0:ai)(a1:(List UInt8))(a2:Int):Option ((List ac)×Int):=
  (dw a0).bind fun c=>if(!c)=true then(some (([]:(List ac)),1))else((cI (dc a0 a2) (0,([]:(List ac)))).bind fun b=>(gB a1 b).bind fun a=>some (a.1,a.2))
def ga(a0:(List ac))(a1:(List ac)):Int->Option (jY (Int) ((Unit)⊕(Bool))):=fun s2=>
  if(decide (s2<(a0.length:Int)))=true then((jB a0 s2).bind fun a=>(jB a1 s2).bind fun b=>if(!((a.aD==b.aD)&&((a.aC==b.aC)&&((a.au==b.au)&&((a.aF==b.aF)&&true)))))=true then(some (.stop (.inr false)))else(some (.next (CH .i64 (s2+1)))))else(some (.stop (.inl ())))
def iE(a0:(List ac))(a1:(List ac)):Option (Bool):=
  if((a0.length:Int) != (a1.length:Int))=true then(some false)else((cI (ga a0 a1) 0).bind fun b=>match b with| .inl _=>(some true)| .inr a=>(some a))
def bz(b:aa)(f:Int):Int->Option (jY (Int) ((Int)⊕(Bool))):=fun a=>
  if(decide (a<(b.al.length:Int)))=true then((jB b.al a).bind fun c=>if(decide ((c.aB.aA.length:Int)>12))=true then((dA ).bind fun e=>some (.stop (.inr e)))else(some (.next (CH .i64 (a+1)))))else(some (.stop (.inl f)))
def bL(a1:ai):Int->Option (jY (Int) ((Unit)⊕(Bool))):=fun e=>
  if(decide (e<(a1.am.length:Int)))=true then((jB a1.am e).bind fun a=>if(decide ((a.al.length:Int)>8))=true then((dA ).bind fun f=>some (.stop (.inr f)))else((cI (bz a e) 0).bind fun b=>match b with| .inl g=>(some (.next (CH .i64 (g+1))))| .inr c=>(some (.stop (.inr c)))))else(some (.stop (.inl ())))
def cb(a4:(List UInt8))(c:ai)(e:Int)(j:Int)(k:Int)(l:Int):Int->Option (jY (Int) ((Int×Int×Int)⊕(Bool))):=fun a=>
  if(decide (a<3))=true then((jB [a4,[42,46,42,46,42,46,72,72,63],[71,82,46,42,46,42,46,42]] a).bind fun f=>(dY c f e).bind fun g=>(gb c f e).bind fun i=>if(g.2 != i.2)=true then(some (.stop (.inr false)))else((iE g.1 i.1).bind fun b=>if(!b)=true then(some (.stop (.inr false)))else(some (.next (CH .i64 (a+1))))))else(some (.stop (.inl (j,k,l))))
def bH(a3:Int)(p:Int×ae)(q:Int×ae)(c:ai)(m:ac)(n:aa×Bool)(o:aa×Bool)(a4:(List UInt8)):(Int×Int×Int)->Option (jY (Int×Int×Int) ((Int×Int)⊕(Bool))):=fun(k,l,b)=>
  if(decide (b<3))=true then((jB [a3,(CH .i64 (1000000000000+(CH .i64 (1000*p.1)))),(CH .i64 ((CH .i64 (1000000000000+(CH .i64 (500*q.1))))-1))] b).bind fun e=>(da c m e).bind fun f=>(jS c m e).bind fun g=>if(f.2 != g.2)=true then(some (.stop (.inr false)))else((ca f.1 g.1).bind fun r=>if(!r)=true then(some (.stop (.inr false)))else((iV n.1).bind fun s=>(cy f.1 s).bind fun t=>(iV o.1).bind fun u=>(ca g.1 u).bind fun v=>if(!(t==v))=true then(some (.stop (.inr false)))else((cI (cb a4 c e k l b) 0).bind fun i=>match i with| .inl a=>(some (.next (a.1,a.2.1,(CH .i64 (a.2.2+1)))))| .inr j=>(some (.stop (.inr j)))))))else(some (.stop (.inl (k,l))))
def cd(a2:ac)(p:(List UInt8))(q:(List UInt8))(r:(List UInt8))(s:(List UInt8))(a:ai)(a3:Int)(a4:(List UInt8)):(Int×Int×(List Int)×Int)->Option (jY (Int×Int×(List Int)×Int) ((Int×(List Int)×Int)⊕(Bool))):=fun(l,e,m,n)=>
  if(decide (e<2))=true then((jB [a2,(ac.mk p q r s)] e).bind fun b=>(bW a b).bind fun f=>(fR a b).bind fun g=>if(!(f.2==g.2))=true then(some (.stop (.inr false)))else((gT (ai.mk [f.1]) (ai.mk [g.1])).bind fun t=>if(!t)=true then(some (.stop (.inr false)))else((bO a b).bind fun u=>(gg a b).bind fun v=>(eY u v).bind fun x=>if(!x)=true then(some (.stop (.inr false)))else((aN 30 (ae.mk m n)).bind fun o=>(aN 60 o.2).bind fun i=>(cI (bH a3 o i a b f g a4) (l,e,0)).bind fun j=>match j with| .inl c=>(some (.next (c.1,(CH .i64 (c.2+1)),i.2.fL,i.2.fAt)))| .inr k=>(some (.stop (.inr k)))))))else(some (.stop (.inl (l,m,n))))
def ce(b:aa)(e:Int):Int->Option (jY (Int) ((Int)⊕(Bool))):=fun a=>
  if(decide (a<(b.al.length:Int)))=true then((jB b.al a).bind fun c=>(bD c).bind fun f=>(cH c).bind fun g=>if(!(f==g))=true then(some (.stop (.inr false)))else(some (.next (CH .i64 (a+1)))))else(some (.stop (.inl e)))
def cf(f:ai):Int->Option (jY (Int) ((Unit)⊕(Bool))):=fun a=>
  if(decide (a<(f.am.length:Int)))=true then((jB f.am a).bind fun e=>(cI (ce e a) 0).bind fun b=>match b with| .inl g=>(some (.next (CH .i64 (g+1))))| .inr c=>(some (.stop (.inr c))))else(some (.stop (.inl ())))
def ba(a2:ac)(g:ai)(a3:Int)(a4:(List UInt8))(o:Int)(i:(List Int))(j:Int)(k:(List UInt8))(l:(List UInt8))(m:(List UInt8))(n:(List UInt8)):Option (jY (Int×(List Int)×Int) ((Unit)⊕(Bool))):=
  (cI (cd a2 k l m n g a3 a4) (o,0,i,j)).bind fun b=>match b with| .inl a=>((cI (cf g) 0).bind fun c=>match c with| .inl _=>(some (.next ((CH .i64 (a.1+1)),a.2.1,a.2.2)))| .inr f=>(some (.stop (.inr f))))| .inr e=>(some (.stop (.inr e)))
def cg(i:ai×ae)(l:ai×ae)(a1:ai)(a2:ac)(a3:Int)(a4:(List UInt8)):(Int×(List Int)×Int)->Option (jY (Int×(List Int)×Int) ((Unit)⊕(Bool))):=fun(f,j,k)=>
  if(decide (f<3))=true then((jB [i.1,l.1,a1] f).bind fun b=>(bg b).bind fun m=>(dw b).bind fun n=>if(!(m==n))=true then(some (.stop (.inr false)))else((fk b i.1).bind fun o=>(gT b i.1).bind fun p=>if(!(o==p))=true then(some (.stop (.inr false)))else((cZ (ae.mk j k)).bind fun a=>if(decide ((b.am.length:Int)>0))=true then((aN 3 a.2).bind fun c=>if(decide (c.1>0))=true then((aN (b.am.length:Int) c.2).bind fun g=>(jB b.am g.1).bind fun e=>ba a2 b a3 a4 f g.2.fL g.2.fAt e.aj.aD e.aj.aC e.aj.au e.aj.aF)else(ba a2 b a3 a4 f c.2.fL c.2.fAt a.1.aD a.1.aC a.1.au a.1.aF))else(ba a2 b a3 a4 f a.2.fL a.2.fAt a.1.aD a.1.aC a.1.au a.1.aF))))else(some (.stop (.inl ())))
def cr(a0:(List Int))(a1:ai)(a2:ac)(a3:Int)(a4:(List UInt8)):Option (Bool):=
  (jy a0).bind fun k=>if(!k)=true then((dA ).bind fun l=>some l)else(if(decide ((a1.am.length:Int)>8))=true then((dA ).bind fun m=>some m)else(if(decide ((a4.length:Int)>40))=true then((dA ).bind fun n=>some n)else((cI (bL a1) 0).bind fun g=>match g with| .inl _=>((jg a0).bind fun j=>(ff 7 j).bind fun a=>(fc a.1 a.2).bind fun b=>(cI (cg a b a1 a2 a3 a4) (0,b.2.fL,b.2.fAt)).bind fun c=>match c with| .inl _=>((dA ).bind fun f=>some f)| .inr e=>(some e))| .inr i=>(some i))))
end
end Go.Dw.Ix
