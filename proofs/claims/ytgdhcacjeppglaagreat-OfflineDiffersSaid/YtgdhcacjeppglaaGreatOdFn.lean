
import Derived.Test.YtgdhcacjeppglaaGreatDwLift4
open Go.IntKind renaming wrap->CA

namespace Go.Dw.Od
open Go.Dw
noncomputable section
def bN:Option Bool:=some true
structure aa where
  fL:(List Int)
  fAt:Int
  deriving DecidableEq
def aa.pd(x:aa):PD:= .agg [.lst (x.fL.map (PD.int .i64)),.int .i64 x.fAt]
structure aI where
  aL:(List UInt8)
  aN:(List UInt8)
  ah:(List UInt8)
  aK:(List UInt8)
  deriving DecidableEq
def aI.pd(x:aI):PD:= .agg [.str x.aL,.str x.aN,.str x.ah,.str x.aK]
structure ac where
  ak:aI
  aG:Int
  aW:Int
  bd:Int
  av:Int
  az:Int
  deriving DecidableEq
def ac.pd(x:ac):PD:= .agg [.str x.ak.aL,.str x.ak.aN,.str x.ak.ah,.str x.ak.aK,.int .i64 x.aG,.int .i64 x.aW,.int .i64 x.bd,.int .i64 x.av,.int .i64 x.az]
structure aj where
  fX:Int
  fY:Int
  fZ:Int
  deriving DecidableEq
def aj.pd(x:aj):PD:= .agg [.int .i64 x.fX,.int .i64 x.fY,.int .i64 x.fZ]
structure ba where
  aT:aj
  aB:aj
  deriving DecidableEq
def ba.pd(x:ba):PD:= .agg [.int .i64 x.aT.fX,.int .i64 x.aT.fY,.int .i64 x.aT.fZ,.int .i64 x.aB.fX,.int .i64 x.aB.fY,.int .i64 x.aB.fZ]
structure ap where
  aH:aj
  aG:Int
  bp:Int
  bG:Int
  au:ba
  deriving DecidableEq
def ap.pd(x:ap):PD:= .agg [.int .i64 x.aH.fX,.int .i64 x.aH.fY,.int .i64 x.aH.fZ,.int .i64 x.aG,.int .i64 x.bp,.int .i64 x.bG,.int .i64 x.au.aT.fX,.int .i64 x.au.aT.fY,.int .i64 x.au.aT.fZ,.int .i64 x.au.aB.fX,.int .i64 x.au.aB.fY,.int .i64 x.au.aB.fZ]
structure ar where
  aT:Int
  aB:Int
  deriving DecidableEq
def ar.pd(x:ar):PD:= .agg [.int .i64 x.aT,.int .i64 x.aB]
structure am where
  aM:(List ac)
  ah:ap
  aq:ar
  aU:Int
  deriving DecidableEq
def am.pd(x:am):PD:= .agg [.lst (x.aM.map ac.pd),.int .i64 x.ah.aH.fX,.int .i64 x.ah.aH.fY,.int .i64 x.ah.aH.fZ,.int .i64 x.ah.aG,.int .i64 x.ah.bp,.int .i64 x.ah.bG,.int .i64 x.ah.au.aT.fX,.int .i64 x.ah.au.aT.fY,.int .i64 x.ah.au.aT.fZ,.int .i64 x.ah.au.aB.fX,.int .i64 x.ah.au.aB.fY,.int .i64 x.ah.au.aB.fZ,.int .i64 x.aq.aT,.int .i64 x.aq.aB,.int .i64 x.aU]
structure ae where
  al:ac
  ai:am
  deriving DecidableEq
def ae.pd(x:ae):PD:= .agg [.str x.al.ak.aL,.str x.al.ak.aN,.str x.al.ak.ah,.str x.al.ak.aK,.int .i64 x.al.aG,.int .i64 x.al.aW,.int .i64 x.al.bd,.int .i64 x.al.av,.int .i64 x.al.az,.lst (x.ai.aM.map ac.pd),.int .i64 x.ai.ah.aH.fX,.int .i64 x.ai.ah.aH.fY,.int .i64 x.ai.ah.aH.fZ,.int .i64 x.ai.ah.aG,.int .i64 x.ai.ah.bp,.int .i64 x.ai.ah.bG,.int .i64 x.ai.ah.au.aT.fX,.int .i64 x.ai.ah.au.aT.fY,.int .i64 x.ai.ah.au.aT.fZ,.int .i64 x.ai.ah.au.aB.fX,.int .i64 x.ai.ah.au.aB.fY,.int .i64 x.ai.ah.au.aB.fZ,.int .i64 x.ai.aq.aT,.int .i64 x.ai.aq.aB,.int .i64 x.ai.aU]
def ca(a0:(List Int)):Option (aa):=
  (cutO a0 0 (if 2000<(a0.length:Int)then 2000 else(a0.length:Int))).bind fun a=>some (aa.mk a 0)
def Src_Raw(d0:aa):Option (Int×aa):=
  if(decide (d0.fAt>=(d0.fL.length:Int)))=true then(some (0,d0))else((e8 d0.fL (CA .i64 ((CA .i64 (d0.fAt+1))-1))).bind fun a=>some (a,(aa.mk d0.fL (CA .i64 (d0.fAt+1)))))
def bR(a0:Int)(a:Int):Option (Int):=
  if(decide (a<1))=true then(some 0)else((remO a0 a).bind fun b=>if(decide (b<0))=true then(some (CA .i64 (b+a)))else(some b))
def bz(b:Int)(d0:aa):Option (Int×aa):=
  (Src_Raw d0).bind fun a=>(bR a.1 b).bind fun c=>some (c,a.2)
def bS(a0:Int):Option (aI):=
  (bR a0 6).bind fun a=>(e8 [[83,49],[83,50],[83,51],[83,52],[83,53],[83,54]] a).bind fun b=>some (aI.mk [65,66] b [48,48] [66,72,90])
def bU(a:Int)(d0:aa):Option (aj×aa):=
  (bz (CA .i64 ((CA .i64 (2*a))+1)) d0).bind fun b=>(bz (CA .i64 ((CA .i64 (2*a))+1)) b.2).bind fun c=>(bz (CA .i64 (a+1)) c.2).bind fun e=>some ((aj.mk (CA .i64 (b.1-a)) (CA .i64 (c.1-a)) e.1),e.2)
def bZ(a:(List Int))(d0:aa):Option (Int×aa):=
  (bz (a.length:Int) d0).bind fun b=>(e8 a b.1).bind fun c=>some (c,b.2)
def bH(e:Int×aa)(c:Int):(Int×(List Int)×Int×(List ac))->Option (dK (Int×(List Int)×Int×(List ac)) ((List Int)×Int×(List ac))):=fun(s2,j,k,i)=>
  (bz 4 (aa.mk j k)).bind fun a=>if(decide (s2<(CA .i64 (1+a.1))))=true then((bS s2).bind fun f=>(bz 3 a.2).bind fun b=>(gJ i [(ac.mk f (CA .i64 ((CA .i64 (1000+e.1))+(CA .i64 (10*c)))) (CA .i64 ((CA .i64 (1000+e.1))+(CA .i64 (10*c)))) (CA .i64 ((CA .i64 ((CA .i64 (1000+e.1))+(CA .i64 (10*c))))+b.1)) c 0)] 104).bind fun g=>some (.next ((CA .i64 (s2+1)),b.2.fL,b.2.fAt,g)))else(some (.stop (a.2.fL,a.2.fAt,i)))
def bT(l:Int)(d0:aa):Option (ae×aa):=
  (bz 300 d0).bind fun i=>(dk (bH i l) (0,i.2.fL,i.2.fAt,([]:(List ac)))).bind fun b=>(inO b.2.2 0).bind fun _=>(e8 b.2.2 0).bind fun j=>(bU 20 (aa.mk b.1 b.2.1)).bind fun a=>(bz 40 a.2).bind fun e=>(bZ [0,0,5,500] e.2).bind fun f=>(bz 3 f.2).bind fun c=>if(decide (c.1>0))=true then((bz 400 c.2).bind fun g=>(bz 60 g.2).bind fun k=>some ((ae.mk j (am.mk b.2.2 (ap.mk a.1 (CA .i64 ((CA .i64 (1000+i.1))-e.1)) f.1 0 (ba.mk a.1 a.1)) (ar.mk g.1 (CA .i64 (g.1+k.1))) c.1)),k.2))else(some ((ae.mk j (am.mk b.2.2 (ap.mk a.1 (CA .i64 ((CA .i64 (1000+i.1))-e.1)) f.1 0 (ba.mk a.1 a.1)) (ar.mk 0 0) c.1)),c.2))
def bF(f:ae×aa)(s1:Int)(l:(List ae)):(Int×(List ac))->Option (dK (Int×(List ac)) (Int×(List ae)×(List ac))):=fun(a,e)=>
  if(decide (a<(f.1.ai.aM.length:Int)))=true then((inO e a).bind fun _=>(modO e a (fun(z23:ac)=>(ac.mk z23.ak (CA .i64 ((CA .i64 (1000+(CA .i64 (400*s1))))+a)) z23.aW z23.bd z23.av z23.az))).bind fun g=>(modO g a (fun(z25:ac)=>(ac.mk z25.ak z25.aG (CA .i64 ((CA .i64 (1000+(CA .i64 (400*s1))))+a)) z25.bd z25.av z25.az))).bind fun i=>(modO i a (fun(b:ac)=>(ac.mk b.ak b.aG b.aW (CA .i64 ((CA .i64 ((CA .i64 (1000+(CA .i64 (400*s1))))+a))+2)) b.av b.az))).bind fun j=>(modO j a (fun(c:ac)=>(ac.mk c.ak c.aG c.aW c.bd 7 c.az))).bind fun k=>some (.next ((CA .i64 (a+1)),k)))else(some (.stop (s1,l,e)))
def bM(l:Int):(Int×(List Int)×Int×(List ae))->Option (dK (Int×(List Int)×Int×(List ae)) ((List ae)×(List Int)×Int)):=fun(s1,s2,k,g)=>
  if(decide (s1<l))=true then((bz 3 (aa.mk s2 k)).bind fun c=>if(c.1==0)=true then(some (.next ((CA .i64 (s1+1)),c.2.fL,c.2.fAt,g)))else((bT 1 c.2).bind fun b=>(dk (bF b s1 g) (0,b.1.ai.aM)).bind fun a=>(bz 2 b.2).bind fun e=>(cutO a.2.2 (if(CA .i64 ((a.2.2.length:Int)-1))<e.1 then(CA .i64 ((a.2.2.length:Int)-1))else e.1) (a.2.2.length:Int)).bind fun f=>(e8 f 0).bind fun i=>(gJ a.2.1 [(ae.mk i (am.mk f b.1.ai.ah b.1.ai.aq b.1.ai.aU))] 248).bind fun j=>some (.next ((CA .i64 (a.1+1)),e.2.fL,e.2.fAt,j))))else(some (.stop (g,s2,k)))
def bD(b:Int)(d0:aa):Option ((List ae)×aa):=
  (dk (bM b) (0,d0.fL,d0.fAt,([]:(List ae)))).bind fun a=>some (a.1,(aa.mk a.2.1 a.2.2))
def br(a0:ae)(d0:ac):Option (Bool):=
  some (((a0.al.ak.aL==d0.ak.aL)&&((a0.al.ak.aN==d0.ak.aN)&&((a0.al.ak.ah==d0.ak.ah)&&((a0.al.ak.aK==d0.ak.aK)&&true))))&&((a0.al.aG==d0.aG)&&((a0.al.aW==d0.aW)&&((a0.al.bd==d0.bd)&&((a0.al.av==d0.av)&&((a0.al.az==d0.az)&&true))))))
def aF(a0:(List ae))(d0:ac):Int->Option (dK (Int) ((Unit)⊕(Int))):=fun s1=>
  if(decide (s1<(a0.length:Int)))=true then((e8 a0 s1).bind fun a=>(br a d0).bind fun b=>if b=true then(some (.stop (.inr s1)))else(some (.next (CA .i64 (s1+1)))))else(some (.stop (.inl ())))
def aS(a0:(List ae))(d0:ac):Option (Int):=
  (dk (aF a0 d0) 0).bind fun b=>match b with| .inl _=>(some (-1))| .inr a=>(some a)
def bA(a0:(List ae))(a:ac):Option (Int):=
  (aS a0 a).bind fun b=>some b
def aZ(a0:(List ac))(c:(List ac)):Int->Option (dK (Int) ((Unit)⊕(Bool))):=fun s2=>
  if(decide (s2<(a0.length:Int)))=true then((e8 a0 s2).bind fun a=>(e8 c s2).bind fun b=>if(!(((a.ak.aL==b.ak.aL)&&((a.ak.aN==b.ak.aN)&&((a.ak.ah==b.ak.ah)&&((a.ak.aK==b.ak.aK)&&true))))&&((a.aG==b.aG)&&((a.aW==b.aW)&&((a.bd==b.bd)&&((a.av==b.av)&&((a.az==b.az)&&true)))))))=true then(some (.stop (.inr false)))else(some (.next (CA .i64 (s2+1)))))else(some (.stop (.inl ())))
def aX(a0:(List ac))(b:(List ac)):Option (Bool):=
  if((a0.length:Int) != (b.length:Int))=true then(some false)else((dk (aZ a0 b) 0).bind fun c=>match c with| .inl _=>(some true)| .inr a=>(some a))
def bh(a0:am)(a:am):Option (Bool):=
  (aX a0.aM a.aM).bind fun b=>if b=true then(if(((a0.ah.aH.fX==a.ah.aH.fX)&&((a0.ah.aH.fY==a.ah.aH.fY)&&((a0.ah.aH.fZ==a.ah.aH.fZ)&&true)))&&((a0.ah.aG==a.ah.aG)&&((a0.ah.bp==a.ah.bp)&&((a0.ah.bG==a.ah.bG)&&((((a0.ah.au.aT.fX==a.ah.au.aT.fX)&&((a0.ah.au.aT.fY==a.ah.au.aT.fY)&&((a0.ah.au.aT.fZ==a.ah.au.aT.fZ)&&true)))&&(((a0.ah.au.aB.fX==a.ah.au.aB.fX)&&((a0.ah.au.aB.fY==a.ah.au.aB.fY)&&((a0.ah.au.aB.fZ==a.ah.au.aB.fZ)&&true)))&&true))&&true)))))=true then(if((a0.aq.aT==a.aq.aT)&&((a0.aq.aB==a.aq.aB)&&true))=true then(some (a0.aU==a.aU))else(some false))else(some false))else(some false)
def aC(a0:(List ae))(i:(List ae)):(Int×(List ac)×(List ac))->Option (dK (Int×(List ac)×(List ac)) ((List ac)×(List ac))):=fun(s1,s2,a)=>
  if(decide (s1<(a0.length:Int)))=true then((e8 a0 s1).bind fun b=>(bA i b.al).bind fun j=>if(decide (j<0))=true then((gJ s2 [b.al] 104).bind fun c=>some (.next ((CA .i64 (s1+1)),c,a)))else((e8 i j).bind fun e=>(bh b.ai e.ai).bind fun f=>if(!f)=true then((gJ a [b.al] 104).bind fun g=>some (.next ((CA .i64 (s1+1)),s2,g)))else(some (.next ((CA .i64 (s1+1)),s2,a)))))else(some (.stop (s2,a)))
def aD(g:(List ae))(a0:(List ae)):(Int×(List ac))->Option (dK (Int×(List ac)) ((List ac))):=fun(a,b)=>
  if(decide (a<(g.length:Int)))=true then((e8 g a).bind fun c=>(bA a0 c.al).bind fun e=>if(decide (e<0))=true then((gJ b [c.al] 104).bind fun f=>some (.next ((CA .i64 (a+1)),f)))else(some (.next ((CA .i64 (a+1)),b))))else(some (.stop b))
def aP(a0:(List ae))(c:(List ae)):Option ((List ac)×(List ac)×(List ac)):=
  (dk (aC a0 c) (0,([]:(List ac)),([]:(List ac)))).bind fun a=>(dk (aD c a0) (0,([]:(List ac)))).bind fun b=>some (a.1,b,a.2)
def bi(a0:ae)(a:ae):Option (Bool):=
  if(((a0.al.ak.aL==a.al.ak.aL)&&((a0.al.ak.aN==a.al.ak.aN)&&((a0.al.ak.ah==a.al.ak.ah)&&((a0.al.ak.aK==a.al.ak.aK)&&true))))&&((a0.al.aG==a.al.aG)&&((a0.al.aW==a.al.aW)&&((a0.al.bd==a.al.bd)&&((a0.al.av==a.al.av)&&((a0.al.az==a.al.az)&&true))))))=true then((bh a0.ai a.ai).bind fun b=>some b)else(some false)
def aO(a0:(List ae))(a:(List ae)):Int->Option (dK (Int) ((Unit)⊕(Bool))):=fun s2=>
  if(decide (s2<(a0.length:Int)))=true then((e8 a0 s2).bind fun b=>(e8 a s2).bind fun c=>(bi b c).bind fun e=>if(!e)=true then(some (.stop (.inr false)))else(some (.next (CA .i64 (s2+1)))))else(some (.stop (.inl ())))
def aQ(a0:(List ae))(c:(List ae)):Option (Bool):=
  if((a0.length:Int) != (c.length:Int))=true then(some false)else((dk (aO a0 c) 0).bind fun a=>match a with| .inl _=>(some true)| .inr b=>(some b))
def bt(a0:(List ae))(a:(List ae)):Option (Bool):=
  (aQ a0 a).bind fun b=>some b
def bn(a0:(List ac))(c:(List ac)):Int->Option (dK (Int) ((Unit)⊕(Bool))):=fun s2=>
  if(decide (s2<(a0.length:Int)))=true then((e8 a0 s2).bind fun a=>(e8 c s2).bind fun b=>if(!(((a.ak.aL==b.ak.aL)&&((a.ak.aN==b.ak.aN)&&((a.ak.ah==b.ak.ah)&&((a.ak.aK==b.ak.aK)&&true))))&&((a.aG==b.aG)&&((a.aW==b.aW)&&((a.bd==b.bd)&&((a.av==b.av)&&((a.az==b.az)&&true)))))))=true then(some (.stop (.inr false)))else(some (.next (CA .i64 (s2+1)))))else(some (.stop (.inl ())))
def aw(a0:(List ac))(b:(List ac)):Option (Bool):=
  if((a0.length:Int) != (b.length:Int))=true then(some false)else((dk (bn a0 b) 0).bind fun c=>match c with| .inl _=>(some true)| .inr a=>(some a))
def aJ(e:(List ae)×aa)(c:(List ae)):Option (Bool):=
  (aP e.1 c).bind fun a=>(aP c e.1).bind fun b=>if((a.1.length:Int)==0)=true then(if((a.2.1.length:Int)==0)=true then((bt e.1 c).bind fun u=>if(((a.2.2.length:Int)==0)==u)=true then((aw a.1 b.2.1).bind fun f=>if f=true then((aw a.2.1 b.1).bind fun g=>if g=true then((aw a.2.2 b.2.2).bind fun i=>if i=true then((bN ).bind fun j=>some j)else(some false))else(some false))else(some false))else(some false))else((bt e.1 c).bind fun k=>if(false==k)=true then((aw a.1 b.2.1).bind fun l=>if l=true then((aw a.2.1 b.1).bind fun m=>if m=true then((aw a.2.2 b.2.2).bind fun n=>if n=true then((bN ).bind fun o=>some o)else(some false))else(some false))else(some false))else(some false)))else((bt e.1 c).bind fun p=>if(false==p)=true then((aw a.1 b.2.1).bind fun q=>if q=true then((aw a.2.1 b.1).bind fun r=>if r=true then((aw a.2.2 b.2.2).bind fun s=>if s=true then((bN ).bind fun t=>some t)else(some false))else(some false))else(some false))else(some false))
def aY(a0:(List Int)):Option (Bool):=
  (ca a0).bind fun f=>(bD 5 f).bind fun a=>(bD 5 a.2).bind fun e=>(bz 3 e.2).bind fun b=>if(b.1==0)=true then((gJ ([]:List ae) a.1 248).bind fun c=>aJ a c)else(aJ a e.1)
end
end Go.Dw.Od
