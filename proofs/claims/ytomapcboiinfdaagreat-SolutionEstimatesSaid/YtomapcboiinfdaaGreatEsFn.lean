
import Derived.Test.YtomapcboiinfdaaGreatDwLift4
import Derived.Test.YtomapcboiinfdaaGreatDwSort
set_option linter.unusedVariables false
set_option linter.unusedSimpArgs false
open Go.IntKind renaming wrap->Bw

namespace Go.Dw.Es
open Go.Dw
noncomputable section
def ln:Option Bool:=some true
structure ac where
  fX:Int
  fY:Int
  fZ:Int
  deriving DecidableEq
def ac.pd(x:ac):PD:= .agg [.int .i64 x.fX,.int .i64 x.fY,.int .i64 x.fZ]
structure aq where
  aG:ac
  aB:ac
  deriving DecidableEq
def aq.pd(x:aq):PD:= .agg [.int .i64 x.aG.fX,.int .i64 x.aG.fY,.int .i64 x.aG.fZ,.int .i64 x.aB.fX,.int .i64 x.aB.fY,.int .i64 x.aB.fZ]
structure ap where
  aY:Int
  aG:(List Int)
  aB:(List Int)
  deriving DecidableEq
def ap.pd(x:ap):PD:= .agg [.int .i64 x.aY,.lst (x.aG.map (PD.int .i64)),.lst (x.aB.map (PD.int .i64))]
structure aJ where
  aU:aq
  bj:ap
  gK:Int
  aK:Int
  dn:Int
  ce:Int
  b9:Int
  deriving DecidableEq
def aJ.pd(x:aJ):PD:= .agg [.int .i64 x.aU.aG.fX,.int .i64 x.aU.aG.fY,.int .i64 x.aU.aG.fZ,.int .i64 x.aU.aB.fX,.int .i64 x.aU.aB.fY,.int .i64 x.aU.aB.fZ,.int .i64 x.bj.aY,.lst (x.bj.aG.map (PD.int .i64)),.lst (x.bj.aB.map (PD.int .i64)),.int .i64 x.gK,.int .i64 x.aK,.int .i64 x.dn,.int .i64 x.ce,.int .i64 x.b9]
structure aM where
  aV:ap
  aQ:Int
  aL:Int
  deriving DecidableEq
def aM.pd(x:aM):PD:= .agg [.int .i64 x.aV.aY,.lst (x.aV.aG.map (PD.int .i64)),.lst (x.aV.aB.map (PD.int .i64)),.int .i64 x.aQ,.int .i64 x.aL]
structure ag where
  ae:aJ
  bi:aM
  aK:Int
  deriving DecidableEq
def ag.pd(x:ag):PD:= .agg [.int .i64 x.ae.aU.aG.fX,.int .i64 x.ae.aU.aG.fY,.int .i64 x.ae.aU.aG.fZ,.int .i64 x.ae.aU.aB.fX,.int .i64 x.ae.aU.aB.fY,.int .i64 x.ae.aU.aB.fZ,.int .i64 x.ae.bj.aY,.lst (x.ae.bj.aG.map (PD.int .i64)),.lst (x.ae.bj.aB.map (PD.int .i64)),.int .i64 x.ae.gK,.int .i64 x.ae.aK,.int .i64 x.ae.dn,.int .i64 x.ae.ce,.int .i64 x.ae.b9,.int .i64 x.bi.aV.aY,.lst (x.bi.aV.aG.map (PD.int .i64)),.lst (x.bi.aV.aB.map (PD.int .i64)),.int .i64 x.bi.aQ,.int .i64 x.bi.aL,.int .i64 x.aK]
structure ak where
  aZ:(List UInt8)
  aS:(List UInt8)
  aO:(List UInt8)
  bg:(List UInt8)
  deriving DecidableEq
def ak.pd(x:ak):PD:= .agg [.str x.aZ,.str x.aS,.str x.aO,.str x.bg]
structure bh where
  aQ:Int
  aL:Int
  deriving DecidableEq
def bh.pd(x:bh):PD:= .agg [.int .i64 x.aQ,.int .i64 x.aL]
structure aP where
  a0:Int
  a1:Int
  a2:Int
  deriving DecidableEq
def aP.pd(x:aP):PD:= .agg [.int .i64 x.a0,.int .i64 x.a1,.int .i64 x.a2]
structure au where
  bu:Int
  aQ:aP
  aL:aP
  bp:(List Int)
  bc:Int
  bq:Int
  deriving DecidableEq
def au.pd(x:au):PD:= .agg [.int .i64 x.bu,.int .i64 x.aQ.a0,.int .i64 x.aQ.a1,.int .i64 x.aQ.a2,.int .i64 x.aL.a0,.int .i64 x.aL.a1,.int .i64 x.aL.a2,.lst (x.bp.map (PD.int .i64)),.int .i64 x.bc,.int .i64 x.bq]
structure aA where
  aD:(List au)
  deriving DecidableEq
def aA.pd(x:aA):PD:= .agg [.lst (x.aD.map au.pd)]
structure al where
  bC:Int
  fTo:Int
  cm:bh
  aI:ac
  ba:aA
  deriving DecidableEq
def al.pd(x:al):PD:= .agg [.int .i64 x.bC,.int .i64 x.fTo,.int .i64 x.cm.aQ,.int .i64 x.cm.aL,.int .i64 x.aI.fX,.int .i64 x.aI.fY,.int .i64 x.aI.fZ,.lst (x.ba.aD.map au.pd)]
structure aj where
  az:ak
  aH:(List al)
  deriving DecidableEq
def aj.pd(x:aj):PD:= .agg [.str x.az.aZ,.str x.az.aS,.str x.az.aO,.str x.az.bg,.lst (x.aH.map al.pd)]
structure ah where
  aw:(List aj)
  deriving DecidableEq
def ah.pd(x:ah):PD:= .agg [.lst (x.aw.map aj.pd)]
structure ai where
  az:ak
  br:Int
  bd:Int
  bk:Int
  aN:Int
  aT:Int
  deriving DecidableEq
def ai.pd(x:ai):PD:= .agg [.str x.az.aZ,.str x.az.aS,.str x.az.aO,.str x.az.bg,.int .i64 x.br,.int .i64 x.bd,.int .i64 x.bk,.int .i64 x.aN,.int .i64 x.aT]
structure aW where
  a0:Int
  a1:Int
  deriving DecidableEq
def aW.pd(x:aW):PD:= .agg [.int .i64 x.a0,.int .i64 x.a1]
structure aa where
  fL:(List Int)
  fAt:Int
  deriving DecidableEq
def aa.pd(x:aa):PD:= .agg [.lst (x.fL.map (PD.int .i64)),.int .i64 x.fAt]
structure av where
  aG:Int
  aB:Int
  deriving DecidableEq
def av.pd(x:av):PD:= .agg [.int .i64 x.aG,.int .i64 x.aB]
structure aC where
  aS:ac
  bd:Int
  bk:Int
  jS:Int
  deriving DecidableEq
def aC.pd(x:aC):PD:= .agg [.int .i64 x.aS.fX,.int .i64 x.aS.fY,.int .i64 x.aS.fZ,.int .i64 x.bd,.int .i64 x.bk,.int .i64 x.jS]
structure aX where
  fpicks:(List ai)
  jT:(List aC)
  fepochs:(List al)
  deriving DecidableEq
def aX.pd(x:aX):PD:= .agg [.lst (x.fpicks.map ai.pd),.lst (x.jT.map aC.pd),.lst (x.fepochs.map al.pd)]
structure bv where
  bC:Int
  fTo:Int
  deriving DecidableEq
def bv.pd(x:bv):PD:= .agg [.int .i64 x.bC,.int .i64 x.fTo]
structure ar where
  aQ:(List Int)
  aL:(List Int)
  deriving DecidableEq
def ar.pd(x:ar):PD:= .agg [.lst (x.aQ.map (PD.int .i64)),.lst (x.aL.map (PD.int .i64))]
structure A4_Int where
  a0:Int
  a1:Int
  a2:Int
  a3:Int
  deriving DecidableEq
def A4_Int.pd(x:A4_Int):PD:= .agg [.int .i64 x.a0,.int .i64 x.a1,.int .i64 x.a2,.int .i64 x.a3]
structure cz where
  a0:aW
  a1:aW
  a2:aW
  a3:aW
  a4:aW
  deriving DecidableEq
def cz.pd(x:cz):PD:= .agg [.int .i64 x.a0.a0,.int .i64 x.a0.a1,.int .i64 x.a1.a0,.int .i64 x.a1.a1,.int .i64 x.a2.a0,.int .i64 x.a2.a1,.int .i64 x.a3.a0,.int .i64 x.a3.a1,.int .i64 x.a4.a0,.int .i64 x.a4.a1]
def eE(a0:ap):Option (Bool):=
  if(decide ((a0.aG.length:Int)<=300))=true then(some (decide ((a0.aB.length:Int)<=300)))else(some false)
def jj(a0:aq):Option (Int):=
  if(decide (a0.aG.fX>a0.aB.fX))=true then(some 0)else(if(decide (a0.aG.fX<(-1048576)))=true then(some 0)else(if(decide (a0.aB.fX>1048576))=true then(some 0)else(if(decide ((Bw .i64 (a0.aB.fX-a0.aG.fX))>100))=true then(some 1000)else(if(decide (a0.aG.fY>a0.aB.fY))=true then(some 0)else(if(decide (a0.aG.fY<(-1048576)))=true then(some 0)else(if(decide (a0.aB.fY>1048576))=true then(some 0)else(if(decide ((Bw .i64 (a0.aB.fY-a0.aG.fY))>100))=true then(some 1000)else(if(decide (a0.aG.fZ>a0.aB.fZ))=true then(some 0)else(if(decide (a0.aG.fZ<(-1048576)))=true then(some 0)else(if(decide (a0.aB.fZ>1048576))=true then(some 0)else(if(decide ((Bw .i64 (a0.aB.fZ-a0.aG.fZ))>100))=true then(some 1000)else(some (if 1000<(Bw .i64 ((Bw .i64 ((Bw .i64 (1*(Bw .i64 ((Bw .i64 (a0.aB.fX-a0.aG.fX))+1))))*(Bw .i64 ((Bw .i64 (a0.aB.fY-a0.aG.fY))+1))))*(Bw .i64 ((Bw .i64 (a0.aB.fZ-a0.aG.fZ))+1))))then 1000 else(Bw .i64 ((Bw .i64 ((Bw .i64 (1*(Bw .i64 ((Bw .i64 (a0.aB.fX-a0.aG.fX))+1))))*(Bw .i64 ((Bw .i64 (a0.aB.fY-a0.aG.fY))+1))))*(Bw .i64 ((Bw .i64 (a0.aB.fZ-a0.aG.fZ))+1)))))))))))))))))
def ey(a0:ag):Option (Bool):=
  (eE a0.ae.bj).bind fun a=>if a=true then((eE a0.bi.aV).bind fun b=>if b=true then((jj a0.ae.aU).bind fun c=>some (decide (c<300)))else(some false))else(some false)
def gN(a0:aA):Int->Option (mI (Int) ((Unit)⊕(Bool))):=fun s1=>
  if(decide (s1<(a0.aD.length:Int)))=true then((mO a0.aD s1).bind fun a=>if(decide ((a.bp.length:Int)>200))=true then(some (.stop (.inr false)))else(some (.next (Bw .i64 (s1+1)))))else(some (.stop (.inl ())))
def ex(a0:aA):Option (Bool):=
  (mF (gN a0) 0).bind fun a=>match a with| .inl _=>(some (decide ((a0.aD.length:Int)<=12)))| .inr b=>(some b)
def gc(f:aj)(a0:ah)(s1:Int):Int->Option (mI (Int) ((Int)⊕(Bool))):=fun a=>
  if(decide (a<(f.aH.length:Int)))=true then((mO a0.aw s1).bind fun b=>(mO b.aH a).bind fun c=>(ex c.ba).bind fun e=>if(!e)=true then(some (.stop (.inr false)))else(some (.next (Bw .i64 (a+1)))))else(some (.stop (.inl s1)))
def gd(a0:ah):Int->Option (mI (Int) ((Unit)⊕(Bool))):=fun s1=>
  if(decide (s1<(a0.aw.length:Int)))=true then((mO a0.aw s1).bind fun e=>if(decide ((e.aH.length:Int)>10))=true then(some (.stop (.inr false)))else((mO a0.aw s1).bind fun f=>(mF (gc f a0 s1) 0).bind fun a=>match a with| .inl c=>(some (.next (Bw .i64 (c+1))))| .inr b=>(some (.stop (.inr b)))))else(some (.stop (.inl ())))
def dT(a0:ah):Option (Bool):=
  (mF (gd a0) 0).bind fun a=>match a with| .inl _=>(some (decide ((a0.aw.length:Int)<=10)))| .inr b=>(some b)
def ml(a0:(List Int)):Option (aa):=
  (sD a0 0 (if 2000<(a0.length:Int)then 2000 else(a0.length:Int))).bind fun a=>some (aa.mk a 0)
def Src_Raw(d0:aa):Option (Int×aa):=
  if(decide (d0.fAt>=(d0.fL.length:Int)))=true then(some (0,d0))else((mO d0.fL (Bw .i64 ((Bw .i64 (d0.fAt+1))-1))).bind fun a=>some (a,(aa.mk d0.fL (Bw .i64 (d0.fAt+1)))))
def kM(a0:Int)(a1:Int):Option (Int):=
  if(decide (a1<1))=true then(some 0)else((qQ a0 a1).bind fun a=>if(decide (a<0))=true then(some (Bw .i64 (a+a1)))else(some a))
def ca(a1:Int)(d0:aa):Option (Int×aa):=
  (Src_Raw d0).bind fun a=>(kM a.1 a1).bind fun b=>some (b,a.2)
def iJ(a1:Int)(d0:aa):Option (ac×aa):=
  (ca (Bw .i64 ((Bw .i64 (2*a1))+1)) d0).bind fun a=>(ca (Bw .i64 ((Bw .i64 (2*a1))+1)) a.2).bind fun b=>(ca (Bw .i64 (a1+1)) b.2).bind fun c=>some ((ac.mk (Bw .i64 (a.1-a1)) (Bw .i64 (b.1-a1)) c.1),c.2)
def Src_Box(a1:Int)(a2:Int)(d0:aa):Option (aq×aa):=
  (iJ a1 d0).bind fun a=>(ca (Bw .i64 (a2+1)) a.2).bind fun b=>(ca (Bw .i64 (a2+1)) b.2).bind fun c=>(ca (Bw .i64 (a2+1)) c.2).bind fun e=>some ((aq.mk a.1 (ac.mk (Bw .i64 (a.1.fX+b.1)) (Bw .i64 (a.1.fY+c.1)) (Bw .i64 (a.1.fZ+e.1)))),e.2)
def cd(a1:(List Int))(d0:aa):Option (Int×aa):=
  (ca (a1.length:Int) d0).bind fun a=>(mO a1 a.1).bind fun b=>some (b,a.2)
def jv(o:Int×aa):(Int×Int×Int×(List Int)×Int×(List Int)×(List Int))->Option (mI (Int×Int×Int×(List Int)×Int×(List Int)×(List Int)) ((List Int)×Int×(List Int)×(List Int))):=fun(f,g,l,p,q,m,n)=>
  (nU .i64 400 o.1).bind fun i=>(ca 3 (aa.mk p q)).bind fun a=>if(decide (l<=(Bw .i64 (i+a.1))))=true then((nK m [f] 8).bind fun j=>(nK n [g] 8).bind fun k=>(cd [0,10,20,35] a.2).bind fun b=>(nU .i64 o.1 4).bind fun c=>(cd [0,0,5,30] b.2).bind fun e=>some (.next ((Bw .i64 (f+(Bw .i64 (b.1+c)))),(Bw .i64 ((if(Bw .i64 (f+(Bw .i64 (b.1+c))))>g then(Bw .i64 (f+(Bw .i64 (b.1+c))))else g)+e.1)),(Bw .i64 (l+1)),e.2.fL,e.2.fAt,j,k)))else(some (.stop (a.2.fL,a.2.fAt,m,n)))
def jD(d0:aa):Option (ap×aa):=
  (cd [20,25,40,100] d0).bind fun b=>(ca 3 b.2).bind fun c=>(mF (jv b) (0,c.1,0,c.2.fL,c.2.fAt,([]:(List Int)),([]:(List Int)))).bind fun a=>some ((ap.mk b.1 a.2.2.1 a.2.2.2),(aa.mk a.1 a.2.1))
def fJ(a1:Int)(d0:aa):Option (aJ×aa):=
  (Src_Box 20 a1 d0).bind fun a=>(jD a.2).bind fun b=>(cd [10,50,200] b.2).bind fun c=>(cd [0,0,10,40] c.2).bind fun e=>(cd [0,50,200,400] e.2).bind fun f=>(cd [0,5,20] f.2).bind fun g=>(ca 2 g.2).bind fun i=>some ((aJ.mk a.1 b.1 c.1 e.1 f.1 g.1 (Bw .i64 (2+i.1))),i.2)
def lL(l:ap×aa):(Int×(List Int)×(List Int))->Option (mI (Int×(List Int)×(List Int)) ((List Int)×(List Int))):=fun(a,b,c)=>
  if(decide (a<(l.1.aG.length:Int)))=true then((inO b a).bind fun _=>(mO b a).bind fun e=>(nU .i64 e 3).bind fun f=>(inO c a).bind fun _=>(mO c a).bind fun g=>(nU .i64 g 3).bind fun i=>(inO b a).bind fun _=>(se b a f).bind fun j=>(inO c a).bind fun _=>(se c a i).bind fun k=>some (.next ((Bw .i64 (a+1)),j,k)))else(some (.stop (b,c)))
def ll(d0:aa):Option (aM×aa):=
  (jD d0).bind fun b=>(ca 20 b.2).bind fun c=>(ca 9 c.2).bind fun e=>(mF (lL b) (0,b.1.aG,b.1.aB)).bind fun a=>some ((aM.mk (ap.mk b.1.aY a.1 a.2) c.1 (Bw .i64 (1+e.1))),e.2)
def iF(a1:Int)(d0:aa):Option (ag×aa):=
  (fJ a1 d0).bind fun a=>(ll a.2).bind fun b=>(cd [0,0,10,40] b.2).bind fun c=>some ((ag.mk a.1 b.1 c.1),c.2)
def gP:(Int×(List Int)×Int×(List au))->Option (mI (Int×(List Int)×Int×(List au)) ((List Int)×Int×(List au))):=fun(s2,r,s,n)=>
  if(decide (s2>0))=true then((ca 3 (aa.mk r s)).bind fun a=>if(a.1==0)=true then((cd [0,1,9,99,1048575] a.2).bind fun f=>(cd [0,0,2,9,999] f.2).bind fun b=>(nK n [(au.mk a.1 (aP.mk (Bw .i64 (1+f.1)) 0 0) (aP.mk (Bw .i64 (1+b.1)) 0 0) [] 0 0)] 96).bind fun o=>some (.next ((Bw .i64 (s2-1)),b.2.fL,b.2.fAt,o)))else(if(a.1==1)=true then((ca 5 a.2).bind fun g=>(ca 7 g.2).bind fun i=>(ca 3 i.2).bind fun j=>(ca 5 j.2).bind fun k=>(ca 7 k.2).bind fun l=>(ca 3 l.2).bind fun c=>(nK n [(au.mk a.1 (aP.mk g.1 (Bw .i64 (i.1-3)) (Bw .i64 (j.1-1))) (aP.mk (Bw .i64 (1+k.1)) l.1 c.1) [] 0 0)] 96).bind fun p=>some (.next ((Bw .i64 (s2-1)),c.2.fL,c.2.fAt,p)))else((ca 3 a.2).bind fun m=>(ca 4 m.2).bind fun e=>(nK n [(au.mk a.1 (aP.mk 0 0 0) (aP.mk 0 0 0) [(Bw .i64 (1+m.1)),2,1] 1 e.1)] 96).bind fun q=>some (.next ((Bw .i64 (s2-1)),e.2.fL,e.2.fAt,q)))))else(some (.stop (r,s,n)))
def er(d0:aa):Option (aA×aa):=
  (ca 4 d0).bind fun b=>(mF (gP) (b.1,b.2.fL,b.2.fAt,([]:(List au)))).bind fun a=>some ((aA.mk a.2.2),(aa.mk a.1 a.2.1))
def eU(a0:Int):Option (ak):=
  (kM a0 6).bind fun a=>(mO [[83,49],[83,50],[83,51],[83,52],[83,53],[83,54]] a).bind fun b=>some (ak.mk [65,66] b [48,48] [66,72,90])
def ju(a1:Int):(Int×(List Int)×Int×(List aj))->Option (mI (Int×(List Int)×Int×(List aj)) ((List Int)×Int×(List aj))):=fun(s1,s2,m,k)=>
  if(decide (s1<a1))=true then(if(decide (s1<6))=true then((iJ 60 (aa.mk s2 m)).bind fun a=>(er a.2).bind fun b=>(eU s1).bind fun f=>(ca 6 b.2).bind fun c=>if(c.1==0)=true then((ca 500 c.2).bind fun g=>(iJ 60 g.2).bind fun l=>(er l.2).bind fun i=>(inO [(al.mk 0 100000 (bh.mk 100 1) a.1 b.1)] 0).bind fun _=>(modO [(al.mk 0 100000 (bh.mk 100 1) a.1 b.1)] 0 (fun(z22:al)=>(al.mk z22.bC (Bw .i64 (1500+g.1)) z22.cm z22.aI z22.ba))).bind fun n=>(nK n [(al.mk (Bw .i64 (1500+g.1)) 100000 (bh.mk 100 1) l.1 i.1)] 80).bind fun o=>(nK k [(aj.mk f o)] 88).bind fun p=>some (.next ((Bw .i64 (s1+1)),i.2.fL,i.2.fAt,p)))else(if(c.1==1)=true then((ca 1500 c.2).bind fun j=>(inO [(al.mk 0 100000 (bh.mk 100 1) a.1 b.1)] 0).bind fun _=>(modO [(al.mk 0 100000 (bh.mk 100 1) a.1 b.1)] 0 (fun(e:al)=>(al.mk j.1 e.fTo e.cm e.aI e.ba))).bind fun q=>(nK k [(aj.mk f q)] 88).bind fun r=>some (.next ((Bw .i64 (s1+1)),j.2.fL,j.2.fAt,r)))else((nK k [(aj.mk f [(al.mk 0 100000 (bh.mk 100 1) a.1 b.1)])] 88).bind fun s=>some (.next ((Bw .i64 (s1+1)),c.2.fL,c.2.fAt,s)))))else(some (.stop (s2,m,k))))else(some (.stop (s2,m,k)))
def iL(a1:Int)(d0:aa):Option (ah×aa):=
  (mF (ju a1) (0,d0.fL,d0.fAt,([]:(List aj)))).bind fun a=>some ((ah.mk a.2.2),(aa.mk a.1 a.2.1))
def iK(a1:Int)(a2:Int)(d0:aa):Option (Int×aa):=
  (ca (Bw .i64 ((Bw .i64 (a2-a1))+1)) d0).bind fun a=>some ((Bw .i64 (a1+a.1)),a.2)
def jC(a1:aq)(d0:aa):Option (ac×aa):=
  (iK a1.aG.fX a1.aB.fX d0).bind fun a=>(iK a1.aG.fY a1.aB.fY a.2).bind fun b=>(iK a1.aG.fZ a1.aB.fZ b.2).bind fun c=>some ((ac.mk a.1 b.1 c.1),c.2)
def kO(a:aj)(a1:ak)(a2:Int)(s1:Int):Int->Option (mI (Int) ((Int)⊕(ac×Bool))):=fun b=>
  if(decide (b<(a.aH.length:Int)))=true then((mO a.aH b).bind fun c=>if((a.az.aZ==a1.aZ)&&((a.az.aS==a1.aS)&&((a.az.aO==a1.aO)&&((a.az.bg==a1.bg)&&true))))=true then(if(decide (c.bC<=a2))=true then(if(decide (a2<c.fTo))=true then(some (.stop (.inr (c.aI,true))))else(some (.next (Bw .i64 (b+1)))))else(some (.next (Bw .i64 (b+1)))))else(some (.next (Bw .i64 (b+1)))))else(some (.stop (.inl s1)))
def kP(a0:ah)(a1:ak)(a2:Int):Int->Option (mI (Int) ((Unit)⊕(ac×Bool))):=fun s1=>
  if(decide (s1<(a0.aw.length:Int)))=true then((mO a0.aw s1).bind fun e=>(mF (kO e a1 a2 s1) 0).bind fun a=>match a with| .inl c=>(some (.next (Bw .i64 (c+1))))| .inr b=>(some (.stop (.inr b))))else(some (.stop (.inl ())))
def jW(a0:ah)(a1:ak)(a2:Int):Option (ac×Bool):=
  (mF (kP a0 a1 a2) 0).bind fun a=>match a with| .inl _=>(some ((ac.mk 0 0 0),false))| .inr b=>(some b)
def lr(a0:Int):Option (Int):=
  some (Bw .i64 (a0*a0))
def dM(n:ak)(o:Int×aa)(p:Int×aa)(e:Int)(f:Int)(g:(List Int))(i:Int)(j:(List ai))(k:Int)(l:Int)(m:Int)(a:Int):Option (mI (Int×Int×(List Int)×Int×(List ai)×Int×Int×Int) ((List ai)×(List Int)×Int)):=
  (ca 5 (aa.mk g i)).bind fun b=>(ca 5 b.2).bind fun c=>(nK j [(ai.mk n (Bw .i64 (a+b.1)) a (Bw .i64 ((Bw .i64 (a+b.1))+c.1)) o.1 (Bw .i64 (p.1-1)))] 104).bind fun q=>some (.next (e,(Bw .i64 (f-1)),c.2.fL,c.2.fAt,q,k,l,m))
def jt(b:ac×Bool)(j:Int)(c:Int)(e:Int)(k:Int)(l:Int)(m:(List ai)):Int->Option (mI (Int) (Int×Int×Int×(List ai)×Int×Int×Int)):=fun a=>
  (lr (Bw .i64 (b.1.fX-j))).bind fun f=>(lr (Bw .i64 (b.1.fY-c))).bind fun g=>(lr (Bw .i64 (b.1.fZ-e))).bind fun i=>if(decide ((Bw .i64 (a*a))<(Bw .i64 ((Bw .i64 (f+g))+i))))=true then(some (.next (Bw .i64 (a+1))))else(some (.stop (k,l,a,m,j,c,e)))
def lK(a1:ag)(a2:ah):(Int×Int×(List Int)×Int×(List ai)×Int×Int×Int)->Option (mI (Int×Int×(List Int)×Int×(List ai)×Int×Int×Int) ((List ai)×(List Int)×Int)):=fun(n,o,v,x,p,t,j,k)=>
  if(decide (o>0))=true then((ca 6 (aa.mk v x)).bind fun q=>(eU q.1).bind fun c=>(cd [0,1,50,1000,1048576] q.2).bind fun e=>(ca 3 e.2).bind fun f=>(ca 2000 f.2).bind fun g=>(ca 6 g.2).bind fun b=>if(b.1==0)=true then((jC a1.ae.aU b.2).bind fun i=>(ca 900 i.2).bind fun l=>dM c e f (Bw .i64 (n+l.1)) o l.2.fL l.2.fAt p i.1.fX i.1.fY i.1.fZ (Bw .i64 (1000+g.1)))else(if(b.1==1)=true then(dM c e f n o b.2.fL b.2.fAt p t j k (Bw .i64 (1000+g.1)))else((jW a2 c n).bind fun r=>if r.2=true then((mF (jt r t j k n o p) 0).bind fun a=>(nU .i64 a.2.2.1 a1.ae.bj.aY).bind fun s=>(mO a1.ae.bj.aG (if(Bw .i64 ((a1.ae.bj.aG.length:Int)-1))<s then(Bw .i64 ((a1.ae.bj.aG.length:Int)-1))else s)).bind fun u=>(ca 6 b.2).bind fun m=>dM c e f a.1 a.2.1 m.2.fL m.2.fAt a.2.2.2.1 a.2.2.2.2.1 a.2.2.2.2.2.1 a.2.2.2.2.2.2 (Bw .i64 ((Bw .i64 (a.1+u))+m.1)))else(dM c e f n o b.2.fL b.2.fAt p t j k (Bw .i64 (1000+g.1))))))else(some (.stop (p,v,x)))
def jB(a1:ag)(a2:ah)(a3:Int)(d0:aa):Option ((List ai)×aa):=
  (jC a1.ae.aU d0).bind fun b=>(ca 500 b.2).bind fun e=>(ca (Bw .i64 (a3+1)) e.2).bind fun c=>(mF (lK a1 a2) ((Bw .i64 (1000+e.1)),c.1,c.2.fL,c.2.fAt,([]:(List ai)),b.1.fX,b.1.fY,b.1.fZ)).bind fun a=>some (a.1,(aa.mk a.2.1 a.2.2))
def kI(a1:aq)(d0:aa):Option (aq×aa):=
  (cd [-1048577, -1048576,0, -16385, -16384,1048576,1048577] d0).bind fun b=>(ca 6 b.2).bind fun a=>if(a.1==0)=true then(some ((aq.mk (ac.mk b.1 a1.aG.fY a1.aG.fZ) a1.aB),a.2))else(if(a.1==1)=true then(some ((aq.mk (ac.mk a1.aG.fX b.1 a1.aG.fZ) a1.aB),a.2))else(if(a.1==2)=true then(some ((aq.mk (ac.mk a1.aG.fX a1.aG.fY b.1) a1.aB),a.2))else(if(a.1==3)=true then(some ((aq.mk a1.aG (ac.mk b.1 a1.aB.fY a1.aB.fZ)),a.2))else(if(a.1==4)=true then(some ((aq.mk a1.aG (ac.mk a1.aB.fX b.1 a1.aB.fZ)),a.2))else(some ((aq.mk a1.aG (ac.mk a1.aB.fX a1.aB.fY b.1)),a.2))))))
def fw(a1:ap)(d0:aa):Option (ap×aa):=
  (nK ([]:List Int) a1.aG 8).bind fun a=>(nK ([]:List Int) a1.aB 8).bind fun b=>if((a.length:Int)==0)=true then(some ((ap.mk a1.aY a b),d0))else(if((b.length:Int)==0)=true then(some ((ap.mk a1.aY a b),d0))else((ca 6 d0).bind fun c=>if(c.1==0)=true then((cd [-1,0,1,1048576,1048577] c.2).bind fun p=>some ((ap.mk p.1 a b),p.2))else(if(c.1==1)=true then((ca (a.length:Int) c.2).bind fun o=>(cd [-1,0,1099511627776,1099511627777] o.2).bind fun f=>(inO a o.1).bind fun _=>(se a o.1 f.1).bind fun i=>some ((ap.mk a1.aY i b),f.2))else(if(c.1==2)=true then((ca (b.length:Int) c.2).bind fun e=>(cd [-1,0,1099511627776,1099511627777] e.2).bind fun g=>(inO b e.1).bind fun _=>(se b e.1 g.1).bind fun j=>some ((ap.mk a1.aY a j),g.2))else(if(c.1==3)=true then((sD a 0 (Bw .i64 ((a.length:Int)-1))).bind fun k=>some ((ap.mk a1.aY k b),c.2))else(if(c.1==4)=true then((sD b 1 (b.length:Int)).bind fun l=>some ((ap.mk a1.aY a l),c.2))else((sD a 0 1).bind fun m=>(sD b 0 1).bind fun n=>some ((ap.mk a1.aY m n),c.2))))))))
def fc(a1:ag)(d0:aa):Option (ag×aa):=
  (ca 6 d0).bind fun a=>if(a.1==0)=true then((kI a1.ae.aU a.2).bind fun e=>some ((ag.mk (aJ.mk e.1 a1.ae.bj a1.ae.gK a1.ae.aK a1.ae.dn a1.ae.ce a1.ae.b9) a1.bi a1.aK),e.2))else(if(a.1==1)=true then((fw a1.ae.bj a.2).bind fun f=>some ((ag.mk (aJ.mk a1.ae.aU f.1 a1.ae.gK a1.ae.aK a1.ae.dn a1.ae.ce a1.ae.b9) a1.bi a1.aK),f.2))else(if(a.1==2)=true then((cd [-1,0,1099511627776,1099511627777] a.2).bind fun g=>some ((ag.mk (aJ.mk a1.ae.aU a1.ae.bj g.1 a1.ae.aK a1.ae.dn a1.ae.ce a1.ae.b9) a1.bi a1.aK),g.2))else(if(a.1==3)=true then((cd [-1,0,1099511627776,1099511627777] a.2).bind fun i=>some ((ag.mk a1.ae a1.bi i.1),i.2))else(if(a.1==4)=true then((fw a1.bi.aV a.2).bind fun b=>some ((ag.mk a1.ae (aM.mk b.1 a1.bi.aQ a1.bi.aL) a1.aK),b.2))else((cd [-1,0,1,65536,65537] a.2).bind fun c=>some ((ag.mk a1.ae (aM.mk a1.bi.aV a1.bi.aQ c.1) a1.aK),c.2))))))
def cb(a0:ac):Option (aP):=
  some (aP.mk a0.fX a0.fY a0.fZ)
def cu(a0:ac):Option (Bool):=
  (cb a0).bind fun a=>if(decide (a.a0<(-1048576)))=true then(some false)else(if(decide (a.a0>1048576))=true then(some false)else(if(decide (a.a1<(-1048576)))=true then(some false)else(if(decide (a.a1>1048576))=true then(some false)else(if(decide (a.a2<(-16384)))=true then(some false)else(if(decide (a.a2>1048576))=true then(some false)else(some true))))))
def bU(a0:aq):Option (Bool):=
  (cu a0.aG).bind fun c=>if(!c)=true then(some false)else((cu a0.aB).bind fun e=>if(!e)=true then(some false)else((cb a0.aB).bind fun a=>(cb a0.aG).bind fun b=>if(decide (b.a0>a.a0))=true then(some false)else(if(decide (b.a1>a.a1))=true then(some false)else(if(decide (b.a2>a.a2))=true then(some false)else(some true)))))
def iE(a0:ap):(Int×Int×Int)->Option (mI (Int×Int×Int) ((Unit)⊕(Int))):=fun(k,l,a)=>
  if(decide (a<(a0.aG.length:Int)))=true then((mO a0.aG a).bind fun b=>if(decide (b<k))=true then(some (.stop (.inr 21)))else((mO a0.aB a).bind fun c=>if(decide (c<l))=true then(some (.stop (.inr 21)))else((mO a0.aG a).bind fun e=>(mO a0.aB a).bind fun f=>if(decide (e>f))=true then(some (.stop (.inr 21)))else((mO a0.aB a).bind fun g=>if(decide (g>1099511627776))=true then(some (.stop (.inr 21)))else((mO a0.aG a).bind fun i=>(mO a0.aB a).bind fun j=>some (.next (i,j,(Bw .i64 (a+1)))))))))else(some (.stop (.inl ())))
def b8(a0:ap):Option (Int):=
  if(decide (a0.aY<1))=true then(some 21)else(if(decide (a0.aY>1048576))=true then(some 21)else(if((a0.aG.length:Int) != (a0.aB.length:Int))=true then(some 21)else(if(decide ((a0.aG.length:Int)<2))=true then(some 21)else(if(decide ((a0.aG.length:Int)>256))=true then(some 21)else((mF (iE a0) (0,0,0)).bind fun a=>match a with| .inl _=>(some 0)| .inr b=>(some b))))))
def ev(a0:Int)(a1:Int)(a2:Int):Option (Bool):=
  if(decide (a0>=a1))=true then(some (decide (a0<=a2)))else(some false)
def gQ(a0:aC):Option (Bool):=
  (cu a0.aS).bind fun a=>if a=true then(if(decide (a0.bd>=0))=true then(if(decide (a0.bd<=a0.bk))=true then(if(decide (a0.bk<=18014398509481984))=true then(if(decide (a0.jS>=1))=true then(some (decide (a0.jS<=100)))else(some false))else(some false))else(some false))else(some false))else(some false)
def du(a0:Int)(a1:Int)(a2:Int):Option (Int):=
  some (if 0>(if(Bw .i64 (a0-a2))>(Bw .i64 (a1-a0))then(Bw .i64 (a0-a2))else(Bw .i64 (a1-a0)))then 0 else(if(Bw .i64 (a0-a2))>(Bw .i64 (a1-a0))then(Bw .i64 (a0-a2))else(Bw .i64 (a1-a0))))
def ew(a0:aq)(a1:ac):Option (Int):=
  (bU a0).bind fun i=>if(!i)=true then(some 0)else((cu a1).bind fun j=>if(!j)=true then(some 0)else((cb a0.aG).bind fun b=>(cb a0.aB).bind fun c=>(cb a1).bind fun e=>(du e.a0 b.a0 c.a0).bind fun f=>(du e.a1 b.a1 c.a1).bind fun g=>(du e.a2 b.a2 c.a2).bind fun a=>some (Bw .i64 ((Bw .i64 ((Bw .i64 (0+(Bw .i64 (f*f))))+(Bw .i64 (g*g))))+(Bw .i64 (a*a))))))
def fB(a0:aq)(a1:ac):Option (Int):=
  (ew a0 a1).bind fun a=>some a
def cS(a0:Int)(a1:Int)(a2:Int):Option (Int):=
  some (if(Bw .i64 (a0-a1))>(Bw .i64 (a2-a0))then(Bw .i64 (a0-a1))else(Bw .i64 (a2-a0)))
def dY(a0:aq)(a1:ac):Option (Int):=
  (bU a0).bind fun i=>if(!i)=true then(some 0)else((cu a1).bind fun j=>if(!j)=true then(some 0)else((cb a0.aG).bind fun b=>(cb a0.aB).bind fun c=>(cb a1).bind fun e=>(cS e.a0 b.a0 c.a0).bind fun f=>(cS e.a1 b.a1 c.a1).bind fun g=>(cS e.a2 b.a2 c.a2).bind fun a=>some (Bw .i64 ((Bw .i64 ((Bw .i64 (0+(Bw .i64 (f*f))))+(Bw .i64 (g*g))))+(Bw .i64 (a*a))))))
def gn(a0:aq)(a1:ac):Option (Int):=
  (dY a0 a1).bind fun a=>some a
def jw(a0:ap)(a1:aq)(a2:ac):Option (ap×Int×Int):=
  (fB a1 a2).bind fun a=>(gn a1 a2).bind fun b=>some (a0,a,b)
def b7(a:Int)(b:Int):Option (Int):=
  if(decide (a>=256))=true then((pg [0,1,2,2,3,3,3,3,4,4,4,4,4,4,4,4,5,5,5,5,5,5,5,5,5,5,5,5,5,5,5,5,6,6,6,6,6,6,6,6,6,6,6,6,6,6,6,6,6,6,6,6,6,6,6,6,6,6,6,6,6,6,6,6,7,7,7,7,7,7,7,7,7,7,7,7,7,7,7,7,7,7,7,7,7,7,7,7,7,7,7,7,7,7,7,7,7,7,7,7,7,7,7,7,7,7,7,7,7,7,7,7,7,7,7,7,7,7,7,7,7,7,7,7,7,7,7,7,8,8,8,8,8,8,8,8,8,8,8,8,8,8,8,8,8,8,8,8,8,8,8,8,8,8,8,8,8,8,8,8,8,8,8,8,8,8,8,8,8,8,8,8,8,8,8,8,8,8,8,8,8,8,8,8,8,8,8,8,8,8,8,8,8,8,8,8,8,8,8,8,8,8,8,8,8,8,8,8,8,8,8,8,8,8,8,8,8,8,8,8,8,8,8,8,8,8,8,8,8,8,8,8,8,8,8,8,8,8,8,8,8,8,8,8,8,8,8,8,8,8,8,8,8,8,8,8] (Bw .u8 (mT .u64 a 8))).bind fun c=>some (Bw .i64 ((Bw .i64 (b+8))+(Bw .i64 c))))else((pg [0,1,2,2,3,3,3,3,4,4,4,4,4,4,4,4,5,5,5,5,5,5,5,5,5,5,5,5,5,5,5,5,6,6,6,6,6,6,6,6,6,6,6,6,6,6,6,6,6,6,6,6,6,6,6,6,6,6,6,6,6,6,6,6,7,7,7,7,7,7,7,7,7,7,7,7,7,7,7,7,7,7,7,7,7,7,7,7,7,7,7,7,7,7,7,7,7,7,7,7,7,7,7,7,7,7,7,7,7,7,7,7,7,7,7,7,7,7,7,7,7,7,7,7,7,7,7,7,8,8,8,8,8,8,8,8,8,8,8,8,8,8,8,8,8,8,8,8,8,8,8,8,8,8,8,8,8,8,8,8,8,8,8,8,8,8,8,8,8,8,8,8,8,8,8,8,8,8,8,8,8,8,8,8,8,8,8,8,8,8,8,8,8,8,8,8,8,8,8,8,8,8,8,8,8,8,8,8,8,8,8,8,8,8,8,8,8,8,8,8,8,8,8,8,8,8,8,8,8,8,8,8,8,8,8,8,8,8,8,8,8,8,8,8,8,8,8,8,8,8,8,8,8,8,8,8] (Bw .u8 a)).bind fun e=>some (Bw .i64 (b+(Bw .i64 e))))
def eQ(a:Int)(b:Int):Option (Int):=
  if(decide (a>=65536))=true then(b7 (mT .u64 a 16) (Bw .i64 (b+16)))else(b7 a b)
def lW(a0:Int):Option (Int):=
  if(decide (a0>=4294967296))=true then(eQ (mT .u64 a0 32) 32)else(eQ a0 0)
def jE(a0:Int):Option (Int):=
  (lW a0).bind fun a=>some a
def f8(a0:Int):(Int×Int)->Option (mI (Int×Int) (Int)):=fun(b,a)=>
  if(decide (a>0))=true then((nU .i64 a0 (orI .i64 b a)).bind fun c=>if(decide ((orI .i64 b a)<=c))=true then(some (.next ((orI .i64 b a),(mT .i64 a 1))))else(some (.next (b,(mT .i64 a 1)))))else(some (.stop b))
def dX(a0:Int):Option (Int):=
  if(decide (a0<=0))=true then(some 0)else((jE (Bw .u64 a0)).bind fun b=>(nU .i64 (Bw .i64 (b-1)) 2).bind fun c=>(sI .i64 1 c).bind fun e=>(mF (f8 a0) (0,e)).bind fun a=>some a)
def hJ(a0:Int):Option (Int):=
  (dX a0).bind fun a=>if(decide ((Bw .i64 (a*a))<a0))=true then(some (Bw .i64 (a+1)))else(some a)
def ks(a0:ap):Option (Int):=
  some (Bw .i64 (a0.aY*(Bw .i64 ((a0.aG.length:Int)-1))))
def fu(a0:Int)(d0:ap)(d1:Int):Option (Bool):=
  some (decide ((Bw .i64 (a0*d0.aY))>=d1))
def iD(d0:ap)(d1:Int):(Int×Int)->Option (mI (Int×Int) (Int)):=fun(s1,s2)=>
  if(decide (s1<s2))=true then((fu (Bw .i64 (mT .u64 (Bw .u64 (Bw .i64 (s1+s2))) 1)) d0 d1).bind fun a=>if(!a)=true then(some (.next ((Bw .i64 ((Bw .i64 (mT .u64 (Bw .u64 (Bw .i64 (s1+s2))) 1))+1)),s2)))else(some (.next (s1,(Bw .i64 (mT .u64 (Bw .u64 (Bw .i64 (s1+s2))) 1))))))else(some (.stop s1))
def fk(a0:Int)(d0:ap)(d1:Int):Option (Int):=
  (mF (iD d0 d1) (0,a0)).bind fun a=>some a
def e9(a0:ap)(a1:Int)(a2:Int):Option (Int×Int×Int):=
  (b8 a0).bind fun f=>if(f != 0)=true then(some (0,0,21))else(if(decide (a1<0))=true then(some (0,0,2))else(if(decide (a1>a2))=true then(some (0,0,2))else((hJ a2).bind fun e=>(ks a0).bind fun g=>if(decide (e>g))=true then(some (0,0,22))else((fk (a0.aB.length:Int) a0 e).bind fun i=>(dX a1).bind fun j=>(nU .i64 j a0.aY).bind fun a=>(mO a0.aG a).bind fun b=>(mO a0.aB i).bind fun c=>some (b,c,0)))))
def gm(a0:ap)(a1:aq)(a2:ac):Option (Int×Int×Int):=
  (b8 a0).bind fun c=>if(c != 0)=true then(some (0,0,c))else((bU a1).bind fun e=>if(!e)=true then(some (0,0,20))else((cu a2).bind fun f=>if(!f)=true then(some (0,0,20))else((jw a0 a1 a2).bind fun a=>(e9 a.1 a.2.1 a.2.2).bind fun b=>some (b.1,b.2.1,b.2.2))))
def jR(a0:ap)(a1:aq)(a2:aC):Option (bv×Int):=
  (b8 a0).bind fun b=>if(b != 0)=true then(some ((bv.mk 0 0),b))else((bU a1).bind fun c=>if(!c)=true then(some ((bv.mk 0 0),20))else((gQ a2).bind fun e=>if(!e)=true then(some ((bv.mk 0 0),23))else((gm a0 a1 a2.aS).bind fun a=>if(a.2.2 != 0)=true then(some ((bv.mk 0 0),a.2.2))else(some ((bv.mk (Bw .i64 (a2.bd-a.2.1)) (Bw .i64 (a2.bk-a.1))),0)))))
def eu(a1:(List aC))(a0:aJ):Int->Option (mI (Int) ((Unit)⊕(Int))):=fun a=>
  if(decide (a<(a1.length:Int)))=true then((mO a1 a).bind fun c=>(jR a0.bj a0.aU c).bind fun b=>if(b.2 != 0)=true then(some (.stop (.inr b.2)))else(some (.next (Bw .i64 (a+1)))))else(some (.stop (.inl ())))
def et(a0:aJ)(a1:(List aC)):Option (Int):=
  (bU a0.aU).bind fun f=>if(!f)=true then(some 27)else((b8 a0.bj).bind fun g=>if(g != 0)=true then(some 27)else((ev a0.gK 1 1099511627776).bind fun i=>if(!i)=true then(some 27)else((ev a0.aK 0 1099511627776).bind fun j=>if(!j)=true then(some 27)else((ev a0.ce 0 1099511627776).bind fun k=>if(!k)=true then(some 27)else((ev a0.dn 0 1099511627776).bind fun c=>if(!c)=true then(some 27)else((ev a0.b9 2 16).bind fun e=>if(!e)=true then(some 27)else(if(decide ((a1.length:Int)>256))=true then(some 8)else((mF (eu a1 a0) 0).bind fun a=>match a with| .inl _=>(some 0)| .inr b=>(some b)))))))))
def bQ(a0:aM):Option (Bool):=
  (b8 a0.aV).bind fun a=>if(a==0)=true then(if(decide (a0.aQ>=0))=true then(if(decide (a0.aQ<=65536))=true then(if(decide (a0.aL>=1))=true then(some (decide (a0.aL<=65536)))else(some false))else(some false))else(some false))else(some false)
def cX(a0:ag):Option (Int):=
  (et a0.ae []).bind fun a=>if(a != 0)=true then(some 27)else((bQ a0.bi).bind fun b=>if(!b)=true then(some 27)else(if(decide (a0.aK<0))=true then(some 27)else(if(decide (a0.aK>1099511627776))=true then(some 27)else(some 0))))
def iI(a0:Int):Option (Bool):=
  if(decide (a0>=65))=true then(if(decide (a0<=90))=true then(some true)else(if(decide (a0>=48))=true then(some (decide (a0<=57)))else(some false)))else(if(decide (a0>=48))=true then(some (decide (a0<=57)))else(some false))
def gJ(a0:(List UInt8)):Int->Option (mI (Int) ((Unit)⊕(Bool))):=fun s1=>
  if(decide (s1<(a0.length:Int)))=true then((pg a0 s1).bind fun a=>(iI a).bind fun b=>if(!b)=true then(some (.stop (.inr false)))else(some (.next (Bw .i64 (s1+1)))))else(some (.stop (.inl ())))
def e7(a0:(List UInt8))(a1:Int)(a2:Int):Option (Bool):=
  (mF (gJ a0) 0).bind fun b=>match b with| .inl _=>(if(decide ((a0.length:Int)>=a1))=true then(some (decide ((a0.length:Int)<=a2)))else(some false))| .inr a=>(some a)
def fm(a0:ak):Option (Bool):=
  (e7 a0.aZ 1 2).bind fun a=>if a=true then((e7 a0.aS 1 5).bind fun b=>if b=true then((e7 a0.aO 0 2).bind fun c=>if c=true then(if((a0.aO.length:Int) != 1)=true then((e7 a0.bg 3 3).bind fun e=>some e)else(some false))else(some false))else(some false))else(some false)
def lx(a0:Int)(a1:Int)(a2:Int):Option (Bool):=
  if(decide (a0>=a1))=true then(some (decide (a0<=a2)))else(some false)
def kT:(Int×Int)->Option (mI (Int×Int) (Int)):=fun(s1,s2)=>
  if(s2 != 0)=true then((qQ s1 s2).bind fun a=>some (.next (s2,a)))else(some (.stop s1))
def jI(a0:Int)(a1:Int):Option (Int):=
  (mF (kT) (a0,a1)).bind fun a=>some a
def gW(a0:bh):Option (Bool):=
  (lx a0.aQ 1 4096).bind fun a=>if a=true then((lx a0.aL 1 4096).bind fun b=>if b=true then((jI a0.aQ a0.aL).bind fun c=>some (c==1))else(some false))else(some false)
def bA(a0:Int)(a1:Int)(a2:Int):Option (Bool):=
  if(decide (a0>=a1))=true then(some (decide (a0<=a2)))else(some false)
def dV(a0:Int):Option (Bool):=
  (bA a0 (-1048576) 1048576).bind fun a=>some (!a)
def bB(a0:(List Int)):Int->Option (mI (Int) ((Unit)⊕(Int))):=fun s1=>
  if(decide (s1<(a0.length:Int)))=true then((mO a0 s1).bind fun a=>(dV a).bind fun b=>if b=true then(some (.stop (.inr s1)))else(some (.next (Bw .i64 (s1+1)))))else(some (.stop (.inl ())))
def cB(a0:(List Int)):Option (Int):=
  (mF (bB a0) 0).bind fun b=>match b with| .inl _=>(some (-1))| .inr a=>(some a)
def ck(a0:(List Int)):Option (Bool):=
  (cB a0).bind fun a=>some (decide (a>=0))
def bI(a0:(List Int)):Option (Bool):=
  (ck a0).bind fun a=>some (!a)
def fU(a0:(List Int)):(Int×Int)->Option (mI (Int×Int) (Int)):=fun(s1,s2)=>
  if(decide (s2<(a0.length:Int)))=true then((mO a0 s2).bind fun a=>some (.next ((Bw .i64 (s1+a)),(Bw .i64 (s2+1)))))else(some (.stop s1))
def bV(a0:(List Int)):Option (Int):=
  (mF (fU a0) (0,0)).bind fun a=>some a
def bT(a0:au):Option (Bool):=
  if((a0.bp.length:Int)==0)=true then(if(a0.bc==0)=true then(if(a0.bu==0)=true then(if(a0.bq==0)=true then(if((a0.aQ.a0==a0.aQ.a0)&&((a0.aQ.a1==0)&&((a0.aQ.a2==0)&&true)))=true then(if((a0.aL.a0==a0.aL.a0)&&((a0.aL.a1==0)&&((a0.aL.a2==0)&&true)))=true then((bA a0.aQ.a0 1 1048576).bind fun t=>if t=true then((bA a0.aL.a0 1 1048576).bind fun u=>some u)else(some false))else(some false))else(some false))else(some false))else(if(a0.bu==1)=true then(if(a0.bq==0)=true then((bI [a0.aQ.a0,a0.aQ.a1,a0.aQ.a2]).bind fun a=>if a=true then((bI [a0.aL.a0,a0.aL.a1,a0.aL.a2]).bind fun b=>if b=true then(some (a0.aL.a0 != 0))else(some false))else(some false))else(some false))else(if(a0.bu==2)=true then(if((a0.aQ.a0==0)&&((a0.aQ.a1==0)&&((a0.aQ.a2==0)&&true)))=true then(if((a0.aL.a0==0)&&((a0.aL.a1==0)&&((a0.aL.a2==0)&&true)))=true then((bA (a0.bp.length:Int) 1 128).bind fun c=>if c=true then((bI a0.bp).bind fun e=>if e=true then((bV a0.bp).bind fun f=>if(f != 0)=true then((bA a0.bc 1 64).bind fun g=>if g=true then((bA a0.bq 0 40).bind fun i=>some i)else(some false))else(some false))else(some false))else(some false))else(some false))else(some false))else(some false))))else(if(a0.bu==0)=true then(some false)else(if(a0.bu==1)=true then(some false)else(if(a0.bu==2)=true then(if((a0.aQ.a0==0)&&((a0.aQ.a1==0)&&((a0.aQ.a2==0)&&true)))=true then(if((a0.aL.a0==0)&&((a0.aL.a1==0)&&((a0.aL.a2==0)&&true)))=true then((bA (a0.bp.length:Int) 1 128).bind fun j=>if j=true then((bI a0.bp).bind fun k=>if k=true then((bV a0.bp).bind fun l=>if(l != 0)=true then((bA a0.bc 1 64).bind fun m=>if m=true then((bA a0.bq 0 40).bind fun n=>some n)else(some false))else(some false))else(some false))else(some false))else(some false))else(some false))else(some false)))))else(if(a0.bu==0)=true then(some false)else(if(a0.bu==1)=true then(some false)else(if(a0.bu==2)=true then(if((a0.aQ.a0==0)&&((a0.aQ.a1==0)&&((a0.aQ.a2==0)&&true)))=true then(if((a0.aL.a0==0)&&((a0.aL.a1==0)&&((a0.aL.a2==0)&&true)))=true then((bA (a0.bp.length:Int) 1 128).bind fun o=>if o=true then((bI a0.bp).bind fun p=>if p=true then((bV a0.bp).bind fun q=>if(q != 0)=true then((bA a0.bc 1 64).bind fun r=>if r=true then((bA a0.bq 0 40).bind fun s=>some s)else(some false))else(some false))else(some false))else(some false))else(some false))else(some false))else(some false))))
def dU(a0:au):Option (Bool):=
  (bT a0).bind fun a=>some (!a)
def bz(a0:(List au)):Int->Option (mI (Int) ((Unit)⊕(Int))):=fun s1=>
  if(decide (s1<(a0.length:Int)))=true then((mO a0 s1).bind fun a=>(dU a).bind fun b=>if b=true then(some (.stop (.inr s1)))else(some (.next (Bw .i64 (s1+1)))))else(some (.stop (.inl ())))
def ct(a0:(List au)):Option (Int):=
  (mF (bz a0) 0).bind fun b=>match b with| .inl _=>(some (-1))| .inr a=>(some a)
def bw(a0:(List au)):Option (Bool):=
  (ct a0).bind fun a=>some (decide (a>=0))
def dy(a0:(List au)):(Int×Int)->Option (mI (Int×Int) ((Int)⊕(Int))):=fun(s1,s2)=>
  if(decide (s2<(a0.length:Int)))=true then((mO a0 s2).bind fun a=>if(a.bu != 2)=true then(some (.next (s1,(Bw .i64 (s2+1)))))else(if(decide ((Bw .i64 (s1*a.bc))>64))=true then(some (.stop (.inr 0)))else(some (.next ((Bw .i64 (s1*a.bc)),(Bw .i64 (s2+1)))))))else(some (.stop (.inl s1)))
def dE(a0:(List au)):Option (Int):=
  (mF (dy a0) (1,0)).bind fun a=>match a with| .inl c=>(some c)| .inr b=>(some b)
def dx(a0:aA):Option (Bool):=
  if(decide ((a0.aD.length:Int)>8))=true then(some false)else((bw a0.aD).bind fun a=>if a=true then(some false)else((dE a0.aD).bind fun b=>some (decide (b>0))))
def de(a0:Int)(a1:Int)(a2:Int):Option (Bool):=
  if(decide (a0>=a1))=true then(some (decide (a0<=a2)))else(some false)
def co(a0:al):Option (Bool):=
  if(decide (a0.bC>=0))=true then(if(decide (a0.bC<a0.fTo))=true then(if(decide (a0.fTo<=9007199254740992))=true then((gW a0.cm).bind fun c=>if c=true then((dx a0.ba).bind fun e=>if e=true then((de a0.aI.fX (-1048576) 1048576).bind fun f=>if f=true then((de a0.aI.fY (-1048576) 1048576).bind fun a=>if a=true then((de a0.aI.fZ (-16384) 1048576).bind fun b=>some b)else(some false))else(some false))else(some false))else(some false))else(some false))else(some false))else(some false)
def cp(a0:(List al)):Int->Option (mI (Int) ((Unit)⊕(Bool))):=fun s1=>
  if(decide (s1<(a0.length:Int)))=true then((mO a0 s1).bind fun a=>(co a).bind fun b=>if(!b)=true then(some (.stop (.inr false)))else(if(decide (s1>0))=true then((mO a0 (Bw .i64 (s1-1))).bind fun c=>if(decide (a.bC<c.fTo))=true then(some (.stop (.inr false)))else(some (.next (Bw .i64 (s1+1)))))else(some (.next (Bw .i64 (s1+1))))))else(some (.stop (.inl ())))
def dv(a0:(List al)):Option (Bool):=
  (mF (cp a0) 0).bind fun a=>match a with| .inl _=>((de (a0.length:Int) 1 32).bind fun c=>some c)| .inr b=>(some b)
def dW(a0:(List UInt8)):Option (Bool):=
  some (!(a0==a0))
def bW(a0:(List UInt8))(a1:(List UInt8)):Option (Int):=
  (dW a0).bind fun b=>(dW a1).bind fun a=>if b=true then(if a=true then(some 0)else(some (-1)))else(if a=true then(some 1)else(if(Op.bytesLess a0 a1)=true then(some (-1))else(if(!(Op.bytesLess a0 a1||a0==a1))=true then(some 1)else(some 0))))
def cJ(a0:(List Int)):Int->Option (mI (Int) ((Unit)⊕(Int))):=fun s1=>
  if(decide (s1<(a0.length:Int)))=true then((mO a0 s1).bind fun a=>if(a != 0)=true then(some (.stop (.inr a)))else(some (.next (Bw .i64 (s1+1)))))else(some (.stop (.inl ())))
def f7(a0:(List Int)):Option (Int):=
  (mF (cJ a0) 0).bind fun a=>match a with| .inl _=>(some 0)| .inr b=>(some b)
def ed(a0:ak)(a1:ak):Option (Int):=
  (bW a0.aZ a1.aZ).bind fun a=>(bW a0.aS a1.aS).bind fun b=>(bW a0.aO a1.aO).bind fun c=>(bW a0.bg a1.bg).bind fun e=>(f7 [a,b,c,e]).bind fun f=>some f
def cA(a0:ah):Int->Option (mI (Int) ((Unit)⊕(Bool))):=fun s1=>
  if(decide (s1<(a0.aw.length:Int)))=true then((mO a0.aw s1).bind fun c=>(fm c.az).bind fun e=>if(!e)=true then(some (.stop (.inr false)))else((dv c.aH).bind fun f=>if(!f)=true then(some (.stop (.inr false)))else(if(decide (s1>0))=true then((mO a0.aw (Bw .i64 (s1-1))).bind fun a=>(ed a.az c.az).bind fun b=>if(decide (b>=0))=true then(some (.stop (.inr false)))else(some (.next (Bw .i64 (s1+1)))))else(some (.next (Bw .i64 (s1+1)))))))else(some (.stop (.inl ())))
def ci(a0:ah):Option (Bool):=
  (mF (cA a0) 0).bind fun a=>match a with| .inl _=>(some (decide ((a0.aw.length:Int)<=128)))| .inr b=>(some b)
def fA(a0:Int):Option (Bool):=
  some (a0 != a0)
def ch(a0:Int)(a1:Int):Option (Int):=
  (fA a0).bind fun b=>(fA a1).bind fun a=>if b=true then(if a=true then(some 0)else(some (-1)))else(if a=true then(some 1)else(if(decide (a0<a1))=true then(some (-1))else(if(decide (a0>a1))=true then(some 1)else(some 0))))
def bS(a0:ai)(a1:ai):Option (Int):=
  (ed a0.az a1.az).bind fun a=>(ch a0.br a1.br).bind fun b=>(ch a0.bd a1.bd).bind fun c=>(ch a0.bk a1.bk).bind fun e=>(ch a0.aN a1.aN).bind fun f=>(ch a0.aT a1.aT).bind fun g=>(f7 [a,b,c,e,f,g]).bind fun i=>some i
def eb(s2:Int)(d0:(List ai)):(Int×Int×(List ai))->Option (mI (Int×Int×(List ai)) (Int×(List ai))):=fun(f,b,a)=>
  (lenV a.length (0+(s2:Int).toNat) (0+((d0.length:Int):Int).toNat)).bind fun g=>if(decide (b<g))=true then((inV a.length (0+(s2:Int).toNat) (0+((d0.length:Int):Int).toNat) b).bind fun _=>(mO a (((0+(s2:Int).toNat)+(b:Int).toNat:Nat):Int)).bind fun c=>(inV a.length (0+(s2:Int).toNat) (0+((d0.length:Int):Int).toNat) (Bw .i64 (b-1))).bind fun _=>(mO a (((0+(s2:Int).toNat)+((Bw .i64 (b-1)):Int).toNat:Nat):Int)).bind fun e=>if(!(((c.az.aZ==e.az.aZ)&&((c.az.aS==e.az.aS)&&((c.az.aO==e.az.aO)&&((c.az.bg==e.az.bg)&&true))))&&((c.br==e.br)&&((c.bd==e.bd)&&((c.bk==e.bk)&&((c.aN==e.aN)&&((c.aT==e.aT)&&true)))))))=true then((inV a.length (0+(s2:Int).toNat) (0+((d0.length:Int):Int).toNat) b).bind fun _=>(mO a (((0+(s2:Int).toNat)+(b:Int).toNat:Nat):Int)).bind fun i=>(inO a f).bind fun _=>(se a f i).bind fun j=>some (.next ((Bw .i64 (f+1)),(Bw .i64 (b+1)),j)))else(some (.next (f,(Bw .i64 (b+1)),a))))else(some (.stop (f,a)))
def ec(d0:(List ai)):Int->Option (mI (Int) ((Unit)⊕((List ai)))):=fun s2=>
  if(decide (s2<(d0.length:Int)))=true then((inO d0 s2).bind fun _=>(mO d0 s2).bind fun c=>(inO d0 (Bw .i64 (s2-1))).bind fun _=>(mO d0 (Bw .i64 (s2-1))).bind fun b=>if(((c.az.aZ==b.az.aZ)&&((c.az.aS==b.az.aS)&&((c.az.aO==b.az.aO)&&((c.az.bg==b.az.bg)&&true))))&&((c.br==b.br)&&((c.bd==b.bd)&&((c.bk==b.bk)&&((c.aN==b.aN)&&((c.aT==b.aT)&&true))))))=true then((uw d0.length s2 (d0.length:Int)).bind fun _=>(mF (eb s2 d0) (s2,1,d0)).bind fun a=>(uw a.2.length a.1 (a.2.length:Int)).bind fun _=>(uQ a.2.length (0+(a.1:Int).toNat) (0+((a.2.length:Int):Int).toNat)).bind fun _=>(uw (p9 a.2 (0+(a.1:Int).toNat) ((0+((a.2.length:Int):Int).toNat)-(0+(a.1:Int).toNat)) (ai.mk (ak.mk [] [] [] []) 0 0 0 0 0)).length 0 a.1).bind fun _=>(sd (p9 a.2 (0+(a.1:Int).toNat) ((0+((a.2.length:Int):Int).toNat)-(0+(a.1:Int).toNat)) (ai.mk (ak.mk [] [] [] []) 0 0 0 0 0)) (0+(0:Int).toNat) (0+(a.1:Int).toNat)).bind fun e=>some (.stop (.inr e)))else(some (.next (Bw .i64 (s2+1)))))else(some (.stop (.inl ())))
def db(d0:(List ai)):Option ((List ai)):=
  if(decide ((d0.length:Int)<2))=true then(some d0)else((mF (ec d0) 1).bind fun a=>match a with| .inl _=>(some d0)| .inr b=>(some b))
def ie(a0:(List ai)):Option ((List ai)):=
  (oU 104 a0).bind fun a=>(sY bS a).bind fun b=>(db b).bind fun c=>some c
def eK(a0:Int)(a1:Int)(a2:Int):Option (Bool):=
  if(decide (a0>=a1))=true then(some (decide (a0<=a2)))else(some false)
def cG(a0:ai):Option (Bool):=
  (fm a0.az).bind fun a=>if a=true then(if(decide (a0.bd>=0))=true then(if(decide (a0.bd<=a0.br))=true then(if(decide (a0.br<=a0.bk))=true then(if(decide (a0.bk<=18014398509481984))=true then((eK a0.aN 0 1073741823).bind fun b=>if b=true then((eK a0.aT (-1) 1).bind fun c=>some c)else(some false))else(some false))else(some false))else(some false))else(some false))else(some false)
def dZ(f:(List au)):(Int×(List au))->Option (mI (Int×(List au)) ((List au))):=fun(s2,b)=>
  if(decide (s2<(f.length:Int)))=true then((inO b s2).bind fun _=>(mO b s2).bind fun g=>(oU 8 g.bp).bind fun c=>(inO b s2).bind fun _=>(modO b s2 (fun(a:au)=>(au.mk a.bu a.aQ a.aL c a.bc a.bq))).bind fun e=>some (.next ((Bw .i64 (s2+1)),e)))else(some (.stop b))
def dS(a0:al):Option (al):=
  (oU 96 a0.ba.aD).bind fun b=>(mF (dZ b) (0,b)).bind fun a=>some (al.mk a0.bC a0.fTo a0.cm a0.aI (aA.mk a))
def eT(e:(List al)):(Int×(List al))->Option (mI (Int×(List al)) ((List al))):=fun(s2,a)=>
  if(decide (s2<(e.length:Int)))=true then((inO a s2).bind fun _=>(mO a s2).bind fun f=>(dS f).bind fun b=>(inO a s2).bind fun _=>(se a s2 b).bind fun c=>some (.next ((Bw .i64 (s2+1)),c)))else(some (.stop a))
def fe(a0:aj):Option (aj):=
  (oU 80 a0.aH).bind fun b=>(mF (eT b) (0,b)).bind fun a=>some (aj.mk a0.az a)
def gq(a0:ah)(a1:ak):Int->Option (mI (Int) ((Unit)⊕(aj×Bool))):=fun s1=>
  if(decide (s1<(a0.aw.length:Int)))=true then((mO a0.aw s1).bind fun a=>if((a.az.aZ==a1.aZ)&&((a.az.aS==a1.aS)&&((a.az.aO==a1.aO)&&((a.az.bg==a1.bg)&&true))))=true then((fe a).bind fun b=>some (.stop (.inr (b,true))))else(some (.next (Bw .i64 (s1+1)))))else(some (.stop (.inl ())))
def gp(a0:ah)(a1:ak):Option (aj×Bool):=
  (mF (gq a0 a1) 0).bind fun b=>match b with| .inl _=>(some ((aj.mk (ak.mk [] [] [] []) []),false))| .inr a=>(some a)
def ip(a0:aj)(a1:Int):Int->Option (mI (Int) ((Unit)⊕(al×Bool))):=fun s1=>
  if(decide (s1<(a0.aH.length:Int)))=true then((mO a0.aH s1).bind fun a=>if(decide (a.bC<=a1))=true then(if(decide (a1<a.fTo))=true then(some (.stop (.inr (a,true))))else(some (.next (Bw .i64 (s1+1)))))else(some (.next (Bw .i64 (s1+1)))))else(some (.stop (.inl ())))
def iG(a0:aj)(a1:Int):Option (al×Bool):=
  (mF (ip a0 a1) 0).bind fun b=>match b with| .inl _=>(some ((al.mk 0 0 (bh.mk 0 0) (ac.mk 0 0 0) (aA.mk [])),false))| .inr a=>(some a)
def fd(a0:ah)(a1:ak)(a2:Int):Option (al×Int):=
  (ci a0).bind fun b=>if(!b)=true then(some ((al.mk 0 0 (bh.mk 0 0) (ac.mk 0 0 0) (aA.mk [])),1))else((gp a0 a1).bind fun c=>(iG c.1 a2).bind fun a=>if(!a.2)=true then(some ((al.mk 0 0 (bh.mk 0 0) (ac.mk 0 0 0) (aA.mk [])),6))else(some (a.1,0)))
def dP(a0:ag)(a1:ah)(a2:ai):Option (aC×al×Bool):=
  (cG a2).bind fun b=>if(!b)=true then(some ((aC.mk (ac.mk 0 0 0) 0 0 0),(al.mk 0 0 (bh.mk 0 0) (ac.mk 0 0 0) (aA.mk [])),false))else((fd a1 a2.az a2.br).bind fun a=>if(a.2 != 0)=true then(some ((aC.mk (ac.mk 0 0 0) 0 0 0),(al.mk 0 0 (bh.mk 0 0) (ac.mk 0 0 0) (aA.mk [])),false))else((jR a0.ae.bj a0.ae.aU (aC.mk a.1.aI a2.bd a2.bk 1)).bind fun c=>if(c.2 != 0)=true then(some ((aC.mk (ac.mk 0 0 0) 0 0 0),(al.mk 0 0 (bh.mk 0 0) (ac.mk 0 0 0) (aA.mk [])),false))else(some ((aC.mk a.1.aI a2.bd a2.bk 1),a.1,true))))
def fr(l:(List ai))(a0:ag)(a1:ah):(Int×(List ai)×(List aC)×(List al))->Option (mI (Int×(List ai)×(List aC)×(List al)) ((List ai)×(List aC)×(List al))):=fun(c,e,f,g)=>
  if(decide (c<(l.length:Int)))=true then((mO l c).bind fun b=>(dP a0 a1 b).bind fun a=>if a.2.2=true then((nK e [b] 104).bind fun i=>(nK f [a.1] 48).bind fun j=>(nK g [a.2.1] 80).bind fun k=>some (.next ((Bw .i64 (c+1)),i,j,k)))else(some (.next ((Bw .i64 (c+1)),e,f,g))))else(some (.stop (e,f,g)))
def iw(a0:ag)(a1:ah)(a2:(List ai)):Option (aX×Int):=
  (cX a0).bind fun b=>if(b != 0)=true then(some ((aX.mk [] [] []),27))else((ci a1).bind fun c=>if(!c)=true then(some ((aX.mk [] [] []),1))else((ie a2).bind fun e=>(mF (fr e a0 a1) (0,([]:(List ai)),([]:(List aC)),([]:(List al)))).bind fun a=>some ((aX.mk a.1 a.2.1 a.2.2),0)))
def dG:(Int×(List Int))->Option (mI (Int×(List Int)) ((List Int))):=fun(s2,a)=>
  if(decide (s2>0))=true then((qQ s2 1073741824).bind fun b=>(nK a [b] 8).bind fun c=>some (.next ((mT .i64 s2 30),c)))else(some (.stop a))
def mo(a0:Int):Option ((List Int)×Int):=
  if(decide (a0<0))=true then(some (([]:(List Int)),2))else((mF (dG) (a0,([]:(List Int)))).bind fun a=>some (a,0))
def iV(a0:Int):Option (Bool):=
  if(decide (a0<0))=true then(some true)else(some (decide (a0>=1073741824)))
def em(a0:(List Int)):Int->Option (mI (Int) ((Unit)⊕(Int))):=fun s1=>
  if(decide (s1<(a0.length:Int)))=true then((mO a0 s1).bind fun a=>(iV a).bind fun b=>if b=true then(some (.stop (.inr s1)))else(some (.next (Bw .i64 (s1+1)))))else(some (.stop (.inl ())))
def dz(a0:(List Int)):Option (Int):=
  (mF (em a0) 0).bind fun b=>match b with| .inl _=>(some (-1))| .inr a=>(some a)
def bR(a0:(List Int)):Option (Bool):=
  (dz a0).bind fun a=>some (decide (a>=0))
def gf(a0:(List Int)):Option (Bool):=
  if(decide ((a0.length:Int)>64))=true then(some false)else(if(decide ((a0.length:Int)>0))=true then((mO a0 (Bw .i64 ((a0.length:Int)-1))).bind fun a=>if(a==0)=true then(some false)else((bR a0).bind fun b=>some (!b)))else((bR a0).bind fun c=>some (!c)))
def kR(a0:(List Int))(a1:(List Int)):Option (Bool):=
  (gf a0).bind fun a=>if a=true then((gf a1).bind fun b=>some b)else(some false)
def ff(a0:(List Int))(a1:Int):Option (Int):=
  if(decide (a1>=(a0.length:Int)))=true then(some 0)else((mO a0 a1).bind fun a=>some a)
def jm:(List Int)->Option (mI ((List Int)) ((List Int))):=fun s1=>
  if(decide ((s1.length:Int)>0))=true then((mO s1 (Bw .i64 ((s1.length:Int)-1))).bind fun a=>if(a==0)=true then((sD s1 0 (Bw .i64 ((s1.length:Int)-1))).bind fun b=>some (.next b))else(some (.stop s1)))else(some (.stop s1))
def eH(a0:(List Int)):Option ((List Int)):=
  (mF (jm) a0).bind fun a=>some a
def cr(a1:(List Int))(s2:Int)(j:Int):(Int×Int×(List Int))->Option (mI (Int×Int×(List Int)) (Int×(List Int))):=fun(f,b,a)=>
  if(decide (b<(Bw .i64 ((a1.length:Int)+1))))=true then(if(decide ((Bw .i64 (s2+b))<(a.length:Int)))=true then((inO a (Bw .i64 (s2+b))).bind fun _=>(mO a (Bw .i64 (s2+b))).bind fun c=>(ff a1 b).bind fun e=>(qQ (Bw .i64 (f+(Bw .i64 (c+(Bw .i64 (j*e)))))) 1073741824).bind fun g=>(inO a (Bw .i64 (s2+b))).bind fun _=>(se a (Bw .i64 (s2+b)) g).bind fun i=>some (.next ((mT .i64 (Bw .i64 (f+(Bw .i64 (c+(Bw .i64 (j*e)))))) 30),(Bw .i64 (b+1)),i)))else(some (.next (f,(Bw .i64 (b+1)),a))))else(some (.stop (s2,a)))
def cE(a0:(List Int))(a1:(List Int)):(Int×(List Int))->Option (mI (Int×(List Int)) ((List Int))):=fun(s2,b)=>
  if(decide (s2<(a0.length:Int)))=true then((mO a0 s2).bind fun c=>(mF (cr a1 s2 c) (0,0,b)).bind fun a=>some (.next ((Bw .i64 (a.1+1)),a.2)))else(some (.stop b))
def eA(a0:(List Int))(a1:(List Int)):Option ((List Int)):=
  (mkO (Bw .i64 ((a0.length:Int)+(a1.length:Int))) 0 8).bind fun c=>(mF (cE a0 a1) (0,c)).bind fun a=>(eH a).bind fun b=>some b
def dI(a0:(List Int)):Option ((List Int)×Int):=
  (eH a0).bind fun a=>if(decide ((a.length:Int)>64))=true then(some (([]:(List Int)),8))else(some (a,0))
def nat_Mul(a0:(List Int))(a1:(List Int)):Option ((List Int)×Int):=
  (kR a0 a1).bind fun b=>if(!b)=true then(some (([]:(List Int)),1))else((eA a0 a1).bind fun c=>(dI c).bind fun a=>some (a.1,a.2))
def cj(a0:Int):Option ((List Int)):=
  (mo (if(Bw .i64 (0-a0))>a0 then(Bw .i64 (0-a0))else a0)).bind fun a=>(nat_Mul a.1 a.1).bind fun b=>some b.1
def eh(a1:(List Int))(a0:(List Int)):(Int×Int×(List Int))->Option (mI (Int×Int×(List Int)) ((List Int))):=fun(f,b,g)=>
  if(decide (b<(Bw .i64 ((if(a1.length:Int)>(a0.length:Int)then(a1.length:Int)else(a0.length:Int))+1))))=true then((ff a0 b).bind fun i=>(ff a1 b).bind fun a=>(qQ (Bw .i64 (f+(Bw .i64 (i+a)))) 1073741824).bind fun c=>(nK g [c] 8).bind fun e=>some (.next ((mT .i64 (Bw .i64 (f+(Bw .i64 (i+a)))) 30),(Bw .i64 (b+1)),e)))else(some (.stop g))
def nat_Add(a0:(List Int))(a1:(List Int)):Option ((List Int)×Int):=
  (kR a0 a1).bind fun c=>if(!c)=true then(some (([]:(List Int)),1))else((mF (eh a1 a0) (0,0,([]:(List Int)))).bind fun b=>(dI b).bind fun a=>some (a.1,a.2))
def ea(a0:aP)(a1:Int)(a2:Int):Option ((List Int)):=
  (cj (Bw .i64 ((Bw .i64 ((Bw .i64 (a0.a0*a2))*a2))-(Bw .i64 ((Bw .i64 (a0.a2*a1))*a1))))).bind fun a=>(cj (Bw .i64 ((Bw .i64 (a0.a1*a1))*a2))).bind fun b=>(nat_Add a b).bind fun c=>some c.1
def hX(a0:au)(a1:Int)(a2:Int):Option (ar×Bool):=
  if(a0.bu==0)=true then((cj a0.aQ.a0).bind fun c=>(cj a0.aL.a0).bind fun e=>some ((ar.mk c e),true))else(if(a0.bu==1)=true then((ea a0.aQ a1 a2).bind fun f=>(ea a0.aL a1 a2).bind fun b=>some ((ar.mk f b),(decide ((b.length:Int)>0))))else((bV a0.bp).bind fun g=>(cj g).bind fun i=>(sI .i64 1 a0.bq).bind fun j=>(cj j).bind fun a=>some ((ar.mk i a),true)))
def dH(a0:ar):Option (Bool):=
  (gf a0.aQ).bind fun a=>if a=true then((gf a0.aL).bind fun b=>if b=true then(some (decide ((a0.aL.length:Int)>0)))else(some false))else(some false)
def lw(a0:ar)(a1:ar):Option (ar×Int):=
  (dH a0).bind fun c=>if(!c)=true then(some ((ar.mk [] []),1))else((dH a1).bind fun e=>if(!e)=true then(some ((ar.mk [] []),1))else((eA a0.aQ a1.aQ).bind fun f=>(dI f).bind fun a=>(eA a0.aL a1.aL).bind fun g=>(dI g).bind fun b=>if(a.2 != 0)=true then(some ((ar.mk [] []),8))else(if(b.2 != 0)=true then(some ((ar.mk [] []),8))else(some ((ar.mk a.1 b.1),0)))))
def cy(a0:aA)(a1:Int)(a2:Int):(Int×(List Int)×(List Int))->Option (mI (Int×(List Int)×(List Int)) (((List Int)×(List Int))⊕(ar×Int))):=fun(c,f,g)=>
  if(decide (c<(a0.aD.length:Int)))=true then((mO a0.aD c).bind fun e=>(hX e a1 a2).bind fun b=>if(!b.2)=true then(some (.stop (.inr ((ar.mk [] []),11))))else((lw (ar.mk f g) b.1).bind fun a=>if(a.2 != 0)=true then(some (.stop (.inr ((ar.mk [] []),a.2))))else(some (.next ((Bw .i64 (c+1)),a.1.aQ,a.1.aL)))))else(some (.stop (.inl (f,g))))
def hP(a0:aA)(a1:Int)(a2:Int):Option (ar×Int):=
  (dx a0).bind fun e=>if(!e)=true then(some ((ar.mk [] []),1))else((bA a1 0 65536).bind fun f=>if(!f)=true then(some ((ar.mk [] []),2))else((bA a2 1 65536).bind fun g=>if(!g)=true then(some ((ar.mk [] []),2))else((mF (cy a0 a1 a2) (0,[1],[1])).bind fun b=>match b with| .inl a=>(some ((ar.mk a.1 a.2),0))| .inr c=>(some c))))
def bX(a0:Int)(b:Int)(a:Int):Option (Int):=
  some (Bw .i64 ((Bw .i64 (256*a0))+a))
def bJ(a0:Int)(a:Int)(b:Int):Option (Int):=
  if(decide ((mT .i64 (Bw .i64 (a*a)) 30)>=2147483648))=true then((nU .i64 (mT .i64 (Bw .i64 (a*a)) 30) 2).bind fun c=>bX a0 c (Bw .i64 ((Bw .i64 (b*2))+1)))else(bX a0 (mT .i64 (Bw .i64 (a*a)) 30) (Bw .i64 (b*2)))
def bK(a0:Int)(a:Int)(b:Int):Option (Int):=
  if(decide ((mT .i64 (Bw .i64 (a*a)) 30)>=2147483648))=true then((nU .i64 (mT .i64 (Bw .i64 (a*a)) 30) 2).bind fun c=>bJ a0 c (Bw .i64 ((Bw .i64 (b*2))+1)))else(bJ a0 (mT .i64 (Bw .i64 (a*a)) 30) (Bw .i64 (b*2)))
def bL(a0:Int)(a:Int)(b:Int):Option (Int):=
  if(decide ((mT .i64 (Bw .i64 (a*a)) 30)>=2147483648))=true then((nU .i64 (mT .i64 (Bw .i64 (a*a)) 30) 2).bind fun c=>bK a0 c (Bw .i64 ((Bw .i64 (b*2))+1)))else(bK a0 (mT .i64 (Bw .i64 (a*a)) 30) (Bw .i64 (b*2)))
def bM(a0:Int)(a:Int)(c:Int):Option (Int):=
  if(decide ((mT .i64 (Bw .i64 (a*a)) 30)>=2147483648))=true then((nU .i64 (mT .i64 (Bw .i64 (a*a)) 30) 2).bind fun b=>bL a0 b (Bw .i64 ((Bw .i64 (c*2))+1)))else(bL a0 (mT .i64 (Bw .i64 (a*a)) 30) (Bw .i64 (c*2)))
def bN(a0:Int)(a:Int)(c:Int):Option (Int):=
  if(decide ((mT .i64 (Bw .i64 (a*a)) 30)>=2147483648))=true then((nU .i64 (mT .i64 (Bw .i64 (a*a)) 30) 2).bind fun b=>bM a0 b (Bw .i64 ((Bw .i64 (c*2))+1)))else(bM a0 (mT .i64 (Bw .i64 (a*a)) 30) (Bw .i64 (c*2)))
def bO(a0:Int)(a:Int)(c:Int):Option (Int):=
  if(decide ((mT .i64 (Bw .i64 (a*a)) 30)>=2147483648))=true then((nU .i64 (mT .i64 (Bw .i64 (a*a)) 30) 2).bind fun b=>bN a0 b (Bw .i64 ((Bw .i64 (c*2))+1)))else(bN a0 (mT .i64 (Bw .i64 (a*a)) 30) (Bw .i64 (c*2)))
def bP(a0:Int)(a:Int)(c:Int):Option (Int):=
  if(decide ((mT .i64 (Bw .i64 (a*a)) 30)>=2147483648))=true then((nU .i64 (mT .i64 (Bw .i64 (a*a)) 30) 2).bind fun b=>bO a0 b (Bw .i64 ((Bw .i64 (c*2))+1)))else(bO a0 (mT .i64 (Bw .i64 (a*a)) 30) (Bw .i64 (c*2)))
def cq(a0:Int)(a1:Int):Option (Int):=
  if(decide ((mT .i64 (Bw .i64 (a1*a1)) 30)>=2147483648))=true then((nU .i64 (mT .i64 (Bw .i64 (a1*a1)) 30) 2).bind fun a=>bP a0 a 1)else(bP a0 (mT .i64 (Bw .i64 (a1*a1)) 30) 0)
def dp(a0:Int):Option (Int×Int):=
  if(decide (a0<1))=true then(some (0,2))else((jE (Bw .u64 a0)).bind fun a=>if(decide ((Bw .i64 (a-1))<=30))=true then((sI .i64 a0 (Bw .i64 (30-(Bw .i64 (a-1))))).bind fun b=>(cq (Bw .i64 (a-1)) b).bind fun c=>some (c,0))else((shrO .i64 a0 (Bw .i64 ((Bw .i64 (a-1))-30))).bind fun e=>(cq (Bw .i64 (a-1)) e).bind fun f=>some (f,0)))
def cC(a0:(List Int)):Option (Int×Int):=
  (gf a0).bind fun c=>if(!c)=true then(some (0,1))else(if(decide ((Bw .i64 ((a0.length:Int)-1))<0))=true then(some (0,2))else(if((Bw .i64 ((a0.length:Int)-1))==0)=true then((mO a0 0).bind fun e=>(dp e).bind fun a=>some (a.1,a.2))else((mO a0 (Bw .i64 ((a0.length:Int)-1))).bind fun f=>(mO a0 (Bw .i64 ((Bw .i64 ((a0.length:Int)-1))-1))).bind fun g=>(dp (orI .i64 (pI .i64 f 30) g)).bind fun b=>some ((Bw .i64 (b.1+(Bw .i64 (7680*(Bw .i64 ((Bw .i64 ((a0.length:Int)-1))-1)))))),b.2))))
def gV(a0:aM)(a1:aA)(a2:Int):Option (Int×Int):=
  (hP a1 a0.aQ a0.aL).bind fun a=>if(a.2 != 0)=true then(some (0,a.2))else((cC a.1.aQ).bind fun c=>if(c.2 != 0)=true then(some (0,24))else((cC a.1.aL).bind fun b=>if(b.2 != 0)=true then(some (0,b.2))else((dp a2).bind fun e=>some ((Bw .i64 ((Bw .i64 ((Bw .i64 (2*e.1))+b.1))-c.1)),e.2))))
def eV(a0:Int):Option (Int):=
  some (mT .i64 a0 1)
def gT(a0:Int):Option (Int×Bool):=
  if(decide (a0>=(-16777216)))=true then(some ((Bw .i64 (a0*30103)),(decide (a0<=16777216))))else(some ((Bw .i64 (a0*30103)),false))
def eF(a0:Int):Option (Int):=
  (gT a0).bind fun a=>if(!a.2)=true then(some 0)else((nU .i64 a.1 256000).bind fun b=>(qQ a.1 256000).bind fun c=>if(decide (c<0))=true then(some (Bw .i64 (b-1)))else(some b))
def gr(a0:Int):Option (Int):=
  (eF (Bw .i64 (0-a0))).bind fun a=>some (Bw .i64 (0-a))
def eO(a0:aM)(a1:aA)(a2:Int)(a3:Int)(a4:Int):Option (av×Int):=
  (bQ a0).bind fun g=>if(!g)=true then(some ((av.mk 0 0),27))else(if(decide (a2<1))=true then(some ((av.mk 0 0),2))else(if(decide (a2>1073741823))=true then(some ((av.mk 0 0),2))else((gV a0 a1 a2).bind fun a=>if(a.2 != 0)=true then(some ((av.mk 0 0),a.2))else((e9 a0.aV a3 a4).bind fun b=>if(b.2.2 != 0)=true then(some ((av.mk 0 0),b.2.2))else((eV (Bw .i64 (a.1-2))).bind fun i=>(eF i).bind fun c=>(eV (Bw .i64 ((Bw .i64 (0-a.1))-6))).bind fun e=>(gr (Bw .i64 (0-e))).bind fun f=>some ((av.mk (Bw .i64 (c+b.1)) (Bw .i64 (f+b.2.1))),0))))))
def cx(a0:aX)(a2:aq)(a1:ag):(Int×(List av))->Option (mI (Int×(List av)) ((List av))):=fun(s1,s2)=>
  if(decide (s1<(a0.jT.length:Int)))=true then((mO a0.jT s1).bind fun e=>(mO a0.fepochs s1).bind fun f=>(mO a0.fpicks s1).bind fun g=>(fB a2 e.aS).bind fun i=>(gn a2 e.aS).bind fun b=>(eO a1.bi f.ba g.aN i b).bind fun a=>if(a.2==0)=true then((nK s2 [a.1] 16).bind fun c=>some (.next ((Bw .i64 (s1+1)),c)))else(some (.next ((Bw .i64 (s1+1)),s2))))else(some (.stop s2))
def ga(a0:aX)(a1:ag)(a2:aq):Option ((List av)):=
  (mF (cx a0 a2 a1) (0,([]:(List av)))).bind fun a=>some a
def eB(a0:ag)(a1:ah)(a2:(List ai))(a3:aq):Option ((List av)×Int):=
  (iw a0 a1 a2).bind fun a=>if(a.2 != 0)=true then(some (([]:(List av)),a.2))else((bU a3).bind fun b=>if(!b)=true then(some (([]:(List av)),20))else((ga a.1 a0 a3).bind fun c=>some (c,0)))
def ej(a0:ac):Option (Bool):=
  if(decide (a0.fX>=(-1048576)))=true then(if(decide (a0.fX<=1048576))=true then(if(decide (a0.fY>=(-1048576)))=true then(if(decide (a0.fY<=1048576))=true then(if(decide (a0.fZ>=(-16384)))=true then(some (decide (a0.fZ<=1048576)))else(some false))else(some false))else(some false))else(some false))else(some false)
def cP(a0:aq):Option (Bool):=
  (ej a0.aG).bind fun a=>if a=true then((ej a0.aB).bind fun b=>if b=true then(if(decide (a0.aG.fX<=a0.aB.fX))=true then(if(decide (a0.aG.fY<=a0.aB.fY))=true then(some (decide (a0.aG.fZ<=a0.aB.fZ)))else(some false))else(some false))else(some false))else(some false)
def ja(a0:ap):Int->Option (mI (Int) ((Unit)⊕(Int))):=fun a=>
  if(decide (a<(a0.aG.length:Int)))=true then((mO a0.aG a).bind fun k=>if(decide (k<0))=true then(some (.stop (.inr 21)))else((mO a0.aB a).bind fun b=>if(decide (b>1099511627776))=true then(some (.stop (.inr 21)))else((mO a0.aG a).bind fun c=>(mO a0.aB a).bind fun e=>if(decide (c>e))=true then(some (.stop (.inr 21)))else(if(decide (a>0))=true then((mO a0.aG a).bind fun f=>(mO a0.aG (Bw .i64 (a-1))).bind fun g=>if(decide (f<g))=true then(some (.stop (.inr 21)))else((mO a0.aB a).bind fun i=>(mO a0.aB (Bw .i64 (a-1))).bind fun j=>if(decide (i<j))=true then(some (.stop (.inr 21)))else(some (.next (Bw .i64 (a+1))))))else(some (.next (Bw .i64 (a+1))))))))else(some (.stop (.inl ())))
def cg(a0:ap):Option (Int):=
  if(decide (a0.aY<1))=true then(some 21)else(if(decide (a0.aY>1048576))=true then(some 21)else(if((a0.aG.length:Int) != (a0.aB.length:Int))=true then(some 21)else(if(decide ((a0.aG.length:Int)<2))=true then(some 21)else(if(decide ((a0.aG.length:Int)>256))=true then(some 21)else((mF (ja a0) 0).bind fun a=>match a with| .inl _=>(some 0)| .inr b=>(some b))))))
def gB(a0:aJ):Option (Bool):=
  (cP a0.aU).bind fun a=>if a=true then((cg a0.bj).bind fun b=>if(b==0)=true then(if(decide (a0.gK>=1))=true then(if(decide (a0.gK<=1099511627776))=true then(if(decide (a0.aK>=0))=true then(if(decide (a0.aK<=1099511627776))=true then(if(decide (a0.ce>=0))=true then(if(decide (a0.ce<=1099511627776))=true then(if(decide (a0.dn>=0))=true then(if(decide (a0.dn<=1099511627776))=true then(if(decide (a0.b9>=2))=true then(some (decide (a0.b9<=16)))else(some false))else(some false))else(some false))else(some false))else(some false))else(some false))else(some false))else(some false))else(some false))else(some false))else(some false)
def d9(a0:aM):Option (Bool):=
  (cg a0.aV).bind fun a=>if(a==0)=true then(if(decide (a0.aQ>=0))=true then(if(decide (a0.aQ<=65536))=true then(if(decide (a0.aL>=1))=true then(some (decide (a0.aL<=65536)))else(some false))else(some false))else(some false))else(some false)
def bZ(a0:ag):Option (Int):=
  (gB a0.ae).bind fun a=>if(!a)=true then(some 27)else((d9 a0.bi).bind fun b=>if(!b)=true then(some 27)else(if(decide (a0.aK<0))=true then(some 27)else(if(decide (a0.aK>1099511627776))=true then(some 27)else(some 0))))
def gu(a0:(List UInt8)):Int->Option (mI (Int) ((Unit)⊕(Bool))):=fun s1=>
  if(decide (s1<(a0.length:Int)))=true then((pg a0 s1).bind fun e=>if(decide (e>=65))=true then((pg a0 s1).bind fun f=>if(decide (f<=90))=true then(some (.next (Bw .i64 (s1+1))))else((pg a0 s1).bind fun g=>if(decide (g>=48))=true then((pg a0 s1).bind fun a=>if(!(decide (a<=57)))=true then(some (.stop (.inr false)))else(some (.next (Bw .i64 (s1+1)))))else(some (.stop (.inr false)))))else((pg a0 s1).bind fun b=>if(decide (b>=48))=true then((pg a0 s1).bind fun c=>if(!(decide (c<=57)))=true then(some (.stop (.inr false)))else(some (.next (Bw .i64 (s1+1)))))else(some (.stop (.inr false)))))else(some (.stop (.inl ())))
def eW(a0:(List UInt8))(a1:Int)(a2:Int):Option (Bool):=
  (mF (gu a0) 0).bind fun a=>match a with| .inl _=>(if(decide ((a0.length:Int)>=a1))=true then(some (decide ((a0.length:Int)<=a2)))else(some false))| .inr b=>(some b)
def gg(a0:ak):Option (Bool):=
  (eW a0.aZ 1 2).bind fun a=>if a=true then((eW a0.aS 1 5).bind fun b=>if b=true then(if(a0.aO== [])=true then((eW a0.bg 3 3).bind fun c=>some c)else((eW a0.aO 2 2).bind fun e=>if e=true then((eW a0.bg 3 3).bind fun f=>some f)else(some false)))else(some false))else(some false)
def bD(a0:Int)(a1:Int)(a2:Int):Option (Bool):=
  if(decide (a0>=a1))=true then(some (decide (a0<=a2)))else(some false)
def ref02_gcd_l7:(Int×Int)->Option (mI (Int×Int) (Int)):=fun(s1,s2)=>
  if(s2 != 0)=true then((qQ s1 s2).bind fun a=>some (.next (s2,a)))else(some (.stop s1))
def ref02_gcd(a0:Int)(a1:Int):Option (Int):=
  (mF (ref02_gcd_l7) (a0,a1)).bind fun a=>some a
def kU(a0:bh):Option (Bool):=
  (bD a0.aQ 1 4096).bind fun a=>if a=true then((bD a0.aL 1 4096).bind fun b=>if b=true then((ref02_gcd a0.aQ a0.aL).bind fun c=>some (c==1))else(some false))else(some false)
def gx(a0:(List Int)):Int->Option (mI (Int) ((Unit)⊕(Bool))):=fun s1=>
  if(decide (s1<(a0.length:Int)))=true then((mO a0 s1).bind fun a=>(bD a (-1048576) 1048576).bind fun b=>if(!b)=true then(some (.stop (.inr false)))else(some (.next (Bw .i64 (s1+1)))))else(some (.stop (.inl ())))
def ei(a0:(List Int)):Option (Bool):=
  (mF (gx a0) 0).bind fun b=>match b with| .inl _=>(some true)| .inr a=>(some a)
def ref18_total_l7(a0:(List Int)):(Int×Int)->Option (mI (Int×Int) (Int)):=fun(s1,s2)=>
  if(decide (s2<(a0.length:Int)))=true then((mO a0 s2).bind fun a=>some (.next ((Bw .i64 (s1+a)),(Bw .i64 (s2+1)))))else(some (.stop s1))
def eY(a0:(List Int)):Option (Int):=
  (mF (ref18_total_l7 a0) (0,0)).bind fun a=>some a
def fh(a0:au):Option (Bool):=
  if((a0.bp.length:Int)==0)=true then(if(a0.bc==0)=true then(if(a0.bu==0)=true then(if(a0.bq==0)=true then((bD a0.aQ.a0 1 1048576).bind fun t=>if t=true then((bD a0.aL.a0 1 1048576).bind fun u=>if u=true then(if(a0.aQ.a1==0)=true then(if(a0.aQ.a2==0)=true then(if(a0.aL.a1==0)=true then(some (a0.aL.a2==0))else(some false))else(some false))else(some false))else(some false))else(some false))else(some false))else(if(a0.bu==1)=true then(if(a0.bq==0)=true then((ei [a0.aQ.a0,a0.aQ.a1,a0.aQ.a2]).bind fun a=>if a=true then((ei [a0.aL.a0,a0.aL.a1,a0.aL.a2]).bind fun b=>if b=true then(some (a0.aL.a0 != 0))else(some false))else(some false))else(some false))else(if(a0.bu==2)=true then(if((a0.aQ.a0==0)&&((a0.aQ.a1==0)&&((a0.aQ.a2==0)&&true)))=true then(if((a0.aL.a0==0)&&((a0.aL.a1==0)&&((a0.aL.a2==0)&&true)))=true then((bD (a0.bp.length:Int) 1 128).bind fun c=>if c=true then((ei a0.bp).bind fun e=>if e=true then((eY a0.bp).bind fun f=>if(f != 0)=true then((bD a0.bc 1 64).bind fun g=>if g=true then((bD a0.bq 0 40).bind fun i=>some i)else(some false))else(some false))else(some false))else(some false))else(some false))else(some false))else(some false))))else(if(a0.bu==0)=true then(some false)else(if(a0.bu==1)=true then(some false)else(if(a0.bu==2)=true then(if((a0.aQ.a0==0)&&((a0.aQ.a1==0)&&((a0.aQ.a2==0)&&true)))=true then(if((a0.aL.a0==0)&&((a0.aL.a1==0)&&((a0.aL.a2==0)&&true)))=true then((bD (a0.bp.length:Int) 1 128).bind fun j=>if j=true then((ei a0.bp).bind fun k=>if k=true then((eY a0.bp).bind fun l=>if(l != 0)=true then((bD a0.bc 1 64).bind fun m=>if m=true then((bD a0.bq 0 40).bind fun n=>some n)else(some false))else(some false))else(some false))else(some false))else(some false))else(some false))else(some false)))))else(if(a0.bu==0)=true then(some false)else(if(a0.bu==1)=true then(some false)else(if(a0.bu==2)=true then(if((a0.aQ.a0==0)&&((a0.aQ.a1==0)&&((a0.aQ.a2==0)&&true)))=true then(if((a0.aL.a0==0)&&((a0.aL.a1==0)&&((a0.aL.a2==0)&&true)))=true then((bD (a0.bp.length:Int) 1 128).bind fun o=>if o=true then((ei a0.bp).bind fun p=>if p=true then((eY a0.bp).bind fun q=>if(q != 0)=true then((bD a0.bc 1 64).bind fun r=>if r=true then((bD a0.bq 0 40).bind fun s=>some s)else(some false))else(some false))else(some false))else(some false))else(some false))else(some false))else(some false))))
def ir(a0:aA):(Int×Int)->Option (mI (Int×Int) ((Unit)⊕(Bool))):=fun(s1,s2)=>
  if(decide (s2<(a0.aD.length:Int)))=true then((mO a0.aD s2).bind fun b=>(fh b).bind fun c=>if(!c)=true then(some (.stop (.inr false)))else((mO a0.aD s2).bind fun e=>if(e.bu==2)=true then((mO a0.aD s2).bind fun a=>if(decide ((Bw .i64 (s1*a.bc))>64))=true then(some (.stop (.inr false)))else(some (.next ((Bw .i64 (s1*a.bc)),(Bw .i64 (s2+1))))))else(some (.next (s1,(Bw .i64 (s2+1)))))))else(some (.stop (.inl ())))
def ig(a0:aA):Option (Bool):=
  (mF (ir a0) (1,0)).bind fun a=>match a with| .inl _=>(some (decide ((a0.aD.length:Int)<=8)))| .inr b=>(some b)
def fi(a0:al):Option (Bool):=
  if(decide (a0.bC>=0))=true then(if(decide (a0.bC<a0.fTo))=true then(if(decide (a0.fTo<=9007199254740992))=true then((kU a0.cm).bind fun c=>if c=true then((ig a0.ba).bind fun e=>if e=true then((bD a0.aI.fX (-1048576) 1048576).bind fun f=>if f=true then((bD a0.aI.fY (-1048576) 1048576).bind fun a=>if a=true then((bD a0.aI.fZ (-16384) 1048576).bind fun b=>some b)else(some false))else(some false))else(some false))else(some false))else(some false))else(some false))else(some false)
def dN(a0:(List UInt8))(a1:(List UInt8)):Option (Int):=
  if(Op.bytesLess a0 a1)=true then(some (-1))else(if(!(Op.bytesLess a0 a1||a0==a1))=true then(some 1)else(some 0))
def fC(a0:ak)(a1:ak):Option (Int):=
  (dN a0.aZ a1.aZ).bind fun a=>(dN a0.aS a1.aS).bind fun b=>(dN a0.aO a1.aO).bind fun c=>(dN a0.bg a1.bg).bind fun e=>if(a != 0)=true then(some a)else(if(b != 0)=true then(some b)else(if(c != 0)=true then(some c)else(if(e != 0)=true then(some e)else(some 0))))
def fP(b:aj)(s1:Int):Int->Option (mI (Int) ((Int)⊕(Bool))):=fun a=>
  if(decide (a<(b.aH.length:Int)))=true then((mO b.aH a).bind fun g=>(fi g).bind fun c=>if(!c)=true then(some (.stop (.inr false)))else(if(decide (a>0))=true then((mO b.aH a).bind fun e=>(mO b.aH (Bw .i64 (a-1))).bind fun f=>if(decide (e.bC<f.fTo))=true then(some (.stop (.inr false)))else(some (.next (Bw .i64 (a+1)))))else(some (.next (Bw .i64 (a+1))))))else(some (.stop (.inl s1)))
def fO(e:aj)(s1:Int):Option (mI (Int) ((Unit)⊕(Bool))):=
  (mF (fP e s1) 0).bind fun a=>match a with| .inl c=>(some (.next (Bw .i64 (c+1))))| .inr b=>(some (.stop (.inr b)))
def fQ(a0:ah):Int->Option (mI (Int) ((Unit)⊕(Bool))):=fun s1=>
  if(decide (s1<(a0.aw.length:Int)))=true then((mO a0.aw s1).bind fun a=>(gg a.az).bind fun b=>if(!b)=true then(some (.stop (.inr false)))else(if(decide (s1>0))=true then((mO a0.aw (Bw .i64 (s1-1))).bind fun c=>(fC c.az a.az).bind fun e=>if(decide (e>=0))=true then(some (.stop (.inr false)))else((bD (a.aH.length:Int) 1 32).bind fun f=>if(!f)=true then(some (.stop (.inr false)))else(fO a s1)))else((bD (a.aH.length:Int) 1 32).bind fun g=>if(!g)=true then(some (.stop (.inr false)))else(fO a s1))))else(some (.stop (.inl ())))
def gh(a0:ah):Option (Bool):=
  (mF (fQ a0) 0).bind fun a=>match a with| .inl _=>(some (decide ((a0.aw.length:Int)<=128)))| .inr b=>(some b)
def hM(a0:ai)(a1:ai):Option (Int):=
  (fC a0.az a1.az).bind fun a=>if(a != 0)=true then(some a)else(if(decide (a0.br<a1.br))=true then(some (-1))else(if(decide (a0.br>a1.br))=true then(some 1)else(if(decide (a0.bd<a1.bd))=true then(some (-1))else(if(decide (a0.bd>a1.bd))=true then(some 1)else(if(decide (a0.bk<a1.bk))=true then(some (-1))else(if(decide (a0.bk>a1.bk))=true then(some 1)else(if(decide (a0.aN<a1.aN))=true then(some (-1))else(if(decide (a0.aN>a1.aN))=true then(some 1)else(if(decide (a0.aT<a1.aT))=true then(some (-1))else(if(decide (a0.aT>a1.aT))=true then(some 1)else(some 0)))))))))))
def gz(s2:(List ai))(a0:(List ai))(s1:Int):Int->Option (mI (Int) (Int×Int×(List ai))):=fun a=>
  if(decide (a>0))=true then((inO s2 (Bw .i64 (a-1))).bind fun _=>(mO s2 (Bw .i64 (a-1))).bind fun b=>(mO a0 s1).bind fun c=>(hM b c).bind fun e=>if(decide (e>0))=true then(some (.next (Bw .i64 (a-1))))else(some (.stop (s1,a,s2))))else(some (.stop (s1,a,s2)))
def d7(a0:(List ai))(a:Int×Int×(List ai)):Option (mI (Int×(List ai)) ((List ai))):=
  (mO a0 a.1).bind fun e=>(nK a.2.2 [e] 104).bind fun b=>(uw b.length (Bw .i64 (a.2.1+1)) (b.length:Int)).bind fun _=>(uw b.length a.2.1 (b.length:Int)).bind fun _=>(uQ b.length (0+((Bw .i64 (a.2.1+1)):Int).toNat) (0+((b.length:Int):Int).toNat)).bind fun _=>(sd b (0+(a.2.1:Int).toNat) (0+((b.length:Int):Int).toNat)).bind fun c=>(mO a0 a.1).bind fun f=>(inO (tM b (0+((Bw .i64 (a.2.1+1)):Int).toNat) ((0+((b.length:Int):Int).toNat)-(0+((Bw .i64 (a.2.1+1)):Int).toNat)) c) a.2.1).bind fun _=>(se (tM b (0+((Bw .i64 (a.2.1+1)):Int).toNat) ((0+((b.length:Int):Int).toNat)-(0+((Bw .i64 (a.2.1+1)):Int).toNat)) c) a.2.1 f).bind fun g=>some (.next ((Bw .i64 (a.1+1)),g))
def i8(a0:(List ai)):(Int×(List ai))->Option (mI (Int×(List ai)) ((List ai))):=fun(s1,s2)=>
  if(decide (s1<(a0.length:Int)))=true then((mF (gz s2 a0 s1) (s2.length:Int)).bind fun a=>if(decide (a.2.1>0))=true then((inO a.2.2 (Bw .i64 (a.2.1-1))).bind fun _=>(mO a.2.2 (Bw .i64 (a.2.1-1))).bind fun b=>(mO a0 a.1).bind fun c=>if(((b.az.aZ==c.az.aZ)&&((b.az.aS==c.az.aS)&&((b.az.aO==c.az.aO)&&((b.az.bg==c.az.bg)&&true))))&&((b.br==c.br)&&((b.bd==c.bd)&&((b.bk==c.bk)&&((b.aN==c.aN)&&((b.aT==c.aT)&&true))))))=true then(some (.next ((Bw .i64 (a.1+1)),a.2.2)))else(d7 a0 a))else(d7 a0 a))else(some (.stop s2))
def iZ(a0:(List ai)):Option ((List ai)):=
  (mF (i8 a0) (0,([]:(List ai)))).bind fun a=>some a
def fR(a0:ai):Option (Bool):=
  (gg a0.az).bind fun a=>if a=true then(if(decide (a0.bd>=0))=true then(if(decide (a0.bd<=a0.br))=true then(if(decide (a0.br<=a0.bk))=true then(if(decide (a0.bk<=18014398509481984))=true then((bD a0.aN 0 1073741823).bind fun b=>if b=true then((bD a0.aT (-1) 1).bind fun c=>some c)else(some false))else(some false))else(some false))else(some false))else(some false))else(some false)
def fG(a0:aA):(Int×(List au))->Option (mI (Int×(List au)) ((List au))):=fun(s1,s2)=>
  if(decide (s1<(a0.aD.length:Int)))=true then((mO a0.aD s1).bind fun a=>(nK ([]:List Int) a.bp 8).bind fun b=>(nK s2 [(au.mk a.bu a.aQ a.aL b a.bc a.bq)] 96).bind fun c=>some (.next ((Bw .i64 (s1+1)),c)))else(some (.stop s2))
def kb(a0:aA):Option (aA):=
  (mF (fG a0) (0,([]:(List au)))).bind fun a=>some (aA.mk a)
def fN(a0:al):Option (al):=
  (kb a0.ba).bind fun a=>some (al.mk a0.bC a0.fTo a0.cm a0.aI a)
def d6(a0:ah)(s1:Int)(s2:(List aj)):(Int×(List al))->Option (mI (Int×(List al)) (Int×(List aj)×(List al))):=fun(a,i)=>
  (mO a0.aw s1).bind fun b=>if(decide (a<(b.aH.length:Int)))=true then((mO a0.aw s1).bind fun c=>(mO c.aH a).bind fun e=>(fN e).bind fun f=>(nK i [f] 80).bind fun g=>some (.next ((Bw .i64 (a+1)),g)))else(some (.stop (s1,s2,i)))
def eZ(a0:ah):(Int×(List aj))->Option (mI (Int×(List aj)) ((List aj))):=fun(s1,s2)=>
  if(decide (s1<(a0.aw.length:Int)))=true then((mO a0.aw s1).bind fun c=>(mF (d6 a0 s1 s2) (0,([]:(List al)))).bind fun a=>(nK a.2.1 [(aj.mk c.az a.2.2)] 88).bind fun b=>some (.next ((Bw .i64 (a.1+1)),b)))else(some (.stop s2))
def iY(a0:ah):Option (ah):=
  (mF (eZ a0) (0,([]:(List aj)))).bind fun a=>some (ah.mk a)
def jx(a0:ah)(a1:ak):Int->Option (mI (Int) ((Unit)⊕(aj×Bool))):=fun s1=>
  if(decide (s1<(a0.aw.length:Int)))=true then((mO a0.aw s1).bind fun a=>if((a.az.aZ==a1.aZ)&&((a.az.aS==a1.aS)&&((a.az.aO==a1.aO)&&((a.az.bg==a1.bg)&&true))))=true then((sD a0.aw s1 (Bw .i64 (s1+1))).bind fun b=>(iY (ah.mk b)).bind fun c=>(mO c.aw 0).bind fun e=>some (.stop (.inr (e,true))))else(some (.next (Bw .i64 (s1+1)))))else(some (.stop (.inl ())))
def ke(a0:ah)(a1:ak):Option (aj×Bool):=
  (mF (jx a0 a1) 0).bind fun a=>match a with| .inl _=>(some ((aj.mk (ak.mk [] [] [] []) []),false))| .inr b=>(some b)
def iH(b:aj×Bool)(a2:Int):Int->Option (mI (Int) ((Unit)⊕(al×Int))):=fun a=>
  if(decide (a<(b.1.aH.length:Int)))=true then((mO b.1.aH a).bind fun e=>if(decide (e.bC<=a2))=true then((mO b.1.aH a).bind fun f=>if(decide (a2<f.fTo))=true then((mO b.1.aH a).bind fun c=>some (.stop (.inr (c,0))))else(some (.next (Bw .i64 (a+1)))))else(some (.next (Bw .i64 (a+1)))))else(some (.stop (.inl ())))
def jM(a0:ah)(a1:ak)(a2:Int):Option (al×Int):=
  (gh a0).bind fun c=>if(!c)=true then(some ((al.mk 0 0 (bh.mk 0 0) (ac.mk 0 0 0) (aA.mk [])),1))else((ke a0 a1).bind fun e=>(mF (iH e a2) 0).bind fun a=>match a with| .inl _=>(some ((al.mk 0 0 (bh.mk 0 0) (ac.mk 0 0 0) (aA.mk [])),6))| .inr b=>(some b))
def hC(a0:Int)(a1:Int)(a2:Int):Option (Int):=
  some (if(Bw .i64 (a2-a1))>(if(Bw .i64 (a0-a2))>0 then(Bw .i64 (a0-a2))else 0)then(Bw .i64 (a2-a1))else(if(Bw .i64 (a0-a2))>0 then(Bw .i64 (a0-a2))else 0))
def dm(a0:Int):Option (Int):=
  some (Bw .i64 (a0*a0))
def gZ(a0:aq)(a1:ac):Option (Int):=
  (cP a0).bind fun b=>if(!b)=true then(some 0)else((ej a1).bind fun c=>if(!c)=true then(some 0)else((hC a0.aG.fX a0.aB.fX a1.fX).bind fun e=>(dm e).bind fun f=>(hC a0.aG.fY a0.aB.fY a1.fY).bind fun g=>(dm g).bind fun i=>(hC a0.aG.fZ a0.aB.fZ a1.fZ).bind fun j=>(dm j).bind fun a=>some (Bw .i64 ((Bw .i64 (f+i))+a))))
def iN(a0:Int)(a1:Int)(a2:Int):Option (Int):=
  some (if(Bw .i64 (a1-a2))>(Bw .i64 (a2-a0))then(Bw .i64 (a1-a2))else(Bw .i64 (a2-a0)))
def iM(a0:aq)(a1:ac):Option (Int):=
  (cP a0).bind fun b=>if(!b)=true then(some 0)else((ej a1).bind fun c=>if(!c)=true then(some 0)else((iN a0.aG.fX a0.aB.fX a1.fX).bind fun e=>(dm e).bind fun f=>(iN a0.aG.fY a0.aB.fY a1.fY).bind fun g=>(dm g).bind fun i=>(iN a0.aG.fZ a0.aB.fZ a1.fZ).bind fun j=>(dm j).bind fun a=>some (Bw .i64 ((Bw .i64 (f+i))+a))))
def kZ(a0:Int):(Int×Int)->Option (mI (Int×Int) (Int)):=fun(s1,s2)=>
  if(decide (s2>0))=true then(if(decide ((Bw .i64 (s1+s2))<=3037000499))=true then(if(decide ((Bw .i64 ((Bw .i64 (s1+s2))*(Bw .i64 (s1+s2))))<=a0))=true then(some (.next ((Bw .i64 (s1+s2)),(mT .i64 s2 1))))else(some (.next (s1,(mT .i64 s2 1)))))else(some (.next (s1,(mT .i64 s2 1)))))else(some (.stop s1))
def gi(a0:Int):Option (Int):=
  (mF (kZ a0) (0,2147483648)).bind fun a=>some a
def i9(a0:Int):Option (Int):=
  (gi a0).bind fun a=>if(decide (a0>(Bw .i64 (a*a))))=true then(some (Bw .i64 (a+1)))else(some a)
def la(a0:ap):Option (Int):=
  (cg a0).bind fun a=>if(a != 0)=true then(some 0)else(some (Bw .i64 (a0.aY*(Bw .i64 ((a0.aG.length:Int)-1)))))
def k9(a0:ap)(a1:Int):Option (Int):=
  (nU .i64 a1 a0.aY).bind fun a=>(mO a0.aG a).bind fun b=>some b
def lb(a0:ap)(a1:Int):Option (Int):=
  (nU .i64 (Bw .i64 ((Bw .i64 (a1+a0.aY))-1)) a0.aY).bind fun a=>(mO a0.aB a).bind fun b=>some b
def fH(a0:ap)(a1:Int)(a2:Int):Option (Int×Int×Int):=
  (cg a0).bind fun c=>if(c != 0)=true then(some (0,0,21))else(if(decide (a1<0))=true then(some (0,0,2))else(if(decide (a1>a2))=true then(some (0,0,2))else((i9 a2).bind fun e=>(la a0).bind fun f=>if(decide (e>f))=true then(some (0,0,22))else((gi a1).bind fun g=>(k9 a0 g).bind fun i=>(i9 a2).bind fun a=>(lb a0 a).bind fun b=>some (i,b,0)))))
def gA(a0:ap)(a1:aq)(a2:ac):Option (Int×Int×Int):=
  (cg a0).bind fun b=>if(b != 0)=true then(some (0,0,21))else((cP a1).bind fun c=>if(!c)=true then(some (0,0,20))else((ej a2).bind fun e=>if(!e)=true then(some (0,0,20))else((gZ a1 a2).bind fun f=>(iM a1 a2).bind fun g=>(fH a0 f g).bind fun a=>some (a.1,a.2.1,a.2.2))))
def gD(a0:ag)(a1:ah)(a2:ai):Option (aC×Bool):=
  (bZ a0).bind fun b=>if(b != 0)=true then(some ((aC.mk (ac.mk 0 0 0) 0 0 0),false))else((fR a2).bind fun c=>if(!c)=true then(some ((aC.mk (ac.mk 0 0 0) 0 0 0),false))else((jM a1 a2.az a2.br).bind fun a=>if(a.2 != 0)=true then(some ((aC.mk (ac.mk 0 0 0) 0 0 0),false))else((gA a0.ae.bj a0.ae.aU a.1.aI).bind fun e=>if(e.2.2 != 0)=true then(some ((aC.mk (ac.mk 0 0 0) 0 0 0),false))else(some ((aC.mk a.1.aI a2.bd a2.bk 1),true)))))
def iu(c:(List ai))(a0:ag)(a1:ah):(Int×(List ai))->Option (mI (Int×(List ai)) ((List ai))):=fun(s2,a)=>
  if(decide (s2<(c.length:Int)))=true then((mO c s2).bind fun e=>(gD a0 a1 e).bind fun f=>if f.2=true then((nK a [e] 104).bind fun b=>some (.next ((Bw .i64 (s2+1)),b)))else(some (.next ((Bw .i64 (s2+1)),a))))else(some (.stop a))
def ld(a0:ag)(a1:ah)(a2:(List ai)):Option ((List ai)):=
  (iZ a2).bind fun b=>(mF (iu b a0 a1) (0,([]:(List ai)))).bind fun a=>some a
def cN:(Int×(List Int))->Option (mI (Int×(List Int)) ((List Int))):=fun(s2,a)=>
  if(decide (s2>0))=true then((qQ s2 1073741824).bind fun b=>(nK a [b] 8).bind fun c=>(nU .i64 s2 1073741824).bind fun e=>some (.next (e,c)))else(some (.stop a))
def jZ(a0:Int):Option ((List Int)×Int):=
  if(decide (a0<0))=true then(some (([]:(List Int)),2))else((mF (cN) (a0,([]:(List Int)))).bind fun a=>some (a,0))
def kV(a0:(List Int)):Int->Option (mI (Int) ((Unit)⊕(Bool))):=fun s1=>
  if(decide (s1<(a0.length:Int)))=true then((mO a0 s1).bind fun a=>(bD a 0 1073741823).bind fun b=>if(!b)=true then(some (.stop (.inr false)))else(some (.next (Bw .i64 (s1+1)))))else(some (.stop (.inl ())))
def dt(a0:(List Int)):Option (Bool):=
  (mF (kV a0) 0).bind fun c=>match c with| .inl _=>(if(decide ((a0.length:Int)<=64))=true then(if((a0.length:Int)==0)=true then(some true)else((mO a0 (Bw .i64 ((a0.length:Int)-1))).bind fun b=>some (b != 0)))else(some false))| .inr a=>(some a)
def ref17_trim_l8:(List Int)->Option (mI ((List Int)) ((List Int))):=fun s1=>
  if(decide ((s1.length:Int)>0))=true then((mO s1 (Bw .i64 ((s1.length:Int)-1))).bind fun a=>if(a==0)=true then((sD s1 0 (Bw .i64 ((s1.length:Int)-1))).bind fun b=>some (.next b))else(some (.stop s1)))else(some (.stop s1))
def ref17_trim(a0:(List Int)):Option ((List Int)):=
  (mF (ref17_trim_l8) a0).bind fun a=>some a
def fD(g:(List Int))(s2:Int)(b:Int)(a:Int):Option (mI (Int×Int×(List Int)) (Int×(List Int))):=
  (qQ a 1073741824).bind fun c=>(inO g (Bw .i64 (s2+b))).bind fun _=>(se g (Bw .i64 (s2+b)) c).bind fun e=>(nU .i64 a 1073741824).bind fun f=>some (.next (f,(Bw .i64 (b+1)),e))
def fE(c:(List Int))(s2:Int)(a:Int)(a1:(List Int))(a0:(List Int))(g:Int):Option (mI (Int×Int×(List Int)) (Int×(List Int))):=
  (inO c (Bw .i64 (s2+a))).bind fun _=>(mO c (Bw .i64 (s2+a))).bind fun b=>if(decide (a<(a1.length:Int)))=true then((mO a0 s2).bind fun e=>(mO a1 a).bind fun f=>fD c s2 a (Bw .i64 ((Bw .i64 (g+b))+(Bw .i64 (e*f)))))else(fD c s2 a (Bw .i64 (g+b)))
def cM(a1:(List Int))(s2:Int)(a0:(List Int)):(Int×Int×(List Int))->Option (mI (Int×Int×(List Int)) (Int×(List Int))):=fun(a,b,c)=>
  if(decide (b<(a1.length:Int)))=true then(fE c s2 b a1 a0 a)else(if(decide (a>0))=true then(fE c s2 b a1 a0 a)else(some (.stop (s2,c))))
def fF(a0:(List Int))(a1:(List Int)):(Int×(List Int))->Option (mI (Int×(List Int)) ((List Int))):=fun(s2,b)=>
  if(decide (s2<(a0.length:Int)))=true then((mF (cM a1 s2 a0) (0,0,b)).bind fun a=>some (.next ((Bw .i64 (a.1+1)),a.2)))else(some (.stop b))
def jL(a0:(List Int))(a1:(List Int)):Option ((List Int)):=
  (mkO (Bw .i64 ((a0.length:Int)+(a1.length:Int))) 0 8).bind fun c=>(mF (fF a0 a1) (0,c)).bind fun a=>(ref17_trim a).bind fun b=>some b
def cL(a0:(List Int)):Option ((List Int)×Int):=
  if(decide ((a0.length:Int)>64))=true then(some (([]:(List Int)),8))else(some (a0,0))
def gY(a0:(List Int))(a1:(List Int)):Option ((List Int)×Int):=
  (dt a0).bind fun b=>if(!b)=true then(some (([]:(List Int)),1))else((dt a1).bind fun c=>if(!c)=true then(some (([]:(List Int)),1))else((jL a0 a1).bind fun e=>(cL e).bind fun a=>some (a.1,a.2)))
def dl(a0:Int):Option ((List Int)):=
  (jZ (if(Bw .i64 (0-a0))>a0 then(Bw .i64 (0-a0))else a0)).bind fun a=>(gY a.1 a.1).bind fun b=>some b.1
def eM(g:(List Int))(f:Int)(a:Int):Option (mI (Int×Int×(List Int)) ((List Int))):=
  (qQ a 1073741824).bind fun b=>(nK g [b] 8).bind fun c=>(nU .i64 a 1073741824).bind fun e=>some (.next (e,(Bw .i64 (f+1)),c))
def eN(b:Int)(a1:(List Int))(e:(List Int))(a:Int):Option (mI (Int×Int×(List Int)) ((List Int))):=
  if(decide (b<(a1.length:Int)))=true then((mO a1 b).bind fun c=>eM e b (Bw .i64 (a+c)))else(eM e b a)
def dO(a:Int)(a0:(List Int))(a1:(List Int))(e:(List Int))(c:Int):Option (mI (Int×Int×(List Int)) ((List Int))):=
  if(decide (a<(a0.length:Int)))=true then((mO a0 a).bind fun b=>eN a a1 e (Bw .i64 (c+b)))else(eN a a1 e c)
def dq(a0:(List Int))(a1:(List Int)):(Int×Int×(List Int))->Option (mI (Int×Int×(List Int)) ((List Int))):=fun(b,a,c)=>
  if(decide (a<(a0.length:Int)))=true then(dO a a0 a1 c b)else(if(decide (a<(a1.length:Int)))=true then(dO a a0 a1 c b)else(if(decide (b>0))=true then(dO a a0 a1 c b)else(some (.stop c))))
def ly(a0:(List Int))(a1:(List Int)):Option ((List Int)×Int):=
  (dt a0).bind fun c=>if(!c)=true then(some (([]:(List Int)),1))else((dt a1).bind fun e=>if(!e)=true then(some (([]:(List Int)),1))else((mF (dq a0 a1) (0,0,([]:(List Int)))).bind fun b=>(cL b).bind fun a=>some (a.1,a.2)))
def eI(a0:aP)(a1:Int)(a2:Int):Option ((List Int)):=
  (dl (Bw .i64 ((Bw .i64 ((Bw .i64 (a0.a0*a2))*a2))-(Bw .i64 ((Bw .i64 (a0.a2*a1))*a1))))).bind fun a=>(dl (Bw .i64 ((Bw .i64 (a0.a1*a1))*a2))).bind fun b=>(ly a b).bind fun c=>some c.1
def kd(a0:au)(a1:Int)(a2:Int):Option (ar):=
  if(a0.bu==0)=true then((dl a0.aQ.a0).bind fun b=>(dl a0.aL.a0).bind fun c=>some (ar.mk b c))else(if(a0.bu==1)=true then((eI a0.aQ a1 a2).bind fun e=>(eI a0.aL a1 a2).bind fun f=>some (ar.mk e f))else((eY a0.bp).bind fun g=>(dl g).bind fun i=>(sI .i64 1 (Bw .u64 a0.bq)).bind fun j=>(dl j).bind fun a=>some (ar.mk i a)))
def cZ(a0:ar):Option (Bool):=
  (dt a0.aQ).bind fun a=>if a=true then((dt a0.aL).bind fun b=>if b=true then(some (decide ((a0.aL.length:Int)>0)))else(some false))else(some false)
def jn(a0:ar)(a1:ar):Option (ar×Int):=
  (cZ a0).bind fun c=>if(!c)=true then(some ((ar.mk [] []),1))else((cZ a1).bind fun e=>if(!e)=true then(some ((ar.mk [] []),1))else((gY a0.aQ a1.aQ).bind fun a=>(gY a0.aL a1.aL).bind fun b=>if(a.2 != 0)=true then(some ((ar.mk [] []),8))else(if(b.2 != 0)=true then(some ((ar.mk [] []),8))else(some ((ar.mk a.1 b.1),0)))))
def cf(a0:aA)(a1:Int)(a2:Int):(Int×(List Int)×(List Int))->Option (mI (Int×(List Int)×(List Int)) (((List Int)×(List Int))⊕(ar×Int))):=fun(c,f,g)=>
  if(decide (c<(a0.aD.length:Int)))=true then((mO a0.aD c).bind fun e=>(kd e a1 a2).bind fun a=>if((a.aL.length:Int)==0)=true then(some (.stop (.inr ((ar.mk [] []),11))))else((jn (ar.mk f g) a).bind fun b=>some (.next ((Bw .i64 (c+1)),b.1.aQ,b.1.aL))))else(some (.stop (.inl (f,g))))
def kc(a0:aA)(a1:Int)(a2:Int):Option (ar×Int):=
  (ig a0).bind fun e=>if(!e)=true then(some ((ar.mk [] []),1))else((bD a1 0 65536).bind fun f=>if(!f)=true then(some ((ar.mk [] []),2))else((bD a2 1 65536).bind fun g=>if(!g)=true then(some ((ar.mk [] []),2))else((mF (cf a0 a1 a2) (0,[1],[1])).bind fun b=>match b with| .inl a=>(some ((ar.mk a.1 a.2),0))| .inr c=>(some c))))
def kA:(Int×Int)->Option (mI (Int×Int) (Int)):=fun(s1,s2)=>
  if(decide (s1>0))=true then(some (.next ((mT .i64 s1 1),(Bw .i64 (s2+1)))))else(some (.stop s2))
def fj(a0:Int):Option (Int):=
  (mF (kA) (a0,0)).bind fun a=>some a
def bY:(Int×Int×Int)->Option (mI (Int×Int×Int) (Int)):=fun(s1,s2,a)=>
  if(decide (a<8))=true then(if(decide ((mT .i64 (Bw .i64 (s1*s1)) 30)>=2147483648))=true then(some (.next ((mT .i64 (mT .i64 (Bw .i64 (s1*s1)) 30) 1),(Bw .i64 ((Bw .i64 (s2*2))+1)),(Bw .i64 (a+1)))))else(some (.next ((mT .i64 (Bw .i64 (s1*s1)) 30),(Bw .i64 (s2*2)),(Bw .i64 (a+1))))))else(some (.stop s2))
def ek(a0:Int)(a1:Int):Option (Int):=
  (mF (bY) (a1,0,0)).bind fun a=>some (Bw .i64 ((Bw .i64 (256*a0))+a))
def iO(a0:Int):Option (Int×Int):=
  if(decide (a0<1))=true then(some (0,2))else((fj a0).bind fun a=>if(decide ((Bw .i64 (a-1))<=30))=true then((sI .i64 a0 (Bw .u64 (Bw .i64 (30-(Bw .i64 (a-1)))))).bind fun b=>(ek (Bw .i64 (a-1)) b).bind fun c=>some (c,0))else((shrO .i64 a0 (Bw .u64 (Bw .i64 ((Bw .i64 (a-1))-30)))).bind fun e=>(ek (Bw .i64 (a-1)) e).bind fun f=>some (f,0)))
def bH(a0:(List Int)):(Int×Int)->Option (mI (Int×Int) (Int)):=fun(c,a)=>
  if(decide (a>=0))=true then((mO a0 a).bind fun b=>some (.next ((orI .i64 (pI .i64 c 30) b),(Bw .i64 (a-1)))))else(some (.stop c))
def gC(a0:(List Int)):Option (Int×Int):=
  (dt a0).bind fun j=>if(!j)=true then(some (0,1))else(if((a0.length:Int)==0)=true then(some (0,2))else(if(decide ((a0.length:Int)<=2))=true then((mF (bH a0) (0,(Bw .i64 ((a0.length:Int)-1)))).bind fun f=>(iO f).bind fun a=>some (a.1,a.2))else((mO a0 (Bw .i64 ((a0.length:Int)-1))).bind fun b=>(mO a0 (Bw .i64 ((a0.length:Int)-2))).bind fun c=>(fj (orI .i64 (pI .i64 b 30) c)).bind fun e=>(shrO .i64 (orI .i64 (pI .i64 b 30) c) (Bw .u64 (Bw .i64 (e-31)))).bind fun g=>(ek (Bw .i64 ((Bw .i64 ((Bw .i64 (30*(Bw .i64 ((a0.length:Int)-2))))+e))-1)) g).bind fun i=>some (i,0))))
def jc(a0:Int):Option (Int):=
  (nU .i64 (Bw .i64 (a0-(andI .i64 a0 1))) 2).bind fun a=>some a
def ij(a0:Int):Option (Int):=
  if(decide (a0<(-16777216)))=true then(some 0)else(if(decide (a0>16777216))=true then(some 0)else((nU .i64 (Bw .i64 (a0*30103)) 256000).bind fun a=>if(decide ((Bw .i64 (a*256000))>(Bw .i64 (a0*30103))))=true then(some (Bw .i64 (a-1)))else(some a)))
def kg(a0:Int):Option (Int):=
  (ij (Bw .i64 (0-a0))).bind fun a=>some (Bw .i64 (0-a))
def fI(a0:aM)(a1:aA)(a2:Int)(a3:Int)(a4:Int):Option (av×Int):=
  (d9 a0).bind fun l=>if(!l)=true then(some ((av.mk 0 0),27))else(if(decide (a2<1))=true then(some ((av.mk 0 0),2))else(if(decide (a2>1073741823))=true then(some ((av.mk 0 0),2))else((kc a1 a0.aQ a0.aL).bind fun e=>if(e.2 != 0)=true then(some ((av.mk 0 0),e.2))else(if((e.1.aQ.length:Int)==0)=true then(some ((av.mk 0 0),24))else((fH a0.aV a3 a4).bind fun f=>if(f.2.2 != 0)=true then(some ((av.mk 0 0),f.2.2))else((iO a2).bind fun a=>(gC e.1.aQ).bind fun b=>(gC e.1.aL).bind fun c=>(jc (Bw .i64 ((Bw .i64 ((Bw .i64 ((Bw .i64 (2*a.1))+c.1))-b.1))-2))).bind fun g=>(ij g).bind fun i=>(jc (Bw .i64 (0-(Bw .i64 ((Bw .i64 ((Bw .i64 ((Bw .i64 (2*a.1))+c.1))-b.1))+6))))).bind fun j=>(kg (Bw .i64 (0-j))).bind fun k=>some ((av.mk (Bw .i64 (i+f.1)) (Bw .i64 (k+f.2.1))),0)))))))
def da(k:(List ai))(a1:ah)(a3:aq)(a0:ag):(Int×(List av))->Option (mI (Int×(List av)) ((List av))):=fun(e,f)=>
  if(decide (e<(k.length:Int)))=true then((mO k e).bind fun a=>(jM a1 a.az a.br).bind fun b=>(gZ a3 b.1.aI).bind fun g=>(iM a3 b.1.aI).bind fun i=>(fI a0.bi b.1.ba a.aN g i).bind fun c=>if(c.2==0)=true then((nK f [c.1] 16).bind fun j=>some (.next ((Bw .i64 (e+1)),j)))else(some (.next ((Bw .i64 (e+1)),f))))else(some (.stop f))
def fS(a0:ag)(a1:ah)(a2:(List ai))(a3:aq):Option ((List av)×Int):=
  (bZ a0).bind fun b=>if(b != 0)=true then(some (([]:(List av)),27))else((gh a1).bind fun c=>if(!c)=true then(some (([]:(List av)),1))else((cP a3).bind fun e=>if(!e)=true then(some (([]:(List av)),20))else((ld a0 a1 a2).bind fun f=>(mF (da f a1 a3 a0) (0,([]:(List av)))).bind fun a=>some (a,0))))
def df(b:(List av)×Int)(k:(List av)×Int)(f:Int)(g:Int)(i:Int)(j:Int):Int->Option (mI (Int) ((Int×Int×Int×Int)⊕(Bool))):=fun a=>
  if(decide (a<(b.1.length:Int)))=true then((mO b.1 a).bind fun c=>(mO k.1 a).bind fun e=>if(!((c.aG==e.aG)&&((c.aB==e.aB)&&true)))=true then(some (.stop (.inr false)))else(some (.next (Bw .i64 (a+1)))))else(some (.stop (.inl (f,g,i,j))))
def dg(a3:aq)(p:ag×aa)(q:aq×aa)(j:ag)(k:ah)(l:(List ai)):(Int×Int×Int×Int)->Option (mI (Int×Int×Int×Int) ((Int×Int×Int)⊕(Bool))):=fun(f,g,i,b)=>
  if(decide (b<3))=true then((mO [a3,p.1.ae.aU,q.1] b).bind fun m=>(eB j k l m).bind fun c=>(fS j k l m).bind fun e=>if(c.2 != e.2)=true then(some (.stop (.inr false)))else(if((c.1.length:Int) != (e.1.length:Int))=true then(some (.stop (.inr false)))else((mF (df c e f g i b) 0).bind fun n=>match n with| .inl a=>(some (.next (a.1,a.2.1,a.2.2.1,(Bw .i64 (a.2.2.2+1)))))| .inr o=>(some (.stop (.inr o))))))else(some (.stop (.inl (f,g,i))))
def dh(m:(List ai)×aa)(a2:(List ai))(j:ag×aa)(a3:aq)(n:ag)(o:ah):(Int×Int×Int×(List Int)×Int)->Option (mI (Int×Int×Int×(List Int)×Int) ((Int×Int×(List Int)×Int)⊕(Bool))):=fun(e,f,a,g,i)=>
  if(decide (a<2))=true then((mO [m.1,a2] a).bind fun p=>(kI j.1.ae.aU (aa.mk g i)).bind fun b=>(mF (dg a3 j b n o p) (e,f,a,0)).bind fun k=>match k with| .inl c=>(some (.next (c.1,c.2.1,(Bw .i64 (c.2.2+1)),b.2.fL,b.2.fAt)))| .inr l=>(some (.stop (.inr l))))else(some (.stop (.inl (e,f,g,i))))
def di(k:ah×aa)(a1:ah)(l:(List ai)×aa)(a2:(List ai))(j:ag×aa)(a3:aq)(m:ag):(Int×Int×(List Int)×Int)->Option (mI (Int×Int×(List Int)×Int) ((Int×(List Int)×Int)⊕(Bool))):=fun(c,b,e,f)=>
  if(decide (b<2))=true then((mO [k.1,a1] b).bind fun n=>(mF (dh l a2 j a3 m n) (c,b,0,e,f)).bind fun g=>match g with| .inl a=>(some (.next (a.1,(Bw .i64 (a.2.1+1)),a.2.2.1,a.2.2.2)))| .inr i=>(some (.stop (.inr i))))else(some (.stop (.inl (c,e,f))))
def dj(c:ag×aa)(a0:ag)(l:ag×aa)(j:ah×aa)(a1:ah)(k:(List ai)×aa)(a2:(List ai))(a3:aq):(Int×(List Int)×Int)->Option (mI (Int×(List Int)×Int) ((Unit)⊕(Bool))):=fun(a,g,i)=>
  if(decide (a<3))=true then((mO [c.1,a0,l.1] a).bind fun m=>(mF (di j a1 k a2 c a3 m) (a,0,g,i)).bind fun e=>match e with| .inl b=>(some (.next ((Bw .i64 (b.1+1)),b.2.1,b.2.2)))| .inr f=>(some (.stop (.inr f))))else(some (.stop (.inl ())))
def cU(a0:ag)(a1:ah)(a2:(List ai))(a3:aq)(a4:(List Int)):Option (Bool):=
  (ey a0).bind fun j=>if(!j)=true then((ln ).bind fun k=>some k)else((dT a1).bind fun l=>if(!l)=true then((ln ).bind fun m=>some m)else(if(decide ((a2.length:Int)>12))=true then((ln ).bind fun n=>some n)else((ml a4).bind fun o=>(iF 6 o).bind fun a=>(iL 6 a.2).bind fun b=>(jB a.1 b.1 8 b.2).bind fun e=>(fc a.1 e.2).bind fun c=>(mF (dj a a0 c b a1 e a2 a3) (0,c.2.fL,c.2.fAt)).bind fun f=>match f with| .inl _=>((ln ).bind fun i=>some i)| .inr g=>(some g))))
end
end Go.Dw.Es
