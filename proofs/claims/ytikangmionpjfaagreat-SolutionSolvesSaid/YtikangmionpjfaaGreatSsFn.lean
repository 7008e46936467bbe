
import Derived.Test.YtikangmionpjfaaGreatDwLift4
import Derived.Test.YtikangmionpjfaaGreatDwSortIP
import Derived.Test.YtikangmionpjfaaGreatDwSort
set_option linter.unusedVariables false
set_option linter.unusedSimpArgs false
open Go.IntKind renaming wrap->Dt

namespace Go.Dw.Ss
open Go.Dw
noncomputable section
def nW:Option Bool:=some true
structure aa where
  fX:Int
  fY:Int
  fZ:Int
  deriving DecidableEq
def aa.pd(x:aa):PD:= .agg [.int .i64 x.fX,.int .i64 x.fY,.int .i64 x.fZ]
structure ah where
  bh:aa
  av:aa
  deriving DecidableEq
def ah.pd(x:ah):PD:= .agg [.int .i64 x.bh.fX,.int .i64 x.bh.fY,.int .i64 x.bh.fZ,.int .i64 x.av.fX,.int .i64 x.av.fY,.int .i64 x.av.fZ]
structure aw where
  bS:Int
  bh:(List Int)
  av:(List Int)
  deriving DecidableEq
def aw.pd(x:aw):PD:= .agg [.int .i64 x.bS,.lst (x.bh.map (PD.int .i64)),.lst (x.av.map (PD.int .i64))]
structure bt where
  bk:ah
  bJ:aw
  dL:Int
  bz:Int
  ey:Int
  dq:Int
  dp:Int
  deriving DecidableEq
def bt.pd(x:bt):PD:= .agg [.int .i64 x.bk.bh.fX,.int .i64 x.bk.bh.fY,.int .i64 x.bk.bh.fZ,.int .i64 x.bk.av.fX,.int .i64 x.bk.av.fY,.int .i64 x.bk.av.fZ,.int .i64 x.bJ.bS,.lst (x.bJ.bh.map (PD.int .i64)),.lst (x.bJ.av.map (PD.int .i64)),.int .i64 x.dL,.int .i64 x.bz,.int .i64 x.ey,.int .i64 x.dq,.int .i64 x.dp]
structure bC where
  bF:aw
  bI:Int
  bG:Int
  deriving DecidableEq
def bC.pd(x:bC):PD:= .agg [.int .i64 x.bF.bS,.lst (x.bF.bh.map (PD.int .i64)),.lst (x.bF.av.map (PD.int .i64)),.int .i64 x.bI,.int .i64 x.bG]
structure aj where
  ae:bt
  bN:bC
  bz:Int
  deriving DecidableEq
def aj.pd(x:aj):PD:= .agg [.int .i64 x.ae.bk.bh.fX,.int .i64 x.ae.bk.bh.fY,.int .i64 x.ae.bk.bh.fZ,.int .i64 x.ae.bk.av.fX,.int .i64 x.ae.bk.av.fY,.int .i64 x.ae.bk.av.fZ,.int .i64 x.ae.bJ.bS,.lst (x.ae.bJ.bh.map (PD.int .i64)),.lst (x.ae.bJ.av.map (PD.int .i64)),.int .i64 x.ae.dL,.int .i64 x.ae.bz,.int .i64 x.ae.ey,.int .i64 x.ae.dq,.int .i64 x.ae.dp,.int .i64 x.bN.bF.bS,.lst (x.bN.bF.bh.map (PD.int .i64)),.lst (x.bN.bF.av.map (PD.int .i64)),.int .i64 x.bN.bI,.int .i64 x.bN.bG,.int .i64 x.bz]
structure bj where
  bH:(List UInt8)
  bv:(List UInt8)
  bd:(List UInt8)
  bL:(List UInt8)
  deriving DecidableEq
def bj.pd(x:bj):PD:= .agg [.str x.bH,.str x.bv,.str x.bd,.str x.bL]
structure bW where
  bI:Int
  bG:Int
  deriving DecidableEq
def bW.pd(x:bW):PD:= .agg [.int .i64 x.bI,.int .i64 x.bG]
structure bB where
  a0:Int
  a1:Int
  a2:Int
  deriving DecidableEq
def bB.pd(x:bB):PD:= .agg [.int .i64 x.a0,.int .i64 x.a1,.int .i64 x.a2]
structure bq where
  ct:Int
  bI:bB
  bG:bB
  cf:(List Int)
  bR:Int
  cn:Int
  deriving DecidableEq
def bq.pd(x:bq):PD:= .agg [.int .i64 x.ct,.int .i64 x.bI.a0,.int .i64 x.bI.a1,.int .i64 x.bI.a2,.int .i64 x.bG.a0,.int .i64 x.bG.a1,.int .i64 x.bG.a2,.lst (x.cf.map (PD.int .i64)),.int .i64 x.bR,.int .i64 x.cn]
structure bp where
  bD:(List bq)
  deriving DecidableEq
def bp.pd(x:bp):PD:= .agg [.lst (x.bD.map bq.pd)]
structure ba where
  b8:Int
  fTo:Int
  lj:bW
  bM:aa
  bQ:bp
  deriving DecidableEq
def ba.pd(x:ba):PD:= .agg [.int .i64 x.b8,.int .i64 x.fTo,.int .i64 x.lj.bI,.int .i64 x.lj.bG,.int .i64 x.bM.fX,.int .i64 x.bM.fY,.int .i64 x.bM.fZ,.lst (x.bQ.bD.map bq.pd)]
structure aq where
  bc:bj
  bA:(List ba)
  deriving DecidableEq
def aq.pd(x:aq):PD:= .agg [.str x.bc.bH,.str x.bc.bv,.str x.bc.bd,.str x.bc.bL,.lst (x.bA.map ba.pd)]
structure ac where
  bg:(List aq)
  deriving DecidableEq
def ac.pd(x:ac):PD:= .agg [.lst (x.bg.map aq.pd)]
structure ak where
  bc:bj
  cb:Int
  bV:Int
  ch:Int
  bK:Int
  bO:Int
  deriving DecidableEq
def ak.pd(x:ak):PD:= .agg [.str x.bc.bH,.str x.bc.bv,.str x.bc.bd,.str x.bc.bL,.int .i64 x.cb,.int .i64 x.bV,.int .i64 x.ch,.int .i64 x.bK,.int .i64 x.bO]
structure mW where
  a0:Int
  a1:Int
  deriving DecidableEq
def mW.pd(x:mW):PD:= .agg [.int .i64 x.a0,.int .i64 x.a1]
structure ag where
  fL:(List Int)
  fAt:Int
  deriving DecidableEq
def ag.pd(x:ag):PD:= .agg [.lst (x.fL.map (PD.int .i64)),.int .i64 x.fAt]
structure br where
  bv:aa
  bV:Int
  ch:Int
  d7:Int
  deriving DecidableEq
def br.pd(x:br):PD:= .agg [.int .i64 x.bv.fX,.int .i64 x.bv.fY,.int .i64 x.bv.fZ,.int .i64 x.bV,.int .i64 x.ch,.int .i64 x.d7]
structure bw where
  b8:Int
  fTo:Int
  deriving DecidableEq
def bw.pd(x:bw):PD:= .agg [.int .i64 x.b8,.int .i64 x.fTo]
structure A4_Int where
  a0:Int
  a1:Int
  a2:Int
  a3:Int
  deriving DecidableEq
def A4_Int.pd(x:A4_Int):PD:= .agg [.int .i64 x.a0,.int .i64 x.a1,.int .i64 x.a2,.int .i64 x.a3]
structure ai where
  bk:ah
  bJ:aw
  bT:(List br)
  dL:Int
  deriving DecidableEq
def ai.pd(x:ai):PD:= .agg [.int .i64 x.bk.bh.fX,.int .i64 x.bk.bh.fY,.int .i64 x.bk.bh.fZ,.int .i64 x.bk.av.fX,.int .i64 x.bk.av.fY,.int .i64 x.bk.av.fZ,.int .i64 x.bJ.bS,.lst (x.bJ.bh.map (PD.int .i64)),.lst (x.bJ.av.map (PD.int .i64)),.lst (x.bT.map br.pd),.int .i64 x.dL]
structure bP where
  fpicks:(List ak)
  nY:(List br)
  fepochs:(List ba)
  deriving DecidableEq
def bP.pd(x:bP):PD:= .agg [.lst (x.fpicks.map ak.pd),.lst (x.nY.map br.pd),.lst (x.fepochs.map ba.pd)]
structure nT where
  a0:mW
  a1:mW
  a2:mW
  a3:mW
  a4:mW
  deriving DecidableEq
def nT.pd(x:nT):PD:= .agg [.int .i64 x.a0.a0,.int .i64 x.a0.a1,.int .i64 x.a1.a0,.int .i64 x.a1.a1,.int .i64 x.a2.a0,.int .i64 x.a2.a1,.int .i64 x.a3.a0,.int .i64 x.a3.a1,.int .i64 x.a4.a0,.int .i64 x.a4.a1]
structure al where
  b7:aa
  cb:Int
  ci:Int
  jW:Int
  bX:ah
  deriving DecidableEq
def al.pd(x:al):PD:= .agg [.int .i64 x.b7.fX,.int .i64 x.b7.fY,.int .i64 x.b7.fZ,.int .i64 x.cb,.int .i64 x.ci,.int .i64 x.jW,.int .i64 x.bX.bh.fX,.int .i64 x.bX.bh.fY,.int .i64 x.bX.bh.fZ,.int .i64 x.bX.av.fX,.int .i64 x.bX.av.fY,.int .i64 x.bX.av.fZ]
structure az where
  bh:Int
  av:Int
  deriving DecidableEq
def az.pd(x:az):PD:= .agg [.int .i64 x.bh,.int .i64 x.av]
structure bu where
  mD:(List ak)
  bd:al
  dM:az
  oz:Int
  deriving DecidableEq
def bu.pd(x:bu):PD:= .agg [.lst (x.mD.map ak.pd),.int .i64 x.bd.b7.fX,.int .i64 x.bd.b7.fY,.int .i64 x.bd.b7.fZ,.int .i64 x.bd.cb,.int .i64 x.bd.ci,.int .i64 x.bd.jW,.int .i64 x.bd.bX.bh.fX,.int .i64 x.bd.bX.bh.fY,.int .i64 x.bd.bX.bh.fZ,.int .i64 x.bd.bX.av.fX,.int .i64 x.bd.bX.av.fY,.int .i64 x.bd.bX.av.fZ,.int .i64 x.dM.bh,.int .i64 x.dM.av,.int .i64 x.oz]
structure ap where
  dC:ah
  bY:Int
  jZ:Int
  deriving DecidableEq
def ap.pd(x:ap):PD:= .agg [.int .i64 x.dC.bh.fX,.int .i64 x.dC.bh.fY,.int .i64 x.dC.bh.fZ,.int .i64 x.dC.av.fX,.int .i64 x.dC.av.fY,.int .i64 x.dC.av.fZ,.int .i64 x.bY,.int .i64 x.jZ]
structure bZ where
  fp:ai
  lV:(List ap)
  jZ:Int
  ftaken:Int
  ffound:Bool
  cg:al
  deriving DecidableEq
def bZ.pd(x:bZ):PD:= .agg [.int .i64 x.fp.bk.bh.fX,.int .i64 x.fp.bk.bh.fY,.int .i64 x.fp.bk.bh.fZ,.int .i64 x.fp.bk.av.fX,.int .i64 x.fp.bk.av.fY,.int .i64 x.fp.bk.av.fZ,.int .i64 x.fp.bJ.bS,.lst (x.fp.bJ.bh.map (PD.int .i64)),.lst (x.fp.bJ.av.map (PD.int .i64)),.lst (x.fp.bT.map br.pd),.int .i64 x.fp.dL,.lst (x.lV.map ap.pd),.int .i64 x.jZ,.int .i64 x.ftaken,.bool x.ffound,.int .i64 x.cg.b7.fX,.int .i64 x.cg.b7.fY,.int .i64 x.cg.b7.fZ,.int .i64 x.cg.cb,.int .i64 x.cg.ci,.int .i64 x.cg.jW,.int .i64 x.cg.bX.bh.fX,.int .i64 x.cg.bX.bh.fY,.int .i64 x.cg.bX.bh.fZ,.int .i64 x.cg.bX.av.fX,.int .i64 x.cg.bX.av.fY,.int .i64 x.cg.bX.av.fZ]
structure bo where
  bI:(List Int)
  bG:(List Int)
  deriving DecidableEq
def bo.pd(x:bo):PD:= .agg [.lst (x.bI.map (PD.int .i64)),.lst (x.bG.map (PD.int .i64))]
structure bn where
  dC:ah
  bY:Int
  eY:Bool
  deriving DecidableEq
def bn.pd(x:bn):PD:= .agg [.int .i64 x.dC.bh.fX,.int .i64 x.dC.bh.fY,.int .i64 x.dC.bh.fZ,.int .i64 x.dC.av.fX,.int .i64 x.dC.av.fY,.int .i64 x.dC.av.fZ,.int .i64 x.bY,.bool x.eY]
def gE(a0:aw):Option (Bool):=
  if(decide ((a0.bh.length:Int)<=300))=true then(some (decide ((a0.av.length:Int)<=300)))else(some false)
def mp(a0:ah):Option (Int):=
  if(decide (a0.bh.fX>a0.av.fX))=true then(some 0)else(if(decide (a0.bh.fX<(-1048576)))=true then(some 0)else(if(decide (a0.av.fX>1048576))=true then(some 0)else(if(decide ((Dt .i64 (a0.av.fX-a0.bh.fX))>100))=true then(some 1000)else(if(decide (a0.bh.fY>a0.av.fY))=true then(some 0)else(if(decide (a0.bh.fY<(-1048576)))=true then(some 0)else(if(decide (a0.av.fY>1048576))=true then(some 0)else(if(decide ((Dt .i64 (a0.av.fY-a0.bh.fY))>100))=true then(some 1000)else(if(decide (a0.bh.fZ>a0.av.fZ))=true then(some 0)else(if(decide (a0.bh.fZ<(-1048576)))=true then(some 0)else(if(decide (a0.av.fZ>1048576))=true then(some 0)else(if(decide ((Dt .i64 (a0.av.fZ-a0.bh.fZ))>100))=true then(some 1000)else(some (if 1000<(Dt .i64 ((Dt .i64 ((Dt .i64 (1*(Dt .i64 ((Dt .i64 (a0.av.fX-a0.bh.fX))+1))))*(Dt .i64 ((Dt .i64 (a0.av.fY-a0.bh.fY))+1))))*(Dt .i64 ((Dt .i64 (a0.av.fZ-a0.bh.fZ))+1))))then 1000 else(Dt .i64 ((Dt .i64 ((Dt .i64 (1*(Dt .i64 ((Dt .i64 (a0.av.fX-a0.bh.fX))+1))))*(Dt .i64 ((Dt .i64 (a0.av.fY-a0.bh.fY))+1))))*(Dt .i64 ((Dt .i64 (a0.av.fZ-a0.bh.fZ))+1)))))))))))))))))
def eU(a0:aj):Option (Bool):=
  (gE a0.ae.bJ).bind fun a=>if a=true then((gE a0.bN.bF).bind fun c=>if c=true then((mp a0.ae.bk).bind fun f=>some (decide (f<300)))else(some false))else(some false)
def hF(a0:bp):Int->Option (pa (Int) ((Unit)⊕(Bool))):=fun s1=>
  if(decide (s1<(a0.bD.length:Int)))=true then((pb a0.bD s1).bind fun a=>if(decide ((a.cf.length:Int)>200))=true then(some (.stop (.inr false)))else(some (.next (Dt .i64 (s1+1)))))else(some (.stop (.inl ())))
def gy(a0:bp):Option (Bool):=
  (dE (hF a0) 0).bind fun a=>match a with| .inl _=>(some (decide ((a0.bD.length:Int)<=12)))| .inr c=>(some c)
def fQ(j:aq)(a0:ac)(s1:Int):Int->Option (pa (Int) ((Int)⊕(Bool))):=fun a=>
  if(decide (a<(j.bA.length:Int)))=true then((pb a0.bg s1).bind fun c=>(pb c.bA a).bind fun f=>(gy f.bQ).bind fun g=>if(!g)=true then(some (.stop (.inr false)))else(some (.next (Dt .i64 (a+1)))))else(some (.stop (.inl s1)))
def fS(a0:ac):Int->Option (pa (Int) ((Unit)⊕(Bool))):=fun s1=>
  if(decide (s1<(a0.bg.length:Int)))=true then((pb a0.bg s1).bind fun g=>if(decide ((g.bA.length:Int)>10))=true then(some (.stop (.inr false)))else((pb a0.bg s1).bind fun j=>(dE (fQ j a0 s1) 0).bind fun a=>match a with| .inl f=>(some (.next (Dt .i64 (f+1))))| .inr c=>(some (.stop (.inr c)))))else(some (.stop (.inl ())))
def fE(a0:ac):Option (Bool):=
  (dE (fS a0) 0).bind fun a=>match a with| .inl _=>(some (decide ((a0.bg.length:Int)<=10)))| .inr c=>(some c)
def oQ(a0:(List Int)):Option (ag):=
  (ue a0 0 (if 2000<(a0.length:Int)then 2000 else(a0.length:Int))).bind fun a=>some (ag.mk a 0)
def oH(d0:ag):Option (Int×ag):=
  if(decide (d0.fAt>=(d0.fL.length:Int)))=true then(some (0,d0))else((pb d0.fL (Dt .i64 ((Dt .i64 (d0.fAt+1))-1))).bind fun a=>some (a,(ag.mk d0.fL (Dt .i64 (d0.fAt+1)))))
def mN(a0:Int)(a1:Int):Option (Int):=
  if(decide (a1<1))=true then(some 0)else((tX a0 a1).bind fun a=>if(decide (a<0))=true then(some (Dt .i64 (a+a1)))else(some a))
def cY(a1:Int)(d0:ag):Option (Int×ag):=
  (oH d0).bind fun a=>(mN a.1 a1).bind fun c=>some (c,a.2)
def lL(a1:Int)(d0:ag):Option (aa×ag):=
  (cY (Dt .i64 ((Dt .i64 (2*a1))+1)) d0).bind fun a=>(cY (Dt .i64 ((Dt .i64 (2*a1))+1)) a.2).bind fun c=>(cY (Dt .i64 (a1+1)) c.2).bind fun f=>some ((aa.mk (Dt .i64 (a.1-a1)) (Dt .i64 (c.1-a1)) f.1),f.2)
def Src_Box(a1:Int)(a2:Int)(d0:ag):Option (ah×ag):=
  (lL a1 d0).bind fun a=>(cY (Dt .i64 (a2+1)) a.2).bind fun c=>(cY (Dt .i64 (a2+1)) c.2).bind fun f=>(cY (Dt .i64 (a2+1)) f.2).bind fun g=>some ((ah.mk a.1 (aa.mk (Dt .i64 (a.1.fX+c.1)) (Dt .i64 (a.1.fY+f.1)) (Dt .i64 (a.1.fZ+g.1)))),g.2)
def dw(a1:(List Int))(d0:ag):Option (Int×ag):=
  (cY (a1.length:Int) d0).bind fun a=>(pb a1 a.1).bind fun c=>some (c,a.2)
def mC(u:Int×ag):(Int×Int×Int×(List Int)×Int×(List Int)×(List Int))->Option (pa (Int×Int×Int×(List Int)×Int×(List Int)×(List Int)) ((List Int)×Int×(List Int)×(List Int))):=fun(s3,j,q,x,y,r,t)=>
  (qa .i64 400 u.1).bind fun k=>(cY 3 (ag.mk x y)).bind fun a=>if(decide (q<=(Dt .i64 (k+a.1))))=true then((pG r [s3] 8).bind fun l=>(pG t [j] 8).bind fun p=>(dw [0,10,20,35] a.2).bind fun c=>(qa .i64 u.1 4).bind fun f=>(dw [0,0,5,30] c.2).bind fun g=>some (.next ((Dt .i64 (s3+(Dt .i64 (c.1+f)))),(Dt .i64 ((if(Dt .i64 (s3+(Dt .i64 (c.1+f))))>j then(Dt .i64 (s3+(Dt .i64 (c.1+f))))else j)+g.1)),(Dt .i64 (q+1)),g.2.fL,g.2.fAt,l,p)))else(some (.stop (a.2.fL,a.2.fAt,r,t)))
def mJ(d0:ag):Option (aw×ag):=
  (dw [20,25,40,100] d0).bind fun c=>(cY 3 c.2).bind fun f=>(dE (mC c) (0,f.1,0,f.2.fL,f.2.fAt,([]:(List Int)),([]:(List Int)))).bind fun a=>some ((aw.mk c.1 a.2.2.1 a.2.2.2),(ag.mk a.1 a.2.1))
def jq(a1:Int)(d0:ag):Option (bt×ag):=
  (Src_Box 20 a1 d0).bind fun a=>(mJ a.2).bind fun c=>(dw [10,50,200] c.2).bind fun f=>(dw [0,0,10,40] f.2).bind fun g=>(dw [0,50,200,400] g.2).bind fun j=>(dw [0,5,20] j.2).bind fun k=>(cY 2 k.2).bind fun l=>some ((bt.mk a.1 c.1 f.1 g.1 j.1 k.1 (Dt .i64 (2+l.1))),l.2)
def mB(r:aw×ag):(Int×(List Int)×(List Int))->Option (pa (Int×(List Int)×(List Int)) ((List Int)×(List Int))):=fun(a,c,f)=>
  if(decide (a<(r.1.bh.length:Int)))=true then((inO c a).bind fun _=>(pb c a).bind fun g=>(qa .i64 g 3).bind fun j=>(inO f a).bind fun _=>(pb f a).bind fun k=>(qa .i64 k 3).bind fun l=>(inO c a).bind fun _=>(tH c a j).bind fun p=>(inO f a).bind fun _=>(tH f a l).bind fun q=>some (.next ((Dt .i64 (a+1)),p,q)))else(some (.stop (c,f)))
def nU(d0:ag):Option (bC×ag):=
  (mJ d0).bind fun c=>(cY 20 c.2).bind fun f=>(cY 9 f.2).bind fun g=>(dE (mB c) (0,c.1.bh,c.1.av)).bind fun a=>some ((bC.mk (aw.mk c.1.bS a.1 a.2) f.1 (Dt .i64 (1+g.1))),g.2)
def lB(a1:Int)(d0:ag):Option (aj×ag):=
  (jq a1 d0).bind fun a=>(nU a.2).bind fun c=>(dw [0,0,10,40] c.2).bind fun f=>some ((aj.mk a.1 c.1 f.1),f.2)
def iL:(Int×(List Int)×Int×(List bq))->Option (pa (Int×(List Int)×Int×(List bq)) ((List Int)×Int×(List bq))):=fun(s2,s3,B,u)=>
  if(decide (s2>0))=true then((cY 3 (ag.mk s3 B)).bind fun a=>if(a.1==0)=true then((dw [0,1,9,99,1048575] a.2).bind fun j=>(dw [0,0,2,9,999] j.2).bind fun c=>(pG u [(bq.mk a.1 (bB.mk (Dt .i64 (1+j.1)) 0 0) (bB.mk (Dt .i64 (1+c.1)) 0 0) [] 0 0)] 96).bind fun x=>some (.next ((Dt .i64 (s2-1)),c.2.fL,c.2.fAt,x)))else(if(a.1==1)=true then((cY 5 a.2).bind fun k=>(cY 7 k.2).bind fun l=>(cY 3 l.2).bind fun p=>(cY 5 p.2).bind fun q=>(cY 7 q.2).bind fun r=>(cY 3 r.2).bind fun f=>(pG u [(bq.mk a.1 (bB.mk k.1 (Dt .i64 (l.1-3)) (Dt .i64 (p.1-1))) (bB.mk (Dt .i64 (1+q.1)) r.1 f.1) [] 0 0)] 96).bind fun y=>some (.next ((Dt .i64 (s2-1)),f.2.fL,f.2.fAt,y)))else((cY 3 a.2).bind fun t=>(cY 4 t.2).bind fun g=>(pG u [(bq.mk a.1 (bB.mk 0 0 0) (bB.mk 0 0 0) [(Dt .i64 (1+t.1)),2,1] 1 g.1)] 96).bind fun z=>some (.next ((Dt .i64 (s2-1)),g.2.fL,g.2.fAt,z)))))else(some (.stop (s3,B,u)))
def gr(d0:ag):Option (bp×ag):=
  (cY 4 d0).bind fun c=>(dE (iL) (c.1,c.2.fL,c.2.fAt,([]:(List bq)))).bind fun a=>some ((bp.mk a.2.2),(ag.mk a.1 a.2.1))
def io(a0:Int):Option (bj):=
  (mN a0 6).bind fun a=>(pb [[83,49],[83,50],[83,51],[83,52],[83,53],[83,54]] a).bind fun c=>some (bj.mk [65,66] c [48,48] [66,72,90])
def kX(a1:Int):(Int×(List Int)×Int×(List aq))->Option (pa (Int×(List Int)×Int×(List aq)) ((List Int)×Int×(List aq))):=fun(s1,s2,s3,q)=>
  if(decide (s1<a1))=true then(if(decide (s1<6))=true then((lL 60 (ag.mk s2 s3)).bind fun a=>(gr a.2).bind fun c=>(io s1).bind fun j=>(cY 6 c.2).bind fun f=>if(f.1==0)=true then((cY 500 f.2).bind fun k=>(lL 60 k.2).bind fun r=>(gr r.2).bind fun l=>(inO [(ba.mk 0 100000 (bW.mk 100 1) a.1 c.1)] 0).bind fun _=>(uX [(ba.mk 0 100000 (bW.mk 100 1) a.1 c.1)] 0 (fun(z22:ba)=>(ba.mk z22.b8 (Dt .i64 (1500+k.1)) z22.lj z22.bM z22.bQ))).bind fun t=>(pG t [(ba.mk (Dt .i64 (1500+k.1)) 100000 (bW.mk 100 1) r.1 l.1)] 80).bind fun u=>(pG q [(aq.mk j u)] 88).bind fun x=>some (.next ((Dt .i64 (s1+1)),l.2.fL,l.2.fAt,x)))else(if(f.1==1)=true then((cY 1500 f.2).bind fun p=>(inO [(ba.mk 0 100000 (bW.mk 100 1) a.1 c.1)] 0).bind fun _=>(uX [(ba.mk 0 100000 (bW.mk 100 1) a.1 c.1)] 0 (fun(g:ba)=>(ba.mk p.1 g.fTo g.lj g.bM g.bQ))).bind fun y=>(pG q [(aq.mk j y)] 88).bind fun z=>some (.next ((Dt .i64 (s1+1)),p.2.fL,p.2.fAt,z)))else((pG q [(aq.mk j [(ba.mk 0 100000 (bW.mk 100 1) a.1 c.1)])] 88).bind fun B=>some (.next ((Dt .i64 (s1+1)),f.2.fL,f.2.fAt,B)))))else(some (.stop (s2,s3,q))))else(some (.stop (s2,s3,q)))
def lO(a1:Int)(d0:ag):Option (ac×ag):=
  (dE (kX a1) (0,d0.fL,d0.fAt,([]:(List aq)))).bind fun a=>some ((ac.mk a.2.2),(ag.mk a.1 a.2.1))
def lN(a1:Int)(a2:Int)(d0:ag):Option (Int×ag):=
  (cY (Dt .i64 ((Dt .i64 (a2-a1))+1)) d0).bind fun a=>some ((Dt .i64 (a1+a.1)),a.2)
def mI(a1:ah)(d0:ag):Option (aa×ag):=
  (lN a1.bh.fX a1.av.fX d0).bind fun a=>(lN a1.bh.fY a1.av.fY a.2).bind fun c=>(lN a1.bh.fZ a1.av.fZ c.2).bind fun f=>some ((aa.mk a.1 c.1 f.1),f.2)
def lX(a:aq)(a1:bj)(a2:Int)(s1:Int):Int->Option (pa (Int) ((Int)⊕(aa×Bool))):=fun c=>
  if(decide (c<(a.bA.length:Int)))=true then((pb a.bA c).bind fun f=>if((a.bc.bH==a1.bH)&&((a.bc.bv==a1.bv)&&((a.bc.bd==a1.bd)&&((a.bc.bL==a1.bL)&&true))))=true then(if(decide (f.b8<=a2))=true then(if(decide (a2<f.fTo))=true then(some (.stop (.inr (f.bM,true))))else(some (.next (Dt .i64 (c+1)))))else(some (.next (Dt .i64 (c+1)))))else(some (.next (Dt .i64 (c+1)))))else(some (.stop (.inl s1)))
def lY(a0:ac)(a1:bj)(a2:Int):Int->Option (pa (Int) ((Unit)⊕(aa×Bool))):=fun s1=>
  if(decide (s1<(a0.bg.length:Int)))=true then((pb a0.bg s1).bind fun g=>(dE (lX g a1 a2 s1) 0).bind fun a=>match a with| .inl f=>(some (.next (Dt .i64 (f+1))))| .inr c=>(some (.stop (.inr c))))else(some (.stop (.inl ())))
def m0(a0:ac)(a1:bj)(a2:Int):Option (aa×Bool):=
  (dE (lY a0 a1 a2) 0).bind fun a=>match a with| .inl _=>(some ((aa.mk 0 0 0),false))| .inr c=>(some c)
def n0(a0:Int):Option (Int):=
  some (Dt .i64 (a0*a0))
def gO(u:bj)(x:Int×ag)(y:Int×ag)(g:Int)(j:Int)(k:(List Int))(l:Int)(p:(List ak))(q:Int)(r:Int)(t:Int)(a:Int):Option (pa (Int×Int×(List Int)×Int×(List ak)×Int×Int×Int) ((List ak)×(List Int)×Int)):=
  (cY 5 (ag.mk k l)).bind fun c=>(cY 5 c.2).bind fun f=>(pG p [(ak.mk u (Dt .i64 (a+c.1)) a (Dt .i64 ((Dt .i64 (a+c.1))+f.1)) x.1 (Dt .i64 (y.1-1)))] 104).bind fun z=>some (.next (g,(Dt .i64 (j-1)),f.2.fL,f.2.fAt,z,q,r,t))
def kV(c:aa×Bool)(p:Int)(f:Int)(g:Int)(q:Int)(r:Int)(t:(List ak)):Int->Option (pa (Int) (Int×Int×Int×(List ak)×Int×Int×Int)):=fun a=>
  (n0 (Dt .i64 (c.1.fX-p))).bind fun j=>(n0 (Dt .i64 (c.1.fY-f))).bind fun k=>(n0 (Dt .i64 (c.1.fZ-g))).bind fun l=>if(decide ((Dt .i64 (a*a))<(Dt .i64 ((Dt .i64 (j+k))+l))))=true then(some (.next (Dt .i64 (a+1))))else(some (.stop (q,r,a,t,p,f,g)))
def mA(a1:aj)(a2:ac):(Int×Int×(List Int)×Int×(List ak)×Int×Int×Int)->Option (pa (Int×Int×(List Int)×Int×(List ak)×Int×Int×Int) ((List ak)×(List Int)×Int)):=fun(u,x,F,G,y,D,p,q)=>
  if(decide (x>0))=true then((cY 6 (ag.mk F G)).bind fun z=>(io z.1).bind fun f=>(dw [0,1,50,1000,1048576] z.2).bind fun g=>(cY 3 g.2).bind fun j=>(cY 2000 j.2).bind fun k=>(cY 6 k.2).bind fun c=>if(c.1==0)=true then((mI a1.ae.bk c.2).bind fun l=>(cY 900 l.2).bind fun r=>gO f g j (Dt .i64 (u+r.1)) x r.2.fL r.2.fAt y l.1.fX l.1.fY l.1.fZ (Dt .i64 (1000+k.1)))else(if(c.1==1)=true then(gO f g j u x c.2.fL c.2.fAt y D p q (Dt .i64 (1000+k.1)))else((m0 a2 f u).bind fun B=>if B.2=true then((dE (kV B D p q u x y) 0).bind fun a=>(qa .i64 a.2.2.1 a1.ae.bJ.bS).bind fun C=>(pb a1.ae.bJ.bh (if(Dt .i64 ((a1.ae.bJ.bh.length:Int)-1))<C then(Dt .i64 ((a1.ae.bJ.bh.length:Int)-1))else C)).bind fun E=>(cY 6 c.2).bind fun t=>gO f g j a.1 a.2.1 t.2.fL t.2.fAt a.2.2.2.1 a.2.2.2.2.1 a.2.2.2.2.2.1 a.2.2.2.2.2.2 (Dt .i64 ((Dt .i64 (a.1+E))+t.1)))else(gO f g j u x c.2.fL c.2.fAt y D p q (Dt .i64 (1000+k.1))))))else(some (.stop (y,F,G)))
def mH(a1:aj)(a2:ac)(a3:Int)(d0:ag):Option ((List ak)×ag):=
  (mI a1.ae.bk d0).bind fun c=>(cY 500 c.2).bind fun g=>(cY (Dt .i64 (a3+1)) g.2).bind fun f=>(dE (mA a1 a2) ((Dt .i64 (1000+g.1)),f.1,f.2.fL,f.2.fAt,([]:(List ak)),c.1.fX,c.1.fY,c.1.fZ)).bind fun a=>some (a.1,(ag.mk a.2.1 a.2.2))
def oG(a1:ah)(d0:ag):Option (ah×ag):=
  (dw [-1048577, -1048576,0, -16385, -16384,1048576,1048577] d0).bind fun c=>(cY 6 c.2).bind fun a=>if(a.1==0)=true then(some ((ah.mk (aa.mk c.1 a1.bh.fY a1.bh.fZ) a1.av),a.2))else(if(a.1==1)=true then(some ((ah.mk (aa.mk a1.bh.fX c.1 a1.bh.fZ) a1.av),a.2))else(if(a.1==2)=true then(some ((ah.mk (aa.mk a1.bh.fX a1.bh.fY c.1) a1.av),a.2))else(if(a.1==3)=true then(some ((ah.mk a1.bh (aa.mk c.1 a1.av.fY a1.av.fZ)),a.2))else(if(a.1==4)=true then(some ((ah.mk a1.bh (aa.mk a1.av.fX c.1 a1.av.fZ)),a.2))else(some ((ah.mk a1.bh (aa.mk a1.av.fX a1.av.fY c.1)),a.2))))))
def jf(a1:aw)(d0:ag):Option (aw×ag):=
  (pG ([]:List Int) a1.bh 8).bind fun a=>(pG ([]:List Int) a1.av 8).bind fun c=>if((a.length:Int)==0)=true then(some ((aw.mk a1.bS a c),d0))else(if((c.length:Int)==0)=true then(some ((aw.mk a1.bS a c),d0))else((cY 6 d0).bind fun f=>if(f.1==0)=true then((dw [-1,0,1,1048576,1048577] f.2).bind fun y=>some ((aw.mk y.1 a c),y.2))else(if(f.1==1)=true then((cY (a.length:Int) f.2).bind fun x=>(dw [-1,0,1099511627776,1099511627777] x.2).bind fun j=>(inO a x.1).bind fun _=>(tH a x.1 j.1).bind fun l=>some ((aw.mk a1.bS l c),j.2))else(if(f.1==2)=true then((cY (c.length:Int) f.2).bind fun g=>(dw [-1,0,1099511627776,1099511627777] g.2).bind fun k=>(inO c g.1).bind fun _=>(tH c g.1 k.1).bind fun p=>some ((aw.mk a1.bS a p),k.2))else(if(f.1==3)=true then((ue a 0 (Dt .i64 ((a.length:Int)-1))).bind fun q=>some ((aw.mk a1.bS q c),f.2))else(if(f.1==4)=true then((ue c 1 (c.length:Int)).bind fun r=>some ((aw.mk a1.bS a r),f.2))else((ue a 0 1).bind fun t=>(ue c 0 1).bind fun u=>some ((aw.mk a1.bS t u),f.2))))))))
def iJ(a1:aj)(d0:ag):Option (aj×ag):=
  (cY 6 d0).bind fun a=>if(a.1==0)=true then((oG a1.ae.bk a.2).bind fun g=>some ((aj.mk (bt.mk g.1 a1.ae.bJ a1.ae.dL a1.ae.bz a1.ae.ey a1.ae.dq a1.ae.dp) a1.bN a1.bz),g.2))else(if(a.1==1)=true then((jf a1.ae.bJ a.2).bind fun j=>some ((aj.mk (bt.mk a1.ae.bk j.1 a1.ae.dL a1.ae.bz a1.ae.ey a1.ae.dq a1.ae.dp) a1.bN a1.bz),j.2))else(if(a.1==2)=true then((dw [-1,0,1099511627776,1099511627777] a.2).bind fun k=>some ((aj.mk (bt.mk a1.ae.bk a1.ae.bJ k.1 a1.ae.bz a1.ae.ey a1.ae.dq a1.ae.dp) a1.bN a1.bz),k.2))else(if(a.1==3)=true then((dw [-1,0,1099511627776,1099511627777] a.2).bind fun l=>some ((aj.mk a1.ae a1.bN l.1),l.2))else(if(a.1==4)=true then((jf a1.bN.bF a.2).bind fun c=>some ((aj.mk a1.ae (bC.mk c.1 a1.bN.bI a1.bN.bG) a1.bz),c.2))else((dw [-1,0,1,65536,65537] a.2).bind fun f=>some ((aj.mk a1.ae (bC.mk a1.bN.bF a1.bN.bI f.1) a1.bz),f.2))))))
def ik(a1:ac):(Int×(List aq))->Option (pa (Int×(List aq)) ((List aq))):=fun(s1,s2)=>
  if(decide (s1<(a1.bg.length:Int)))=true then((pb a1.bg s1).bind fun a=>(pG ([]:List ba) a.bA 80).bind fun c=>(pG s2 [(aq.mk a.bc c)] 88).bind fun f=>some (.next ((Dt .i64 (s1+1)),f)))else(some (.stop s2))
def Src_BentP(a1:ac)(d0:ag):Option (ac×ag):=
  (dE (ik a1) (0,([]:(List aq)))).bind fun a=>if((a.length:Int)==0)=true then(some ((ac.mk a),d0))else((cY (a.length:Int) d0).bind fun c=>(inO a c.1).bind fun _=>(cY 5 c.2).bind fun f=>if(f.1==0)=true then((uX a c.1 (fun(g:aq)=>(aq.mk (bj.mk g.bc.bH [115] g.bc.bd g.bc.bL) g.bA))).bind fun j=>some ((ac.mk j),f.2))else(if(f.1==1)=true then((pb a c.1).bind fun k=>(pb a c.1).bind fun l=>(pb l.bA 0).bind fun _=>(pb k.bA 0).bind fun _=>none)else(if(f.1==2)=true then((pb a c.1).bind fun p=>(pb p.bA 0).bind fun _=>none)else(if(f.1==3)=true then((inO a 0).bind fun _=>(pb a 0).bind fun q=>(pG a [q] 88).bind fun r=>some ((ac.mk r),f.2))else((uX a c.1 (fun(z33:aq)=>(aq.mk z33.bc []))).bind fun t=>some ((ac.mk t),f.2))))))
def bentE(j:Int)(e:ba):ba:=if j=1 then⟨e.fTo,e.fTo,e.lj,e.bM,e.bQ⟩else⟨e.b8,e.fTo,e.lj,⟨1048577,e.bM.fY,e.bM.fZ⟩,e.bQ⟩
def bentW(a1:ac)(d0:ag):Option (ac×ag):=
  if a1.bg.length<=1000∧∀c∈a1.bg,c.bA.length<=1000 then
    (cY (a1.bg.length:Int) d0).bind fun x=>(cY 5 x.2).bind fun y=>match a1.bg[x.1.toNat]? with
      | some c => (match c.bA with
        |e::r=>if 0<=x.1∧(y.1=1∨y.1=2)then some (⟨a1.bg.set x.1.toNat ⟨c.bc,bentE y.1 e::r⟩⟩,y.2)else none
        | []=>none)
      |none=>none
  else none
def cZ(a1:ac)(d0:ag):Option (ac×ag):=match Src_BentP a1 d0 with|some r=>some r|none=>bentW a1 d0
def bU(a0:aa):Option (bB):=
  some (bB.mk a0.fX a0.fY a0.fZ)
def dy(a0:aa):Option (Bool):=
  (bU a0).bind fun a=>if(decide (a.a0<(-1048576)))=true then(some false)else(if(decide (a.a0>1048576))=true then(some false)else(if(decide (a.a1<(-1048576)))=true then(some false)else(if(decide (a.a1>1048576))=true then(some false)else(if(decide (a.a2<(-16384)))=true then(some false)else(if(decide (a.a2>1048576))=true then(some false)else(some true))))))
def b9(a0:ah):Option (Bool):=
  (dy a0.bh).bind fun f=>if(!f)=true then(some false)else((dy a0.av).bind fun g=>if(!g)=true then(some false)else((bU a0.av).bind fun a=>(bU a0.bh).bind fun c=>if(decide (c.a0>a.a0))=true then(some false)else(if(decide (c.a1>a.a1))=true then(some false)else(if(decide (c.a2>a.a2))=true then(some false)else(some true)))))
def je(a0:aw):(Int×Int×Int)->Option (pa (Int×Int×Int) ((Unit)⊕(Int))):=fun(q,r,a)=>
  if(decide (a<(a0.bh.length:Int)))=true then((pb a0.bh a).bind fun c=>if(decide (c<q))=true then(some (.stop (.inr 21)))else((pb a0.av a).bind fun f=>if(decide (f<r))=true then(some (.stop (.inr 21)))else((pb a0.bh a).bind fun g=>(pb a0.av a).bind fun j=>if(decide (g>j))=true then(some (.stop (.inr 21)))else((pb a0.av a).bind fun k=>if(decide (k>1099511627776))=true then(some (.stop (.inr 21)))else((pb a0.bh a).bind fun l=>(pb a0.av a).bind fun p=>some (.next (l,p,(Dt .i64 (a+1)))))))))else(some (.stop (.inl ())))
def cV(a0:aw):Option (Int):=
  if(decide (a0.bS<1))=true then(some 21)else(if(decide (a0.bS>1048576))=true then(some 21)else(if((a0.bh.length:Int) != (a0.av.length:Int))=true then(some 21)else(if(decide ((a0.bh.length:Int)<2))=true then(some 21)else(if(decide ((a0.bh.length:Int)>256))=true then(some 21)else((dE (je a0) (0,0,0)).bind fun a=>match a with| .inl _=>(some 0)| .inr c=>(some c))))))
def gu(a0:Int)(a1:Int)(a2:Int):Option (Bool):=
  if(decide (a0>=a1))=true then(some (decide (a0<=a2)))else(some false)
def fJ(a0:br):Option (Bool):=
  (dy a0.bv).bind fun a=>if a=true then(if(decide (a0.bV>=0))=true then(if(decide (a0.bV<=a0.ch))=true then(if(decide (a0.ch<=18014398509481984))=true then(if(decide (a0.d7>=1))=true then(some (decide (a0.d7<=100)))else(some false))else(some false))else(some false))else(some false))else(some false)
def eO(a0:Int)(a1:Int)(a2:Int):Option (Int):=
  some (if 0>(if(Dt .i64 (a0-a2))>(Dt .i64 (a1-a0))then(Dt .i64 (a0-a2))else(Dt .i64 (a1-a0)))then 0 else(if(Dt .i64 (a0-a2))>(Dt .i64 (a1-a0))then(Dt .i64 (a0-a2))else(Dt .i64 (a1-a0))))
def eD(a0:ah)(a1:aa):Option (Int):=
  (b9 a0).bind fun l=>if(!l)=true then(some 0)else((dy a1).bind fun p=>if(!p)=true then(some 0)else((bU a0.bh).bind fun c=>(bU a0.av).bind fun f=>(bU a1).bind fun g=>(eO g.a0 c.a0 f.a0).bind fun j=>(eO g.a1 c.a1 f.a1).bind fun k=>(eO g.a2 c.a2 f.a2).bind fun a=>some (Dt .i64 ((Dt .i64 ((Dt .i64 (0+(Dt .i64 (j*j))))+(Dt .i64 (k*k))))+(Dt .i64 (a*a))))))
def eI(a0:ah)(a1:aa):Option (Int):=
  (eD a0 a1).bind fun a=>some a
def eo(a0:Int)(a1:Int)(a2:Int):Option (Int):=
  some (if(Dt .i64 (a0-a1))>(Dt .i64 (a2-a0))then(Dt .i64 (a0-a1))else(Dt .i64 (a2-a0)))
def er(a0:ah)(a1:aa):Option (Int):=
  (b9 a0).bind fun l=>if(!l)=true then(some 0)else((dy a1).bind fun p=>if(!p)=true then(some 0)else((bU a0.bh).bind fun c=>(bU a0.av).bind fun f=>(bU a1).bind fun g=>(eo g.a0 c.a0 f.a0).bind fun j=>(eo g.a1 c.a1 f.a1).bind fun k=>(eo g.a2 c.a2 f.a2).bind fun a=>some (Dt .i64 ((Dt .i64 ((Dt .i64 (0+(Dt .i64 (j*j))))+(Dt .i64 (k*k))))+(Dt .i64 (a*a))))))
def gw(a0:ah)(a1:aa):Option (Int):=
  (er a0 a1).bind fun a=>some a
def kY(a0:aw)(a1:ah)(a2:aa):Option (aw×Int×Int):=
  (eI a1 a2).bind fun a=>(gw a1 a2).bind fun c=>some (a0,a,c)
def dx(a:Int)(c:Int):Option (Int):=
  if(decide (a>=256))=true then((rT [0,1,2,2,3,3,3,3,4,4,4,4,4,4,4,4,5,5,5,5,5,5,5,5,5,5,5,5,5,5,5,5,6,6,6,6,6,6,6,6,6,6,6,6,6,6,6,6,6,6,6,6,6,6,6,6,6,6,6,6,6,6,6,6,7,7,7,7,7,7,7,7,7,7,7,7,7,7,7,7,7,7,7,7,7,7,7,7,7,7,7,7,7,7,7,7,7,7,7,7,7,7,7,7,7,7,7,7,7,7,7,7,7,7,7,7,7,7,7,7,7,7,7,7,7,7,7,7,8,8,8,8,8,8,8,8,8,8,8,8,8,8,8,8,8,8,8,8,8,8,8,8,8,8,8,8,8,8,8,8,8,8,8,8,8,8,8,8,8,8,8,8,8,8,8,8,8,8,8,8,8,8,8,8,8,8,8,8,8,8,8,8,8,8,8,8,8,8,8,8,8,8,8,8,8,8,8,8,8,8,8,8,8,8,8,8,8,8,8,8,8,8,8,8,8,8,8,8,8,8,8,8,8,8,8,8,8,8,8,8,8,8,8,8,8,8,8,8,8,8,8,8,8,8,8,8] (Dt .u8 (pJ .u64 a 8))).bind fun f=>some (Dt .i64 ((Dt .i64 (c+8))+(Dt .i64 f))))else((rT [0,1,2,2,3,3,3,3,4,4,4,4,4,4,4,4,5,5,5,5,5,5,5,5,5,5,5,5,5,5,5,5,6,6,6,6,6,6,6,6,6,6,6,6,6,6,6,6,6,6,6,6,6,6,6,6,6,6,6,6,6,6,6,6,7,7,7,7,7,7,7,7,7,7,7,7,7,7,7,7,7,7,7,7,7,7,7,7,7,7,7,7,7,7,7,7,7,7,7,7,7,7,7,7,7,7,7,7,7,7,7,7,7,7,7,7,7,7,7,7,7,7,7,7,7,7,7,7,8,8,8,8,8,8,8,8,8,8,8,8,8,8,8,8,8,8,8,8,8,8,8,8,8,8,8,8,8,8,8,8,8,8,8,8,8,8,8,8,8,8,8,8,8,8,8,8,8,8,8,8,8,8,8,8,8,8,8,8,8,8,8,8,8,8,8,8,8,8,8,8,8,8,8,8,8,8,8,8,8,8,8,8,8,8,8,8,8,8,8,8,8,8,8,8,8,8,8,8,8,8,8,8,8,8,8,8,8,8,8,8,8,8,8,8,8,8,8,8,8,8,8,8,8,8,8,8] (Dt .u8 a)).bind fun g=>some (Dt .i64 (c+(Dt .i64 g))))
def jV(a:Int)(c:Int):Option (Int):=
  if(decide (a>=65536))=true then(dx (pJ .u64 a 16) (Dt .i64 (c+16)))else(dx a c)
def ov(a0:Int):Option (Int):=
  if(decide (a0>=4294967296))=true then(jV (pJ .u64 a0 32) 32)else(jV a0 0)
def mK(a0:Int):Option (Int):=
  (ov a0).bind fun a=>some a
def gx(a0:Int):(Int×Int)->Option (pa (Int×Int) (Int)):=fun(c,a)=>
  if(decide (a>0))=true then((qa .i64 a0 (orI .i64 c a)).bind fun f=>if(decide ((orI .i64 c a)<=f))=true then(some (.next ((orI .i64 c a),(pJ .i64 a 1))))else(some (.next (c,(pJ .i64 a 1)))))else(some (.stop c))
def fO(a0:Int):Option (Int):=
  if(decide (a0<=0))=true then(some 0)else((mK (Dt .u64 a0)).bind fun c=>(qa .i64 (Dt .i64 (c-1)) 2).bind fun f=>(vB .i64 1 f).bind fun g=>(dE (gx a0) (0,g)).bind fun a=>some a)
def eH(a0:Int):Option (Int):=
  (fO a0).bind fun a=>if(decide ((Dt .i64 (a*a))<a0))=true then(some (Dt .i64 (a+1)))else(some a)
def lK(a0:aw):Option (Int):=
  some (Dt .i64 (a0.bS*(Dt .i64 ((a0.bh.length:Int)-1))))
def jd(a0:Int)(d0:aw)(d1:Int):Option (Bool):=
  some (decide ((Dt .i64 (a0*d0.bS))>=d1))
def jc(d0:aw)(d1:Int):(Int×Int)->Option (pa (Int×Int) (Int)):=fun(s1,s2)=>
  if(decide (s1<s2))=true then((jd (Dt .i64 (pJ .u64 (Dt .u64 (Dt .i64 (s1+s2))) 1)) d0 d1).bind fun a=>if(!a)=true then(some (.next ((Dt .i64 ((Dt .i64 (pJ .u64 (Dt .u64 (Dt .i64 (s1+s2))) 1))+1)),s2)))else(some (.next (s1,(Dt .i64 (pJ .u64 (Dt .u64 (Dt .i64 (s1+s2))) 1))))))else(some (.stop s1))
def iY(a0:Int)(d0:aw)(d1:Int):Option (Int):=
  (dE (jc d0 d1) (0,a0)).bind fun a=>some a
def ek(a0:aw)(a1:Int)(a2:Int):Option (Int×Int×Int):=
  (cV a0).bind fun j=>if(j != 0)=true then(some (0,0,21))else(if(decide (a1<0))=true then(some (0,0,2))else(if(decide (a1>a2))=true then(some (0,0,2))else((eH a2).bind fun g=>(lK a0).bind fun k=>if(decide (g>k))=true then(some (0,0,22))else((iY (a0.av.length:Int) a0 g).bind fun l=>(fO a1).bind fun p=>(qa .i64 p a0.bS).bind fun a=>(pb a0.bh a).bind fun c=>(pb a0.av l).bind fun f=>some (c,f,0)))))
def dK(a0:aw)(a1:ah)(a2:aa):Option (Int×Int×Int):=
  (cV a0).bind fun f=>if(f != 0)=true then(some (0,0,f))else((b9 a1).bind fun g=>if(!g)=true then(some (0,0,20))else((dy a2).bind fun j=>if(!j)=true then(some (0,0,20))else((kY a0 a1 a2).bind fun a=>(ek a.1 a.2.1 a.2.2).bind fun c=>some (c.1,c.2.1,c.2.2))))
def im(a0:aw)(a1:ah)(a2:br):Option (bw×Int):=
  (cV a0).bind fun c=>if(c != 0)=true then(some ((bw.mk 0 0),c))else((b9 a1).bind fun f=>if(!f)=true then(some ((bw.mk 0 0),20))else((fJ a2).bind fun g=>if(!g)=true then(some ((bw.mk 0 0),23))else((dK a0 a1 a2.bv).bind fun a=>if(a.2.2 != 0)=true then(some ((bw.mk 0 0),a.2.2))else(some ((bw.mk (Dt .i64 (a2.bV-a.2.1)) (Dt .i64 (a2.ch-a.1))),0)))))
def eA(a1:(List br))(a0:bt):Int->Option (pa (Int) ((Unit)⊕(Int))):=fun a=>
  if(decide (a<(a1.length:Int)))=true then((pb a1 a).bind fun f=>(im a0.bJ a0.bk f).bind fun c=>if(c.2 != 0)=true then(some (.stop (.inr c.2)))else(some (.next (Dt .i64 (a+1)))))else(some (.stop (.inl ())))
def gt(a0:bt)(a1:(List br)):Option (Int):=
  (b9 a0.bk).bind fun j=>if(!j)=true then(some 27)else((cV a0.bJ).bind fun k=>if(k != 0)=true then(some 27)else((gu a0.dL 1 1099511627776).bind fun l=>if(!l)=true then(some 27)else((gu a0.bz 0 1099511627776).bind fun p=>if(!p)=true then(some 27)else((gu a0.dq 0 1099511627776).bind fun q=>if(!q)=true then(some 27)else((gu a0.ey 0 1099511627776).bind fun f=>if(!f)=true then(some 27)else((gu a0.dp 2 16).bind fun g=>if(!g)=true then(some 27)else(if(decide ((a1.length:Int)>256))=true then(some 8)else((dE (eA a1 a0) 0).bind fun a=>match a with| .inl _=>(some 0)| .inr c=>(some c)))))))))
def cP(a0:bC):Option (Bool):=
  (cV a0.bF).bind fun a=>if(a==0)=true then(if(decide (a0.bI>=0))=true then(if(decide (a0.bI<=65536))=true then(if(decide (a0.bG>=1))=true then(some (decide (a0.bG<=65536)))else(some false))else(some false))else(some false))else(some false)
def db(a0:aj):Option (Int):=
  (gt a0.ae []).bind fun a=>if(a != 0)=true then(some 27)else((cP a0.bN).bind fun c=>if(!c)=true then(some 27)else(if(decide (a0.bz<0))=true then(some 27)else(if(decide (a0.bz>1099511627776))=true then(some 27)else(some 0))))
def fu(a0:aa):Option (Bool):=
  if(decide (a0.fX>=(-1048576)))=true then(if(decide (a0.fX<=1048576))=true then(if(decide (a0.fY>=(-1048576)))=true then(if(decide (a0.fY<=1048576))=true then(if(decide (a0.fZ>=(-16384)))=true then(some (decide (a0.fZ<=1048576)))else(some false))else(some false))else(some false))else(some false))else(some false)
def cm(a0:ah):Option (Bool):=
  (fu a0.bh).bind fun a=>if a=true then((fu a0.av).bind fun c=>if c=true then(if(decide (a0.bh.fX<=a0.av.fX))=true then(if(decide (a0.bh.fY<=a0.av.fY))=true then(some (decide (a0.bh.fZ<=a0.av.fZ)))else(some false))else(some false))else(some false))else(some false)
def jL(a0:aw):Int->Option (pa (Int) ((Unit)⊕(Int))):=fun a=>
  if(decide (a<(a0.bh.length:Int)))=true then((pb a0.bh a).bind fun q=>if(decide (q<0))=true then(some (.stop (.inr 21)))else((pb a0.av a).bind fun c=>if(decide (c>1099511627776))=true then(some (.stop (.inr 21)))else((pb a0.bh a).bind fun f=>(pb a0.av a).bind fun g=>if(decide (f>g))=true then(some (.stop (.inr 21)))else(if(decide (a>0))=true then((pb a0.bh a).bind fun j=>(pb a0.bh (Dt .i64 (a-1))).bind fun k=>if(decide (j<k))=true then(some (.stop (.inr 21)))else((pb a0.av a).bind fun l=>(pb a0.av (Dt .i64 (a-1))).bind fun p=>if(decide (l<p))=true then(some (.stop (.inr 21)))else(some (.next (Dt .i64 (a+1))))))else(some (.next (Dt .i64 (a+1))))))))else(some (.stop (.inl ())))
def cS(a0:aw):Option (Int):=
  if(decide (a0.bS<1))=true then(some 21)else(if(decide (a0.bS>1048576))=true then(some 21)else(if((a0.bh.length:Int) != (a0.av.length:Int))=true then(some 21)else(if(decide ((a0.bh.length:Int)<2))=true then(some 21)else(if(decide ((a0.bh.length:Int)>256))=true then(some 21)else((dE (jL a0) 0).bind fun a=>match a with| .inl _=>(some 0)| .inr c=>(some c))))))
def ko(a0:bt):Option (Bool):=
  (cm a0.bk).bind fun a=>if a=true then((cS a0.bJ).bind fun c=>if(c==0)=true then(if(decide (a0.dL>=1))=true then(if(decide (a0.dL<=1099511627776))=true then(if(decide (a0.bz>=0))=true then(if(decide (a0.bz<=1099511627776))=true then(if(decide (a0.dq>=0))=true then(if(decide (a0.dq<=1099511627776))=true then(if(decide (a0.ey>=0))=true then(if(decide (a0.ey<=1099511627776))=true then(if(decide (a0.dp>=2))=true then(some (decide (a0.dp<=16)))else(some false))else(some false))else(some false))else(some false))else(some false))else(some false))else(some false))else(some false))else(some false))else(some false))else(some false)
def gc(a0:bC):Option (Bool):=
  (cS a0.bF).bind fun a=>if(a==0)=true then(if(decide (a0.bI>=0))=true then(if(decide (a0.bI<=65536))=true then(if(decide (a0.bG>=1))=true then(some (decide (a0.bG<=65536)))else(some false))else(some false))else(some false))else(some false)
def cw(a0:aj):Option (Int):=
  (ko a0.ae).bind fun a=>if(!a)=true then(some 27)else((gc a0.bN).bind fun c=>if(!c)=true then(some 27)else(if(decide (a0.bz<0))=true then(some 27)else(if(decide (a0.bz>1099511627776))=true then(some 27)else(some 0))))
def lJ(a0:Int):Option (Bool):=
  if(decide (a0>=65))=true then(if(decide (a0<=90))=true then(some true)else(if(decide (a0>=48))=true then(some (decide (a0<=57)))else(some false)))else(if(decide (a0>=48))=true then(some (decide (a0<=57)))else(some false))
def iI(a0:(List UInt8)):Int->Option (pa (Int) ((Unit)⊕(Bool))):=fun s1=>
  if(decide (s1<(a0.length:Int)))=true then((rT a0 s1).bind fun a=>(lJ a).bind fun c=>if(!c)=true then(some (.stop (.inr false)))else(some (.next (Dt .i64 (s1+1)))))else(some (.stop (.inl ())))
def iF(a0:(List UInt8))(a1:Int)(a2:Int):Option (Bool):=
  (dE (iI a0) 0).bind fun c=>match c with| .inl _=>(if(decide ((a0.length:Int)>=a1))=true then(some (decide ((a0.length:Int)<=a2)))else(some false))| .inr a=>(some a)
def iZ(a0:bj):Option (Bool):=
  (iF a0.bH 1 2).bind fun a=>if a=true then((iF a0.bv 1 5).bind fun c=>if c=true then((iF a0.bd 0 2).bind fun f=>if f=true then(if((a0.bd.length:Int) != 1)=true then((iF a0.bL 3 3).bind fun g=>some g)else(some false))else(some false))else(some false))else(some false)
def oc(a0:Int)(a1:Int)(a2:Int):Option (Bool):=
  if(decide (a0>=a1))=true then(some (decide (a0<=a2)))else(some false)
def mr:(Int×Int)->Option (pa (Int×Int) (Int)):=fun(s1,s2)=>
  if(s2 != 0)=true then((tX s1 s2).bind fun a=>some (.next (s2,a)))else(some (.stop s1))
def mR(a0:Int)(a1:Int):Option (Int):=
  (dE (mr) (a0,a1)).bind fun a=>some a
def kH(a0:bW):Option (Bool):=
  (oc a0.bI 1 4096).bind fun a=>if a=true then((oc a0.bG 1 4096).bind fun c=>if c=true then((mR a0.bI a0.bG).bind fun f=>some (f==1))else(some false))else(some false)
def cx(a0:Int)(a1:Int)(a2:Int):Option (Bool):=
  if(decide (a0>=a1))=true then(some (decide (a0<=a2)))else(some false)
def fH(a0:Int):Option (Bool):=
  (cx a0 (-1048576) 1048576).bind fun a=>some (!a)
def ck(a0:(List Int)):Int->Option (pa (Int) ((Unit)⊕(Int))):=fun s1=>
  if(decide (s1<(a0.length:Int)))=true then((pb a0 s1).bind fun a=>(fH a).bind fun c=>if c=true then(some (.stop (.inr s1)))else(some (.next (Dt .i64 (s1+1)))))else(some (.stop (.inl ())))
def dT(a0:(List Int)):Option (Int):=
  (dE (ck a0) 0).bind fun c=>match c with| .inl _=>(some (-1))| .inr a=>(some a)
def dA(a0:(List Int)):Option (Bool):=
  (dT a0).bind fun a=>some (decide (a>=0))
def cG(a0:(List Int)):Option (Bool):=
  (dA a0).bind fun a=>some (!a)
def gN(a0:(List Int)):(Int×Int)->Option (pa (Int×Int) (Int)):=fun(s1,s2)=>
  if(decide (s2<(a0.length:Int)))=true then((pb a0 s2).bind fun a=>some (.next ((Dt .i64 (s1+a)),(Dt .i64 (s2+1)))))else(some (.stop s1))
def da(a0:(List Int)):Option (Int):=
  (dE (gN a0) (0,0)).bind fun a=>some a
def cB(a0:bq):Option (Bool):=
  if((a0.cf.length:Int)==0)=true then(if(a0.bR==0)=true then(if(a0.ct==0)=true then(if(a0.cn==0)=true then(if((a0.bI.a0==a0.bI.a0)&&((a0.bI.a1==0)&&((a0.bI.a2==0)&&true)))=true then(if((a0.bG.a0==a0.bG.a0)&&((a0.bG.a1==0)&&((a0.bG.a2==0)&&true)))=true then((cx a0.bI.a0 1 1048576).bind fun D=>if D=true then((cx a0.bG.a0 1 1048576).bind fun E=>some E)else(some false))else(some false))else(some false))else(some false))else(if(a0.ct==1)=true then(if(a0.cn==0)=true then((cG [a0.bI.a0,a0.bI.a1,a0.bI.a2]).bind fun a=>if a=true then((cG [a0.bG.a0,a0.bG.a1,a0.bG.a2]).bind fun c=>if c=true then(some (a0.bG.a0 != 0))else(some false))else(some false))else(some false))else(if(a0.ct==2)=true then(if((a0.bI.a0==0)&&((a0.bI.a1==0)&&((a0.bI.a2==0)&&true)))=true then(if((a0.bG.a0==0)&&((a0.bG.a1==0)&&((a0.bG.a2==0)&&true)))=true then((cx (a0.cf.length:Int) 1 128).bind fun f=>if f=true then((cG a0.cf).bind fun g=>if g=true then((da a0.cf).bind fun j=>if(j != 0)=true then((cx a0.bR 1 64).bind fun k=>if k=true then((cx a0.cn 0 40).bind fun l=>some l)else(some false))else(some false))else(some false))else(some false))else(some false))else(some false))else(some false))))else(if(a0.ct==0)=true then(some false)else(if(a0.ct==1)=true then(some false)else(if(a0.ct==2)=true then(if((a0.bI.a0==0)&&((a0.bI.a1==0)&&((a0.bI.a2==0)&&true)))=true then(if((a0.bG.a0==0)&&((a0.bG.a1==0)&&((a0.bG.a2==0)&&true)))=true then((cx (a0.cf.length:Int) 1 128).bind fun p=>if p=true then((cG a0.cf).bind fun q=>if q=true then((da a0.cf).bind fun r=>if(r != 0)=true then((cx a0.bR 1 64).bind fun t=>if t=true then((cx a0.cn 0 40).bind fun u=>some u)else(some false))else(some false))else(some false))else(some false))else(some false))else(some false))else(some false)))))else(if(a0.ct==0)=true then(some false)else(if(a0.ct==1)=true then(some false)else(if(a0.ct==2)=true then(if((a0.bI.a0==0)&&((a0.bI.a1==0)&&((a0.bI.a2==0)&&true)))=true then(if((a0.bG.a0==0)&&((a0.bG.a1==0)&&((a0.bG.a2==0)&&true)))=true then((cx (a0.cf.length:Int) 1 128).bind fun x=>if x=true then((cG a0.cf).bind fun y=>if y=true then((da a0.cf).bind fun z=>if(z != 0)=true then((cx a0.bR 1 64).bind fun B=>if B=true then((cx a0.cn 0 40).bind fun C=>some C)else(some false))else(some false))else(some false))else(some false))else(some false))else(some false))else(some false))))
def fG(a0:bq):Option (Bool):=
  (cB a0).bind fun a=>some (!a)
def cd(a0:(List bq)):Int->Option (pa (Int) ((Unit)⊕(Int))):=fun s1=>
  if(decide (s1<(a0.length:Int)))=true then((pb a0 s1).bind fun a=>(fG a).bind fun c=>if c=true then(some (.stop (.inr s1)))else(some (.next (Dt .i64 (s1+1)))))else(some (.stop (.inl ())))
def dH(a0:(List bq)):Option (Int):=
  (dE (cd a0) 0).bind fun c=>match c with| .inl _=>(some (-1))| .inr a=>(some a)
def cp(a0:(List bq)):Option (Bool):=
  (dH a0).bind fun a=>some (decide (a>=0))
def dZ(a0:(List bq)):(Int×Int)->Option (pa (Int×Int) ((Int)⊕(Int))):=fun(s1,s2)=>
  if(decide (s2<(a0.length:Int)))=true then((pb a0 s2).bind fun a=>if(a.ct != 2)=true then(some (.next (s1,(Dt .i64 (s2+1)))))else(if(decide ((Dt .i64 (s1*a.bR))>64))=true then(some (.stop (.inr 0)))else(some (.next ((Dt .i64 (s1*a.bR)),(Dt .i64 (s2+1)))))))else(some (.stop (.inl s1)))
def fg(a0:(List bq)):Option (Int):=
  (dE (dZ a0) (1,0)).bind fun a=>match a with| .inl f=>(some f)| .inr c=>(some c)
def eW(a0:bp):Option (Bool):=
  if(decide ((a0.bD.length:Int)>8))=true then(some false)else((cp a0.bD).bind fun a=>if a=true then(some false)else((fg a0.bD).bind fun c=>some (decide (c>0))))
def eE(a0:Int)(a1:Int)(a2:Int):Option (Bool):=
  if(decide (a0>=a1))=true then(some (decide (a0<=a2)))else(some false)
def dD(a0:ba):Option (Bool):=
  if(decide (a0.b8>=0))=true then(if(decide (a0.b8<a0.fTo))=true then(if(decide (a0.fTo<=9007199254740992))=true then((kH a0.lj).bind fun f=>if f=true then((eW a0.bQ).bind fun g=>if g=true then((eE a0.bM.fX (-1048576) 1048576).bind fun j=>if j=true then((eE a0.bM.fY (-1048576) 1048576).bind fun a=>if a=true then((eE a0.bM.fZ (-16384) 1048576).bind fun c=>some c)else(some false))else(some false))else(some false))else(some false))else(some false))else(some false))else(some false)
def de(a0:(List ba)):Int->Option (pa (Int) ((Unit)⊕(Bool))):=fun s1=>
  if(decide (s1<(a0.length:Int)))=true then((pb a0 s1).bind fun a=>(dD a).bind fun c=>if(!c)=true then(some (.stop (.inr false)))else(if(decide (s1>0))=true then((pb a0 (Dt .i64 (s1-1))).bind fun f=>if(decide (a.b8<f.fTo))=true then(some (.stop (.inr false)))else(some (.next (Dt .i64 (s1+1)))))else(some (.next (Dt .i64 (s1+1))))))else(some (.stop (.inl ())))
def eP(a0:(List ba)):Option (Bool):=
  (dE (de a0) 0).bind fun a=>match a with| .inl _=>((eE (a0.length:Int) 1 32).bind fun f=>some f)| .inr c=>(some c)
def fK(a0:(List UInt8)):Option (Bool):=
  some (!(a0==a0))
def dc(a0:(List UInt8))(a1:(List UInt8)):Option (Int):=
  (fK a0).bind fun c=>(fK a1).bind fun a=>if c=true then(if a=true then(some 0)else(some (-1)))else(if a=true then(some 1)else(if(Op.bytesLess a0 a1)=true then(some (-1))else(if(!(Op.bytesLess a0 a1||a0==a1))=true then(some 1)else(some 0))))
def dI(a0:(List Int)):Int->Option (pa (Int) ((Unit)⊕(Int))):=fun s1=>
  if(decide (s1<(a0.length:Int)))=true then((pb a0 s1).bind fun a=>if(a != 0)=true then(some (.stop (.inr a)))else(some (.next (Dt .i64 (s1+1)))))else(some (.stop (.inl ())))
def dB(a0:(List Int)):Option (Int):=
  (dE (dI a0) 0).bind fun a=>match a with| .inl _=>(some 0)| .inr c=>(some c)
def gh(a0:bj)(a1:bj):Option (Int):=
  (dc a0.bH a1.bH).bind fun a=>(dc a0.bv a1.bv).bind fun c=>(dc a0.bd a1.bd).bind fun f=>(dc a0.bL a1.bL).bind fun g=>(dB [a,c,f,g]).bind fun j=>some j
def du(a0:ac):Int->Option (pa (Int) ((Unit)⊕(Bool))):=fun s1=>
  if(decide (s1<(a0.bg.length:Int)))=true then((pb a0.bg s1).bind fun f=>(iZ f.bc).bind fun g=>if(!g)=true then(some (.stop (.inr false)))else((eP f.bA).bind fun j=>if(!j)=true then(some (.stop (.inr false)))else(if(decide (s1>0))=true then((pb a0.bg (Dt .i64 (s1-1))).bind fun a=>(gh a.bc f.bc).bind fun c=>if(decide (c>=0))=true then(some (.stop (.inr false)))else(some (.next (Dt .i64 (s1+1)))))else(some (.next (Dt .i64 (s1+1)))))))else(some (.stop (.inl ())))
def di(a0:ac):Option (Bool):=
  (dE (du a0) 0).bind fun a=>match a with| .inl _=>(some (decide ((a0.bg.length:Int)<=128)))| .inr c=>(some c)
def gQ(a0:Int)(a1:Int)(a2:Int):Option (Bool):=
  if(decide (a0>=a1))=true then(some (decide (a0<=a2)))else(some false)
def dW(a0:ak):Option (Bool):=
  (iZ a0.bc).bind fun a=>if a=true then(if(decide (a0.bV>=0))=true then(if(decide (a0.bV<=a0.cb))=true then(if(decide (a0.cb<=a0.ch))=true then(if(decide (a0.ch<=18014398509481984))=true then((gQ a0.bK 0 1073741823).bind fun c=>if c=true then((gQ a0.bO (-1) 1).bind fun f=>some f)else(some false))else(some false))else(some false))else(some false))else(some false))else(some false)
def et(g:(List bq)):(Int×(List bq))->Option (pa (Int×(List bq)) ((List bq))):=fun(s2,s3)=>
  if(decide (s2<(g.length:Int)))=true then((inO s3 s2).bind fun _=>(pb s3 s2).bind fun j=>(qq 8 j.cf).bind fun c=>(inO s3 s2).bind fun _=>(uX s3 s2 (fun(a:bq)=>(bq.mk a.ct a.bI a.bG c a.bR a.cn))).bind fun f=>some (.next ((Dt .i64 (s2+1)),f)))else(some (.stop s3))
def fD(a0:ba):Option (ba):=
  (qq 96 a0.bQ.bD).bind fun c=>(dE (et c) (0,c)).bind fun a=>some (ba.mk a0.b8 a0.fTo a0.lj a0.bM (bp.mk a))
def fj(f:(List ba)):(Int×(List ba))->Option (pa (Int×(List ba)) ((List ba))):=fun(s2,s3)=>
  if(decide (s2<(f.length:Int)))=true then((inO s3 s2).bind fun _=>(pb s3 s2).bind fun g=>(fD g).bind fun a=>(inO s3 s2).bind fun _=>(tH s3 s2 a).bind fun c=>some (.next ((Dt .i64 (s2+1)),c)))else(some (.stop s3))
def iN(a0:aq):Option (aq):=
  (qq 80 a0.bA).bind fun c=>(dE (fj c) (0,c)).bind fun a=>some (aq.mk a0.bc a)
def hX(a0:ac)(a1:bj):Int->Option (pa (Int) ((Unit)⊕(aq×Bool))):=fun s1=>
  if(decide (s1<(a0.bg.length:Int)))=true then((pb a0.bg s1).bind fun a=>if((a.bc.bH==a1.bH)&&((a.bc.bv==a1.bv)&&((a.bc.bd==a1.bd)&&((a.bc.bL==a1.bL)&&true))))=true then((iN a).bind fun c=>some (.stop (.inr (c,true))))else(some (.next (Dt .i64 (s1+1)))))else(some (.stop (.inl ())))
def kb(a0:ac)(a1:bj):Option (aq×Bool):=
  (dE (hX a0 a1) 0).bind fun c=>match c with| .inl _=>(some ((aq.mk (bj.mk [] [] [] []) []),false))| .inr a=>(some a)
def jv(a0:aq)(a1:Int):Int->Option (pa (Int) ((Unit)⊕(ba×Bool))):=fun s1=>
  if(decide (s1<(a0.bA.length:Int)))=true then((pb a0.bA s1).bind fun a=>if(decide (a.b8<=a1))=true then(if(decide (a1<a.fTo))=true then(some (.stop (.inr (a,true))))else(some (.next (Dt .i64 (s1+1)))))else(some (.next (Dt .i64 (s1+1)))))else(some (.stop (.inl ())))
def lD(a0:aq)(a1:Int):Option (ba×Bool):=
  (dE (jv a0 a1) 0).bind fun c=>match c with| .inl _=>(some ((ba.mk 0 0 (bW.mk 0 0) (aa.mk 0 0 0) (bp.mk [])),false))| .inr a=>(some a)
def iM(a0:ac)(a1:bj)(a2:Int):Option (ba×Int):=
  (di a0).bind fun c=>if(!c)=true then(some ((ba.mk 0 0 (bW.mk 0 0) (aa.mk 0 0 0) (bp.mk [])),1))else((kb a0 a1).bind fun f=>(lD f.1 a2).bind fun a=>if(!a.2)=true then(some ((ba.mk 0 0 (bW.mk 0 0) (aa.mk 0 0 0) (bp.mk [])),6))else(some (a.1,0)))
def eN(a0:aj)(a1:ac)(a2:ak):Option (br×ba×Bool):=
  (dW a2).bind fun c=>if(!c)=true then(some ((br.mk (aa.mk 0 0 0) 0 0 0),(ba.mk 0 0 (bW.mk 0 0) (aa.mk 0 0 0) (bp.mk [])),false))else((iM a1 a2.bc a2.cb).bind fun a=>if(a.2 != 0)=true then(some ((br.mk (aa.mk 0 0 0) 0 0 0),(ba.mk 0 0 (bW.mk 0 0) (aa.mk 0 0 0) (bp.mk [])),false))else((im a0.ae.bJ a0.ae.bk (br.mk a.1.bM a2.bV a2.ch 1)).bind fun f=>if(f.2 != 0)=true then(some ((br.mk (aa.mk 0 0 0) 0 0 0),(ba.mk 0 0 (bW.mk 0 0) (aa.mk 0 0 0) (bp.mk [])),false))else(some ((br.mk a.1.bM a2.bV a2.ch 1),a.1,true))))
def jG(a0:aj)(a1:ac)(a2:ak):Option (br×Bool):=
  (db a0).bind fun c=>if(c != 0)=true then(some ((br.mk (aa.mk 0 0 0) 0 0 0),false))else((di a1).bind fun f=>if(!f)=true then(some ((br.mk (aa.mk 0 0 0) 0 0 0),false))else((eN a0 a1 a2).bind fun a=>some (a.1,a.2.2)))
def iw(a0:(List UInt8)):Int->Option (pa (Int) ((Unit)⊕(Bool))):=fun s1=>
  if(decide (s1<(a0.length:Int)))=true then((rT a0 s1).bind fun g=>if(decide (g>=65))=true then((rT a0 s1).bind fun j=>if(decide (j<=90))=true then(some (.next (Dt .i64 (s1+1))))else((rT a0 s1).bind fun k=>if(decide (k>=48))=true then((rT a0 s1).bind fun a=>if(!(decide (a<=57)))=true then(some (.stop (.inr false)))else(some (.next (Dt .i64 (s1+1)))))else(some (.stop (.inr false)))))else((rT a0 s1).bind fun c=>if(decide (c>=48))=true then((rT a0 s1).bind fun f=>if(!(decide (f<=57)))=true then(some (.stop (.inr false)))else(some (.next (Dt .i64 (s1+1)))))else(some (.stop (.inr false)))))else(some (.stop (.inl ())))
def iv(a0:(List UInt8))(a1:Int)(a2:Int):Option (Bool):=
  (dE (iw a0) 0).bind fun a=>match a with| .inl _=>(if(decide ((a0.length:Int)>=a1))=true then(some (decide ((a0.length:Int)<=a2)))else(some false))| .inr c=>(some c)
def jO(a0:bj):Option (Bool):=
  (iv a0.bH 1 2).bind fun a=>if a=true then((iv a0.bv 1 5).bind fun c=>if c=true then(if(a0.bd== [])=true then((iv a0.bL 3 3).bind fun f=>some f)else((iv a0.bd 2 2).bind fun g=>if g=true then((iv a0.bL 3 3).bind fun j=>some j)else(some false)))else(some false))else(some false)
def cA(a0:Int)(a1:Int)(a2:Int):Option (Bool):=
  if(decide (a0>=a1))=true then(some (decide (a0<=a2)))else(some false)
def jA(a0:ak):Option (Bool):=
  (jO a0.bc).bind fun a=>if a=true then(if(decide (a0.bV>=0))=true then(if(decide (a0.bV<=a0.cb))=true then(if(decide (a0.cb<=a0.ch))=true then(if(decide (a0.ch<=18014398509481984))=true then((cA a0.bK 0 1073741823).bind fun c=>if c=true then((cA a0.bO (-1) 1).bind fun f=>some f)else(some false))else(some false))else(some false))else(some false))else(some false))else(some false)
def oV:(Int×Int)->Option (pa (Int×Int) (Int)):=fun(s1,s2)=>
  if(s2 != 0)=true then((tX s1 s2).bind fun a=>some (.next (s2,a)))else(some (.stop s1))
def ref02_gcd(a0:Int)(a1:Int):Option (Int):=
  (dE (oV) (a0,a1)).bind fun a=>some a
def nJ(a0:bW):Option (Bool):=
  (cA a0.bI 1 4096).bind fun a=>if a=true then((cA a0.bG 1 4096).bind fun c=>if c=true then((ref02_gcd a0.bI a0.bG).bind fun f=>some (f==1))else(some false))else(some false)
def ix(a0:(List Int)):Int->Option (pa (Int) ((Unit)⊕(Bool))):=fun s1=>
  if(decide (s1<(a0.length:Int)))=true then((pb a0 s1).bind fun a=>(cA a (-1048576) 1048576).bind fun c=>if(!c)=true then(some (.stop (.inr false)))else(some (.next (Dt .i64 (s1+1)))))else(some (.stop (.inl ())))
def gj(a0:(List Int)):Option (Bool):=
  (dE (ix a0) 0).bind fun c=>match c with| .inl _=>(some true)| .inr a=>(some a)
def nK(a0:(List Int)):(Int×Int)->Option (pa (Int×Int) (Int)):=fun(s1,s2)=>
  if(decide (s2<(a0.length:Int)))=true then((pb a0 s2).bind fun a=>some (.next ((Dt .i64 (s1+a)),(Dt .i64 (s2+1)))))else(some (.stop s1))
def iy(a0:(List Int)):Option (Int):=
  (dE (nK a0) (0,0)).bind fun a=>some a
def fU(a0:bq):Option (Bool):=
  if((a0.cf.length:Int)==0)=true then(if(a0.bR==0)=true then(if(a0.ct==0)=true then(if(a0.cn==0)=true then((cA a0.bI.a0 1 1048576).bind fun D=>if D=true then((cA a0.bG.a0 1 1048576).bind fun E=>if E=true then(if(a0.bI.a1==0)=true then(if(a0.bI.a2==0)=true then(if(a0.bG.a1==0)=true then(some (a0.bG.a2==0))else(some false))else(some false))else(some false))else(some false))else(some false))else(some false))else(if(a0.ct==1)=true then(if(a0.cn==0)=true then((gj [a0.bI.a0,a0.bI.a1,a0.bI.a2]).bind fun a=>if a=true then((gj [a0.bG.a0,a0.bG.a1,a0.bG.a2]).bind fun c=>if c=true then(some (a0.bG.a0 != 0))else(some false))else(some false))else(some false))else(if(a0.ct==2)=true then(if((a0.bI.a0==0)&&((a0.bI.a1==0)&&((a0.bI.a2==0)&&true)))=true then(if((a0.bG.a0==0)&&((a0.bG.a1==0)&&((a0.bG.a2==0)&&true)))=true then((cA (a0.cf.length:Int) 1 128).bind fun f=>if f=true then((gj a0.cf).bind fun g=>if g=true then((iy a0.cf).bind fun j=>if(j != 0)=true then((cA a0.bR 1 64).bind fun k=>if k=true then((cA a0.cn 0 40).bind fun l=>some l)else(some false))else(some false))else(some false))else(some false))else(some false))else(some false))else(some false))))else(if(a0.ct==0)=true then(some false)else(if(a0.ct==1)=true then(some false)else(if(a0.ct==2)=true then(if((a0.bI.a0==0)&&((a0.bI.a1==0)&&((a0.bI.a2==0)&&true)))=true then(if((a0.bG.a0==0)&&((a0.bG.a1==0)&&((a0.bG.a2==0)&&true)))=true then((cA (a0.cf.length:Int) 1 128).bind fun p=>if p=true then((gj a0.cf).bind fun q=>if q=true then((iy a0.cf).bind fun r=>if(r != 0)=true then((cA a0.bR 1 64).bind fun t=>if t=true then((cA a0.cn 0 40).bind fun u=>some u)else(some false))else(some false))else(some false))else(some false))else(some false))else(some false))else(some false)))))else(if(a0.ct==0)=true then(some false)else(if(a0.ct==1)=true then(some false)else(if(a0.ct==2)=true then(if((a0.bI.a0==0)&&((a0.bI.a1==0)&&((a0.bI.a2==0)&&true)))=true then(if((a0.bG.a0==0)&&((a0.bG.a1==0)&&((a0.bG.a2==0)&&true)))=true then((cA (a0.cf.length:Int) 1 128).bind fun x=>if x=true then((gj a0.cf).bind fun y=>if y=true then((iy a0.cf).bind fun z=>if(z != 0)=true then((cA a0.bR 1 64).bind fun B=>if B=true then((cA a0.cn 0 40).bind fun C=>some C)else(some false))else(some false))else(some false))else(some false))else(some false))else(some false))else(some false))))
def jy(a0:bp):(Int×Int)->Option (pa (Int×Int) ((Unit)⊕(Bool))):=fun(s1,s2)=>
  if(decide (s2<(a0.bD.length:Int)))=true then((pb a0.bD s2).bind fun c=>(fU c).bind fun f=>if(!f)=true then(some (.stop (.inr false)))else((pb a0.bD s2).bind fun g=>if(g.ct==2)=true then((pb a0.bD s2).bind fun a=>if(decide ((Dt .i64 (s1*a.bR))>64))=true then(some (.stop (.inr false)))else(some (.next ((Dt .i64 (s1*a.bR)),(Dt .i64 (s2+1))))))else(some (.next (s1,(Dt .i64 (s2+1)))))))else(some (.stop (.inl ())))
def lp(a0:bp):Option (Bool):=
  (dE (jy a0) (1,0)).bind fun a=>match a with| .inl _=>(some (decide ((a0.bD.length:Int)<=8)))| .inr c=>(some c)
def iT(a0:ba):Option (Bool):=
  if(decide (a0.b8>=0))=true then(if(decide (a0.b8<a0.fTo))=true then(if(decide (a0.fTo<=9007199254740992))=true then((nJ a0.lj).bind fun f=>if f=true then((lp a0.bQ).bind fun g=>if g=true then((cA a0.bM.fX (-1048576) 1048576).bind fun j=>if j=true then((cA a0.bM.fY (-1048576) 1048576).bind fun a=>if a=true then((cA a0.bM.fZ (-16384) 1048576).bind fun c=>some c)else(some false))else(some false))else(some false))else(some false))else(some false))else(some false))else(some false)
def fy(a0:(List UInt8))(a1:(List UInt8)):Option (Int):=
  if(Op.bytesLess a0 a1)=true then(some (-1))else(if(!(Op.bytesLess a0 a1||a0==a1))=true then(some 1)else(some 0))
def jk(a0:bj)(a1:bj):Option (Int):=
  (fy a0.bH a1.bH).bind fun a=>(fy a0.bv a1.bv).bind fun c=>(fy a0.bd a1.bd).bind fun f=>(fy a0.bL a1.bL).bind fun g=>if(a != 0)=true then(some a)else(if(c != 0)=true then(some c)else(if(f != 0)=true then(some f)else(if(g != 0)=true then(some g)else(some 0))))
def gL(c:aq)(s1:Int):Int->Option (pa (Int) ((Int)⊕(Bool))):=fun a=>
  if(decide (a<(c.bA.length:Int)))=true then((pb c.bA a).bind fun k=>(iT k).bind fun f=>if(!f)=true then(some (.stop (.inr false)))else(if(decide (a>0))=true then((pb c.bA a).bind fun g=>(pb c.bA (Dt .i64 (a-1))).bind fun j=>if(decide (g.b8<j.fTo))=true then(some (.stop (.inr false)))else(some (.next (Dt .i64 (a+1)))))else(some (.next (Dt .i64 (a+1))))))else(some (.stop (.inl s1)))
def lz(g:aq)(s1:Int):Option (pa (Int) ((Unit)⊕(Bool))):=
  (dE (gL g s1) 0).bind fun a=>match a with| .inl f=>(some (.next (Dt .i64 (f+1))))| .inr c=>(some (.stop (.inr c)))
def gM(a0:ac):Int->Option (pa (Int) ((Unit)⊕(Bool))):=fun s1=>
  if(decide (s1<(a0.bg.length:Int)))=true then((pb a0.bg s1).bind fun a=>(jO a.bc).bind fun c=>if(!c)=true then(some (.stop (.inr false)))else(if(decide (s1>0))=true then((pb a0.bg (Dt .i64 (s1-1))).bind fun f=>(jk f.bc a.bc).bind fun g=>if(decide (g>=0))=true then(some (.stop (.inr false)))else((cA (a.bA.length:Int) 1 32).bind fun j=>if(!j)=true then(some (.stop (.inr false)))else(lz a s1)))else((cA (a.bA.length:Int) 1 32).bind fun k=>if(!k)=true then(some (.stop (.inr false)))else(lz a s1))))else(some (.stop (.inl ())))
def gl(a0:ac):Option (Bool):=
  (dE (gM a0) 0).bind fun a=>match a with| .inl _=>(some (decide ((a0.bg.length:Int)<=128)))| .inr c=>(some c)
def gW(a0:bp):(Int×(List bq))->Option (pa (Int×(List bq)) ((List bq))):=fun(s1,s2)=>
  if(decide (s1<(a0.bD.length:Int)))=true then((pb a0.bD s1).bind fun a=>(pG ([]:List Int) a.cf 8).bind fun c=>(pG s2 [(bq.mk a.ct a.bI a.bG c a.bR a.cn)] 96).bind fun f=>some (.next ((Dt .i64 (s1+1)),f)))else(some (.stop s2))
def m9(a0:bp):Option (bp):=
  (dE (gW a0) (0,([]:(List bq)))).bind fun a=>some (bp.mk a)
def jz(a0:ba):Option (ba):=
  (m9 a0.bQ).bind fun a=>some (ba.mk a0.b8 a0.fTo a0.lj a0.bM a)
def fV(a0:ac)(s1:Int)(s2:(List aq)):(Int×(List ba))->Option (pa (Int×(List ba)) (Int×(List aq)×(List ba))):=fun(a,l)=>
  (pb a0.bg s1).bind fun c=>if(decide (a<(c.bA.length:Int)))=true then((pb a0.bg s1).bind fun f=>(pb f.bA a).bind fun g=>(jz g).bind fun j=>(pG l [j] 80).bind fun k=>some (.next ((Dt .i64 (a+1)),k)))else(some (.stop (s1,s2,l)))
def fW(a0:ac):(Int×(List aq))->Option (pa (Int×(List aq)) ((List aq))):=fun(s1,s2)=>
  if(decide (s1<(a0.bg.length:Int)))=true then((pb a0.bg s1).bind fun f=>(dE (fV a0 s1 s2) (0,([]:(List ba)))).bind fun a=>(pG a.2.1 [(aq.mk f.bc a.2.2)] 88).bind fun c=>some (.next ((Dt .i64 (a.1+1)),c)))else(some (.stop s2))
def l8(a0:ac):Option (ac):=
  (dE (fW a0) (0,([]:(List aq)))).bind fun a=>some (ac.mk a)
def lb(a0:ac)(a1:bj):Int->Option (pa (Int) ((Unit)⊕(aq×Bool))):=fun s1=>
  if(decide (s1<(a0.bg.length:Int)))=true then((pb a0.bg s1).bind fun a=>if((a.bc.bH==a1.bH)&&((a.bc.bv==a1.bv)&&((a.bc.bd==a1.bd)&&((a.bc.bL==a1.bL)&&true))))=true then((ue a0.bg s1 (Dt .i64 (s1+1))).bind fun c=>(l8 (ac.mk c)).bind fun f=>(pb f.bg 0).bind fun g=>some (.stop (.inr (g,true))))else(some (.next (Dt .i64 (s1+1)))))else(some (.stop (.inl ())))
def ng(a0:ac)(a1:bj):Option (aq×Bool):=
  (dE (lb a0 a1) 0).bind fun a=>match a with| .inl _=>(some ((aq.mk (bj.mk [] [] [] []) []),false))| .inr c=>(some c)
def kg(c:aq×Bool)(a2:Int):Int->Option (pa (Int) ((Unit)⊕(ba×Int))):=fun a=>
  if(decide (a<(c.1.bA.length:Int)))=true then((pb c.1.bA a).bind fun g=>if(decide (g.b8<=a2))=true then((pb c.1.bA a).bind fun j=>if(decide (a2<j.fTo))=true then((pb c.1.bA a).bind fun f=>some (.stop (.inr (f,0))))else(some (.next (Dt .i64 (a+1)))))else(some (.next (Dt .i64 (a+1)))))else(some (.stop (.inl ())))
def mT(a0:ac)(a1:bj)(a2:Int):Option (ba×Int):=
  (gl a0).bind fun f=>if(!f)=true then(some ((ba.mk 0 0 (bW.mk 0 0) (aa.mk 0 0 0) (bp.mk [])),1))else((ng a0 a1).bind fun g=>(dE (kg g a2) 0).bind fun a=>match a with| .inl _=>(some ((ba.mk 0 0 (bW.mk 0 0) (aa.mk 0 0 0) (bp.mk [])),6))| .inr c=>(some c))
def kM(a0:Int)(a1:Int)(a2:Int):Option (Int):=
  some (if(Dt .i64 (a2-a1))>(if(Dt .i64 (a0-a2))>0 then(Dt .i64 (a0-a2))else 0)then(Dt .i64 (a2-a1))else(if(Dt .i64 (a0-a2))>0 then(Dt .i64 (a0-a2))else 0))
def dP(a0:Int):Option (Int):=
  some (Dt .i64 (a0*a0))
def iA(a0:ah)(a1:aa):Option (Int):=
  (cm a0).bind fun c=>if(!c)=true then(some 0)else((fu a1).bind fun f=>if(!f)=true then(some 0)else((kM a0.bh.fX a0.av.fX a1.fX).bind fun g=>(dP g).bind fun j=>(kM a0.bh.fY a0.av.fY a1.fY).bind fun k=>(dP k).bind fun l=>(kM a0.bh.fZ a0.av.fZ a1.fZ).bind fun p=>(dP p).bind fun a=>some (Dt .i64 ((Dt .i64 (j+l))+a))))
def lQ(a0:Int)(a1:Int)(a2:Int):Option (Int):=
  some (if(Dt .i64 (a1-a2))>(Dt .i64 (a2-a0))then(Dt .i64 (a1-a2))else(Dt .i64 (a2-a0)))
def jP(a0:ah)(a1:aa):Option (Int):=
  (cm a0).bind fun c=>if(!c)=true then(some 0)else((fu a1).bind fun f=>if(!f)=true then(some 0)else((lQ a0.bh.fX a0.av.fX a1.fX).bind fun g=>(dP g).bind fun j=>(lQ a0.bh.fY a0.av.fY a1.fY).bind fun k=>(dP k).bind fun l=>(lQ a0.bh.fZ a0.av.fZ a1.fZ).bind fun p=>(dP p).bind fun a=>some (Dt .i64 ((Dt .i64 (j+l))+a))))
def mb(a0:Int):(Int×Int)->Option (pa (Int×Int) (Int)):=fun(s1,s2)=>
  if(decide (s2>0))=true then(if(decide ((Dt .i64 (s1+s2))<=3037000499))=true then(if(decide ((Dt .i64 ((Dt .i64 (s1+s2))*(Dt .i64 (s1+s2))))<=a0))=true then(some (.next ((Dt .i64 (s1+s2)),(pJ .i64 s2 1))))else(some (.next (s1,(pJ .i64 s2 1)))))else(some (.next (s1,(pJ .i64 s2 1)))))else(some (.stop s1))
def jQ(a0:Int):Option (Int):=
  (dE (mb a0) (0,2147483648)).bind fun a=>some a
def ma(a0:Int):Option (Int):=
  (jQ a0).bind fun a=>if(decide (a0>(Dt .i64 (a*a))))=true then(some (Dt .i64 (a+1)))else(some a)
def nN(a0:aw):Option (Int):=
  (cS a0).bind fun a=>if(a != 0)=true then(some 0)else(some (Dt .i64 (a0.bS*(Dt .i64 ((a0.bh.length:Int)-1)))))
def nL(a0:aw)(a1:Int):Option (Int):=
  (qa .i64 a1 a0.bS).bind fun a=>(pb a0.bh a).bind fun c=>some c
def nO(a0:aw)(a1:Int):Option (Int):=
  (qa .i64 (Dt .i64 ((Dt .i64 (a1+a0.bS))-1)) a0.bS).bind fun a=>(pb a0.av a).bind fun c=>some c
def gY(a0:aw)(a1:Int)(a2:Int):Option (Int×Int×Int):=
  (cS a0).bind fun f=>if(f != 0)=true then(some (0,0,21))else(if(decide (a1<0))=true then(some (0,0,2))else(if(decide (a1>a2))=true then(some (0,0,2))else((ma a2).bind fun g=>(nN a0).bind fun j=>if(decide (g>j))=true then(some (0,0,22))else((jQ a1).bind fun k=>(nL a0 k).bind fun l=>(ma a2).bind fun a=>(nO a0 a).bind fun c=>some (l,c,0)))))
def eV(a0:aw)(a1:ah)(a2:aa):Option (Int×Int×Int):=
  (cS a0).bind fun c=>if(c != 0)=true then(some (0,0,21))else((cm a1).bind fun f=>if(!f)=true then(some (0,0,20))else((fu a2).bind fun g=>if(!g)=true then(some (0,0,20))else((iA a1 a2).bind fun j=>(jP a1 a2).bind fun k=>(gY a0 j k).bind fun a=>some (a.1,a.2.1,a.2.2))))
def eh(a0:aj)(a1:ac)(a2:ak):Option (br×Bool):=
  (cw a0).bind fun c=>if(c != 0)=true then(some ((br.mk (aa.mk 0 0 0) 0 0 0),false))else((jA a2).bind fun f=>if(!f)=true then(some ((br.mk (aa.mk 0 0 0) 0 0 0),false))else((mT a1 a2.bc a2.cb).bind fun a=>if(a.2 != 0)=true then(some ((br.mk (aa.mk 0 0 0) 0 0 0),false))else((eV a0.ae.bJ a0.ae.bk a.1.bM).bind fun g=>if(g.2.2 != 0)=true then(some ((br.mk (aa.mk 0 0 0) 0 0 0),false))else(some ((br.mk a.1.bM a2.bV a2.ch 1),true)))))
def ji(a0:Int):Option (Bool):=
  some (a0 != a0)
def cr(a0:Int)(a1:Int):Option (Int):=
  (ji a0).bind fun c=>(ji a1).bind fun a=>if c=true then(if a=true then(some 0)else(some (-1)))else(if a=true then(some 1)else(if(decide (a0<a1))=true then(some (-1))else(if(decide (a0>a1))=true then(some 1)else(some 0))))
def cC(a0:ak)(a1:ak):Option (Int):=
  (gh a0.bc a1.bc).bind fun a=>(cr a0.cb a1.cb).bind fun c=>(cr a0.bV a1.bV).bind fun f=>(cr a0.ch a1.ch).bind fun g=>(cr a0.bK a1.bK).bind fun j=>(cr a0.bO a1.bO).bind fun k=>(dB [a,c,f,g,j,k]).bind fun l=>some l
def gf(s2:Int)(d0:(List ak)):(Int×Int×(List ak))->Option (pa (Int×Int×(List ak)) (Int×(List ak))):=fun(j,c,a)=>
  (lenV a.length (0+(s2:Int).toNat) (0+((d0.length:Int):Int).toNat)).bind fun k=>if(decide (c<k))=true then((inV a.length (0+(s2:Int).toNat) (0+((d0.length:Int):Int).toNat) c).bind fun _=>(pb a (((0+(s2:Int).toNat)+(c:Int).toNat:Nat):Int)).bind fun f=>(inV a.length (0+(s2:Int).toNat) (0+((d0.length:Int):Int).toNat) (Dt .i64 (c-1))).bind fun _=>(pb a (((0+(s2:Int).toNat)+((Dt .i64 (c-1)):Int).toNat:Nat):Int)).bind fun g=>if(!(((f.bc.bH==g.bc.bH)&&((f.bc.bv==g.bc.bv)&&((f.bc.bd==g.bc.bd)&&((f.bc.bL==g.bc.bL)&&true))))&&((f.cb==g.cb)&&((f.bV==g.bV)&&((f.ch==g.ch)&&((f.bK==g.bK)&&((f.bO==g.bO)&&true)))))))=true then((inV a.length (0+(s2:Int).toNat) (0+((d0.length:Int):Int).toNat) c).bind fun _=>(pb a (((0+(s2:Int).toNat)+(c:Int).toNat:Nat):Int)).bind fun l=>(inO a j).bind fun _=>(tH a j l).bind fun p=>some (.next ((Dt .i64 (j+1)),(Dt .i64 (c+1)),p)))else(some (.next (j,(Dt .i64 (c+1)),a))))else(some (.stop (j,a)))
def gg(d0:(List ak)):Int->Option (pa (Int) ((Unit)⊕((List ak)))):=fun s2=>
  if(decide (s2<(d0.length:Int)))=true then((inO d0 s2).bind fun _=>(pb d0 s2).bind fun f=>(inO d0 (Dt .i64 (s2-1))).bind fun _=>(pb d0 (Dt .i64 (s2-1))).bind fun c=>if(((f.bc.bH==c.bc.bH)&&((f.bc.bv==c.bc.bv)&&((f.bc.bd==c.bc.bd)&&((f.bc.bL==c.bc.bL)&&true))))&&((f.cb==c.cb)&&((f.bV==c.bV)&&((f.ch==c.ch)&&((f.bK==c.bK)&&((f.bO==c.bO)&&true))))))=true then((tF d0.length s2 (d0.length:Int)).bind fun _=>(dE (gf s2 d0) (s2,1,d0)).bind fun a=>(tF a.2.length a.1 (a.2.length:Int)).bind fun _=>(wT a.2.length (0+(a.1:Int).toNat) (0+((a.2.length:Int):Int).toNat)).bind fun _=>(tF (tz a.2 (0+(a.1:Int).toNat) ((0+((a.2.length:Int):Int).toNat)-(0+(a.1:Int).toNat)) (ak.mk (bj.mk [] [] [] []) 0 0 0 0 0)).length 0 a.1).bind fun _=>(uV (tz a.2 (0+(a.1:Int).toNat) ((0+((a.2.length:Int):Int).toNat)-(0+(a.1:Int).toNat)) (ak.mk (bj.mk [] [] [] []) 0 0 0 0 0)) (0+(0:Int).toNat) (0+(a.1:Int).toNat)).bind fun g=>some (.stop (.inr g)))else(some (.next (Dt .i64 (s2+1)))))else(some (.stop (.inl ())))
def dR(d0:(List ak)):Option ((List ak)):=
  if(decide ((d0.length:Int)<2))=true then(some d0)else((dE (gg d0) 1).bind fun a=>match a with| .inl _=>(some d0)| .inr c=>(some c))
def ln(a0:(List ak)):Option ((List ak)):=
  (qq 104 a0).bind fun a=>(vC cC a).bind fun c=>(dR c).bind fun f=>some f
def fI(r:(List ak))(a0:aj)(a1:ac):(Int×(List ak)×(List br)×(List ba))->Option (pa (Int×(List ak)×(List br)×(List ba)) ((List ak)×(List br)×(List ba))):=fun(f,g,j,k)=>
  if(decide (f<(r.length:Int)))=true then((pb r f).bind fun c=>(eN a0 a1 c).bind fun a=>if a.2.2=true then((pG g [c] 104).bind fun l=>(pG j [a.1] 48).bind fun p=>(pG k [a.2.1] 80).bind fun q=>some (.next ((Dt .i64 (f+1)),l,p,q)))else(some (.next ((Dt .i64 (f+1)),g,j,k))))else(some (.stop (g,j,k)))
def ew(a0:aj)(a1:ac)(a2:(List ak)):Option (bP×Int):=
  (db a0).bind fun c=>if(c != 0)=true then(some ((bP.mk [] [] []),27))else((di a1).bind fun f=>if(!f)=true then(some ((bP.mk [] [] []),1))else((ln a2).bind fun g=>(dE (fI g a0 a1) (0,([]:(List ak)),([]:(List br)),([]:(List ba)))).bind fun a=>some ((bP.mk a.1 a.2.1 a.2.2),0)))
def eQ(a0:bP)(a1:aj):Option (ai×Int):=
  if((a0.nY.length:Int)==0)=true then(some ((ai.mk (ah.mk (aa.mk 0 0 0) (aa.mk 0 0 0)) (aw.mk 0 [] []) [] 0),24))else(if(decide ((a0.nY.length:Int)>64))=true then(some ((ai.mk (ah.mk (aa.mk 0 0 0) (aa.mk 0 0 0)) (aw.mk 0 [] []) [] 0),8))else((qq 8 a1.ae.bJ.bh).bind fun a=>(qq 8 a1.ae.bJ.av).bind fun c=>some ((ai.mk a1.ae.bk (aw.mk a1.ae.bJ.bS a c) a0.nY a1.ae.dL),0)))
def iX(a0:aj)(a1:ac)(a2:(List ak)):Option (ai×Int):=
  (ew a0 a1 a2).bind fun a=>if(a.2 != 0)=true then(some ((ai.mk (ah.mk (aa.mk 0 0 0) (aa.mk 0 0 0)) (aw.mk 0 [] []) [] 0),a.2))else((eQ a.1 a0).bind fun c=>some (c.1,c.2))
def lc(a0:ak)(a1:ak):Option (Int):=
  (jk a0.bc a1.bc).bind fun a=>if(a != 0)=true then(some a)else(if(decide (a0.cb<a1.cb))=true then(some (-1))else(if(decide (a0.cb>a1.cb))=true then(some 1)else(if(decide (a0.bV<a1.bV))=true then(some (-1))else(if(decide (a0.bV>a1.bV))=true then(some 1)else(if(decide (a0.ch<a1.ch))=true then(some (-1))else(if(decide (a0.ch>a1.ch))=true then(some 1)else(if(decide (a0.bK<a1.bK))=true then(some (-1))else(if(decide (a0.bK>a1.bK))=true then(some 1)else(if(decide (a0.bO<a1.bO))=true then(some (-1))else(if(decide (a0.bO>a1.bO))=true then(some 1)else(some 0)))))))))))
def kj(s2:(List ak))(a0:(List ak))(s1:Int):Int->Option (pa (Int) (Int×Int×(List ak))):=fun a=>
  if(decide (a>0))=true then((inO s2 (Dt .i64 (a-1))).bind fun _=>(pb s2 (Dt .i64 (a-1))).bind fun c=>(pb a0 s1).bind fun f=>(lc c f).bind fun g=>if(decide (g>0))=true then(some (.next (Dt .i64 (a-1))))else(some (.stop (s1,a,s2))))else(some (.stop (s1,a,s2)))
def f7(a0:(List ak))(a:Int×Int×(List ak)):Option (pa (Int×(List ak)) ((List ak))):=
  (pb a0 a.1).bind fun g=>(pG a.2.2 [g] 104).bind fun c=>(tF c.length (Dt .i64 (a.2.1+1)) (c.length:Int)).bind fun _=>(tF c.length a.2.1 (c.length:Int)).bind fun _=>(wT c.length (0+((Dt .i64 (a.2.1+1)):Int).toNat) (0+((c.length:Int):Int).toNat)).bind fun _=>(uV c (0+(a.2.1:Int).toNat) (0+((c.length:Int):Int).toNat)).bind fun f=>(pb a0 a.1).bind fun j=>(inO (tI c (0+((Dt .i64 (a.2.1+1)):Int).toNat) ((0+((c.length:Int):Int).toNat)-(0+((Dt .i64 (a.2.1+1)):Int).toNat)) f) a.2.1).bind fun _=>(tH (tI c (0+((Dt .i64 (a.2.1+1)):Int).toNat) ((0+((c.length:Int):Int).toNat)-(0+((Dt .i64 (a.2.1+1)):Int).toNat)) f) a.2.1 j).bind fun k=>some (.next ((Dt .i64 (a.1+1)),k))
def l9(a0:(List ak)):(Int×(List ak))->Option (pa (Int×(List ak)) ((List ak))):=fun(s1,s2)=>
  if(decide (s1<(a0.length:Int)))=true then((dE (kj s2 a0 s1) (s2.length:Int)).bind fun a=>if(decide (a.2.1>0))=true then((inO a.2.2 (Dt .i64 (a.2.1-1))).bind fun _=>(pb a.2.2 (Dt .i64 (a.2.1-1))).bind fun c=>(pb a0 a.1).bind fun f=>if(((c.bc.bH==f.bc.bH)&&((c.bc.bv==f.bc.bv)&&((c.bc.bd==f.bc.bd)&&((c.bc.bL==f.bc.bL)&&true))))&&((c.cb==f.cb)&&((c.bV==f.bV)&&((c.ch==f.ch)&&((c.bK==f.bK)&&((c.bO==f.bO)&&true))))))=true then(some (.next ((Dt .i64 (a.1+1)),a.2.2)))else(f7 a0 a))else(f7 a0 a))else(some (.stop s2))
def kK(a0:(List ak)):Option ((List ak)):=
  (dE (l9 a0) (0,([]:(List ak)))).bind fun a=>some a
def jD(c:(List ak))(a0:aj)(a1:ac):(Int×(List ak))->Option (pa (Int×(List ak)) ((List ak))):=fun(s2,s3)=>
  if(decide (s2<(c.length:Int)))=true then((pb c s2).bind fun f=>(eh a0 a1 f).bind fun g=>if g.2=true then((pG s3 [f] 104).bind fun a=>some (.next ((Dt .i64 (s2+1)),a)))else(some (.next ((Dt .i64 (s2+1)),s3))))else(some (.stop s3))
def jT(a0:aj)(a1:ac)(a2:(List ak)):Option ((List ak)):=
  (kK a2).bind fun c=>(dE (jD c a0 a1) (0,([]:(List ak)))).bind fun a=>some a
def ie(k:(List ak))(a0:aj)(a1:ac):(Int×(List br))->Option (pa (Int×(List br)) ((List br))):=fun(a,j)=>
  if(decide (a<(k.length:Int)))=true then((pb k a).bind fun c=>(eh a0 a1 c).bind fun f=>(pG j [f.1] 48).bind fun g=>some (.next ((Dt .i64 (a+1)),g)))else(some (.stop j))
def ef(a0:aj)(a1:ac)(a2:(List ak)):Option (ai×Int):=
  (cw a0).bind fun c=>if(c != 0)=true then(some ((ai.mk (ah.mk (aa.mk 0 0 0) (aa.mk 0 0 0)) (aw.mk 0 [] []) [] 0),27))else((gl a1).bind fun f=>if(!f)=true then(some ((ai.mk (ah.mk (aa.mk 0 0 0) (aa.mk 0 0 0)) (aw.mk 0 [] []) [] 0),1))else((jT a0 a1 a2).bind fun g=>(dE (ie g a0 a1) (0,([]:(List br)))).bind fun a=>if((a.length:Int)==0)=true then(some ((ai.mk (ah.mk (aa.mk 0 0 0) (aa.mk 0 0 0)) (aw.mk 0 [] []) [] 0),24))else(if(decide ((a.length:Int)>64))=true then(some ((ai.mk (ah.mk (aa.mk 0 0 0) (aa.mk 0 0 0)) (aw.mk 0 [] []) [] 0),8))else(some ((ai.mk a0.ae.bk a0.ae.bJ a a0.ae.dL),0)))))
def fF(a0:ai):Int->Option (pa (Int) ((Unit)⊕(Int))):=fun c=>
  if(decide (c<(a0.bT.length:Int)))=true then((pb a0.bT c).bind fun f=>(im a0.bJ a0.bk f).bind fun a=>if(a.2 != 0)=true then(some (.stop (.inr a.2)))else(some (.next (Dt .i64 (c+1)))))else(some (.stop (.inl ())))
def gH(a0:ai):Option (Int):=
  (b9 a0.bk).bind fun g=>if(!g)=true then(some 20)else((cV a0.bJ).bind fun f=>if(f != 0)=true then(some f)else(if((a0.bT.length:Int)==0)=true then(some 24)else(if(decide ((a0.bT.length:Int)>64))=true then(some 8)else(if(decide (a0.dL<1))=true then(some 2)else(if(decide (a0.dL>1099511627776))=true then(some 2)else((dE (fF a0) 0).bind fun a=>match a with| .inl _=>(some 0)| .inr c=>(some c)))))))
def fi(a0:ah)(a1:aa):Option (Bool):=
  (b9 a0).bind fun a=>if a=true then((dy a1).bind fun c=>if c=true then((eI a0 a1).bind fun f=>some (f==0))else(some false))else(some false)
def ju(a0:ah)(a1:ah):Option (Bool):=
  (b9 a0).bind fun a=>if a=true then((fi a1 a0.bh).bind fun c=>if c=true then((fi a1 a0.av).bind fun f=>some f)else(some false))else(some false)
def eS(a0:ai)(a1:ah):(Int×(List bw))->Option (pa (Int×(List bw)) (((List bw))⊕((List bw)×Int))):=fun(s2,s3)=>
  if(decide (s2<(a0.bT.length:Int)))=true then((pb a0.bT s2).bind fun f=>(im a0.bJ a1 f).bind fun c=>if(c.2 != 0)=true then(some (.stop (.inr (([]:(List bw)),c.2))))else((pG s3 [c.1] 16).bind fun a=>some (.next ((Dt .i64 (s2+1)),a))))else(some (.stop (.inl s3)))
def m5(a0:ai)(a1:ah):Option ((List bw)×Int):=
  (xH 0 (a0.bT.length:Int) (bw.mk 0 0) 16).bind fun g=>(dE (eS a0 a1) (0,g)).bind fun a=>match a with| .inl f=>(some (f,0))| .inr c=>(some c)
def kf(a0:ai)(a1:ah):Option ((List bw)×Int):=
  (gH a0).bind fun a=>if(a != 0)=true then(some (([]:(List bw)),a))else((ju a1 a0.bk).bind fun f=>if(!f)=true then(some (([]:(List bw)),20))else((m5 a0 a1).bind fun c=>some (c.1,c.2)))
def jx(a0:bw)(a1:Int):Option (Int):=
  some (if 0>(if(Dt .i64 (a1-a0.fTo))>(Dt .i64 (a0.b8-a1))then(Dt .i64 (a1-a0.fTo))else(Dt .i64 (a0.b8-a1)))then 0 else(if(Dt .i64 (a1-a0.fTo))>(Dt .i64 (a0.b8-a1))then(Dt .i64 (a1-a0.fTo))else(Dt .i64 (a0.b8-a1))))
def fe(a0:ai)(a1:(List bw))(a2:Int):(Int×Int)->Option (pa (Int×Int) (Int)):=fun(s1,s2)=>
  if(decide (s2<(a0.bT.length:Int)))=true then((pb a0.bT s2).bind fun c=>if(decide (s2<(a1.length:Int)))=true then((pb a1 s2).bind fun f=>(jx f a2).bind fun a=>some (.next ((Dt .i64 (s1+(Dt .i64 (c.d7*(if a<a0.dL then a else a0.dL))))),(Dt .i64 (s2+1)))))else(some (.next (s1,(Dt .i64 (s2+1))))))else(some (.stop s1))
def iq(a0:ai)(a1:(List bw))(a2:Int):Option (Int):=
  (dE (fe a0 a1 a2) (0,0)).bind fun a=>some a
def fT(a1:(List bw)):(Int×(List Int))->Option (pa (Int×(List Int)) ((List Int))):=fun(s2,s3)=>
  if(decide (s2<(a1.length:Int)))=true then((pb a1 s2).bind fun a=>(pG s3 [a.b8,a.fTo] 8).bind fun c=>some (.next ((Dt .i64 (s2+1)),c)))else(some (.stop s3))
def fd(l:Int)(k:(List Int))(a0:ai)(a1:(List bw)):(Int×Int×Int)->Option (pa (Int×Int×Int) (Int×Int)):=fun(f,c,a)=>
  if(decide (a<l))=true then((inV k.length (0+(1:Int).toNat) (0+((k.length:Int):Int).toNat) a).bind fun _=>(pb k (((0+(1:Int).toNat)+(a:Int).toNat:Nat):Int)).bind fun g=>(iq a0 a1 g).bind fun j=>if(decide (j<c))=true then(some (.next (g,j,(Dt .i64 (a+1)))))else(if(j==c)=true then(if(decide (g<f))=true then(some (.next (g,j,(Dt .i64 (a+1)))))else(some (.next (f,c,(Dt .i64 (a+1))))))else(some (.next (f,c,(Dt .i64 (a+1)))))))else(some (.stop (f,c)))
def ll(a0:ai)(a1:(List bw)):Option (Int×Int):=
  (xH 0 (Dt .i64 (2*(a1.length:Int))) 0 8).bind fun l=>(dE (fT a1) (0,l)).bind fun a=>if((a.length:Int)==0)=true then(some (0,0))else((inO a 0).bind fun _=>(pb a 0).bind fun f=>(inO a 0).bind fun _=>(pb a 0).bind fun g=>(iq a0 a1 g).bind fun j=>(tF a.length 1 (a.length:Int)).bind fun _=>(lenV a.length (0+(1:Int).toNat) (0+((a.length:Int):Int).toNat)).bind fun k=>(dE (fd k a a0 a1) (f,j,0)).bind fun c=>some (c.1,c.2))
def iP(a0:ai)(a1:ah):Option (Int×Int):=
  (kf a0 a1).bind fun a=>if(a.2 != 0)=true then(some (0,a.2))else((ll a0 a.1).bind fun c=>some (c.2,0))
def m7(a0:ap)(c:ai)(e2:Int)(f:Int)(g:Bool)(j:al):Option ((List ap)):=
  (pG ([]:List ap) [a0] 64).bind fun a=>some a
def gR(a0:(List ap)):Option (Int):=
  some (a0.length:Int)
def ir(a0:(List ap))(a1:Int)(a2:Int):Option (Bool):=
  (pb a0 a1).bind fun a=>(pb a0 a2).bind fun c=>(cr a.bY c.bY).bind fun f=>(pb a0 a1).bind fun g=>(pb a0 a2).bind fun j=>(cr g.jZ j.jZ).bind fun k=>(dB [f,k]).bind fun l=>some (decide (l<0))
def iu(a1:Int)(a2:Int)(d0:(List ap)):Option ((List ap)):=
  (inO d0 a2).bind fun _=>(pb d0 a2).bind fun f=>(inO d0 a1).bind fun _=>(pb d0 a1).bind fun g=>(inO d0 a1).bind fun _=>(tH d0 a1 f).bind fun c=>(inO c a2).bind fun _=>(tH c a2 g).bind fun a=>some a
def mo:(Int×(List ap))->Option (pa (Int×(List ap)) ((List ap))):=fun(s1,s2)=>
  (qa .i64 (Dt .i64 (s1-1)) 2).bind fun a=>if(a==s1)=true then((some s2).bind fun g=>some (.stop g))else((ir s2 s1 a).bind fun f=>if(!f)=true then((some s2).bind fun z9=>some (.stop z9))else((iu a s1 s2).bind fun c=>some (.next (a,c))))
def mZ(a0:Int)(c:ai)(e2:Int)(f:Int)(g:Bool)(j:al)(d1:(List ap)):Option ((List ap)):=
  (dE (mo) (a0,d1)).bind fun a=>some a
def jM(a0:ap)(a:ai)(e2:Int)(c:Int)(f:Bool)(g:al):Option ((List ap)):=
  (m7 a0 a e2 c f g).bind fun j=>(gR j).bind fun k=>(mZ (Dt .i64 (k-1)) a e2 c f g j).bind fun l=>some l
def mF(f:Int×Int)(a:Int)(c:(List ap)):Option (Int×(List ap)×Int):=
  some (f.2,c,a)
def oC(a0:ah)(c:ai)(e2:Int)(f:Int)(g:Bool)(j:al):Option (Int×(List ap)×Int):=
  (iP c a0).bind fun a=>if(a.2==0)=true then((jM (ap.mk a0 a.1 e2) c e2 f g j).bind fun k=>mF a (Dt .i64 (e2+1)) k)else(mF a e2 ([]:List ap))
def kx(a0:Int)(g:ai)(e2:Int)(j:Int)(a:Bool)(c:al)(d1:(List ap)):Option (Bool):=
  if((d1.length:Int)==0)=true then(some true)else(if a=true then((inO d1 0).bind fun _=>(pb d1 0).bind fun f=>some (decide ((Dt .i64 (c.ci-f.bY))<=a0)))else(some false))
def eJ(s2:(List ap))(s1:Int)(a:Int):Option (pa (Int×(List ap)) (Int×(List ap))):=
  (ir s2 a s1).bind fun f=>if(!f)=true then(some (.stop (s1,s2)))else((iu s1 a s2).bind fun c=>some (.next (a,c)))
def mE(a1:Int):(Int×(List ap))->Option (pa (Int×(List ap)) (Int×(List ap))):=fun(s1,s2)=>
  if(decide ((Dt .i64 ((Dt .i64 (2*s1))+1))>=a1))=true then(some (.stop (s1,s2)))else(if(decide ((Dt .i64 ((Dt .i64 (2*s1))+1))<0))=true then(some (.stop (s1,s2)))else(if(decide ((Dt .i64 ((Dt .i64 ((Dt .i64 (2*s1))+1))+1))<a1))=true then((ir s2 (Dt .i64 ((Dt .i64 ((Dt .i64 (2*s1))+1))+1)) (Dt .i64 ((Dt .i64 (2*s1))+1))).bind fun a=>if a=true then(eJ s2 s1 (Dt .i64 ((Dt .i64 ((Dt .i64 (2*s1))+1))+1)))else(eJ s2 s1 (Dt .i64 ((Dt .i64 (2*s1))+1))))else(eJ s2 s1 (Dt .i64 ((Dt .i64 (2*s1))+1)))))
def lP(a0:Int)(a1:Int)(e2:ai)(c:Int)(f:Int)(g:Bool)(j:al)(d1:(List ap)):Option (Bool×(List ap)):=
  (dE (mE a1) (a0,d1)).bind fun a=>some ((decide (a.1>a0)),a.2)
def oa(c:ai)(f:Int)(e2:Int)(g:Bool)(j:al)(d1:(List ap)):Option (ap×(List ap)):=
  (inO d1 (Dt .i64 ((d1.length:Int)-1))).bind fun _=>(pb d1 (Dt .i64 ((d1.length:Int)-1))).bind fun a=>(tF d1.length 0 (Dt .i64 ((d1.length:Int)-1))).bind fun _=>some (a,(d1.take ((Dt .i64 ((d1.length:Int)-1)):Int).toNat))
def lW(a:ai)(c:Int)(e2:Int)(f:Bool)(g:al)(d1:(List ap)):Option (ap×(List ap)):=
  (gR d1).bind fun j=>(iu 0 (Dt .i64 (j-1)) d1).bind fun l=>(lP 0 (Dt .i64 (j-1)) a c e2 f g l).bind fun p=>(oa a c e2 f g p.2).bind fun k=>some (k.1,k.2)
def dh(a0:Int)(a1:Int):Option (Int):=
  (qa .i64 (Dt .i64 (a1-a0)) 2).bind fun a=>some (Dt .i64 (a0+a))
def ca(a0:bB):Option (aa):=
  some (aa.mk a0.a0 a0.a1 a0.a2)
def js(a0:ah):Option (aa):=
  (b9 a0).bind fun f=>if(!f)=true then(some (aa.mk 0 0 0))else((bU a0.bh).bind fun a=>(bU a0.av).bind fun c=>(dh a.a0 c.a0).bind fun g=>(dh a.a1 c.a1).bind fun j=>(dh a.a2 c.a2).bind fun k=>(ca (bB.mk g j k)).bind fun l=>some l)
def mQ(a0:ai)(a1:aa):Option (Int×Int×Int):=
  (kf a0 (ah.mk a1 a1)).bind fun a=>if(a.2 != 0)=true then(some (0,0,a.2))else((ll a0 a.1).bind fun c=>some (c.1,c.2,0))
def fN(a0:aa)(a1:aa):Option (Int):=
  (cr a0.fX a1.fX).bind fun a=>(cr a0.fY a1.fY).bind fun c=>(cr a0.fZ a1.fZ).bind fun f=>(dB [a,c,f]).bind fun g=>some g
def lv(a0:ah)(j:ai)(e2:Int)(l:Int)(g:Bool)(c:al)(d1:(List ap)):Option (Int×Bool×al):=
  (js a0).bind fun f=>(mQ j f).bind fun a=>if(a.2.2 != 0)=true then(some (a.2.2,g,c))else(if(!g)=true then(some (0,true,(al.mk f a.1 a.2.1 0 (ah.mk (aa.mk 0 0 0) (aa.mk 0 0 0)))))else(if(decide (a.2.1<c.ci))=true then(some (0,true,(al.mk f a.1 a.2.1 0 (ah.mk (aa.mk 0 0 0) (aa.mk 0 0 0)))))else(if(a.2.1==c.ci)=true then((fN f c.b7).bind fun k=>if(decide (k<0))=true then(some (0,true,(al.mk f a.1 a.2.1 0 (ah.mk (aa.mk 0 0 0) (aa.mk 0 0 0)))))else(some (0,g,c)))else(some (0,g,c)))))
def jt(a0:ah):Option (Int):=
  (b9 a0).bind fun f=>if(!f)=true then(some 0)else((bU a0.av).bind fun a=>(bU a0.bh).bind fun c=>some (Dt .i64 ((Dt .i64 ((Dt .i64 (1*(Dt .i64 ((Dt .i64 (a.a0-c.a0))+1))))*(Dt .i64 ((Dt .i64 (a.a1-c.a1))+1))))*(Dt .i64 ((Dt .i64 (a.a2-c.a2))+1)))))
def fP(a0:ah):Option (ah×ah×Bool):=
  (jt a0).bind fun x=>if(decide (x<2))=true then(some ((ah.mk (aa.mk 0 0 0) (aa.mk 0 0 0)),(ah.mk (aa.mk 0 0 0) (aa.mk 0 0 0)),false))else((bU a0.bh).bind fun a=>(bU a0.av).bind fun c=>if(decide ((Dt .i64 (c.a1-a.a1))>(Dt .i64 (c.a0-a.a0))))=true then(if(decide ((Dt .i64 (c.a2-a.a2))>(Dt .i64 (c.a1-a.a1))))=true then((dh a.a2 c.a2).bind fun u=>(ca (bB.mk c.a0 c.a1 u)).bind fun y=>(ca (bB.mk a.a0 a.a1 (Dt .i64 (u+1)))).bind fun z=>some ((ah.mk a0.bh y),(ah.mk z a0.av),true))else((dh a.a1 c.a1).bind fun f=>(ca (bB.mk c.a0 f c.a2)).bind fun k=>(ca (bB.mk a.a0 (Dt .i64 (f+1)) a.a2)).bind fun l=>some ((ah.mk a0.bh k),(ah.mk l a0.av),true)))else(if(decide ((Dt .i64 (c.a2-a.a2))>(Dt .i64 (c.a0-a.a0))))=true then((dh a.a2 c.a2).bind fun g=>(ca (bB.mk c.a0 c.a1 g)).bind fun p=>(ca (bB.mk a.a0 a.a1 (Dt .i64 (g+1)))).bind fun q=>some ((ah.mk a0.bh p),(ah.mk q a0.av),true))else((dh a.a0 c.a0).bind fun j=>(ca (bB.mk j c.a1 c.a2)).bind fun r=>(ca (bB.mk (Dt .i64 (j+1)) a.a1 a.a2)).bind fun t=>some ((ah.mk a0.bh r),(ah.mk t a0.av),true))))
def mq(a0:ap)(c:ai)(e2:Int)(f:Int)(g:Bool)(j:al)(d1:(List ap)):Option ((List ap)):=
  (pG d1 [a0] 64).bind fun a=>some a
def jJ(a0:ap)(a:ai)(e2:Int)(c:Int)(f:Bool)(g:al)(d1:(List ap)):Option ((List ap)):=
  (mq a0 a e2 c f g d1).bind fun j=>(gR j).bind fun k=>(mZ (Dt .i64 (k-1)) a e2 c f g j).bind fun l=>some l
def mh(f:Int×Int)(a:Int)(c:(List ap)):Option (Int×Int×(List ap)):=
  some (f.2,a,c)
def iE(a0:ah)(c:ai)(e2:Int)(f:Int)(g:Bool)(j:al)(d1:(List ap)):Option (Int×Int×(List ap)):=
  (iP c a0).bind fun a=>if(a.2==0)=true then((jJ (ap.mk a0 a.1 e2) c e2 f g j d1).bind fun k=>mh a (Dt .i64 (e2+1)) k)else(mh a e2 d1)
def fw(j:ai)(g:Int)(e2:Int)(l:Bool)(p:al)(d1:(List ap)):Option (Int×Int×Int×Bool×al×(List ap)):=
  if(e2==3000)=true then(some (25,g,e2,l,p,d1))else((inO d1 0).bind fun _=>(pb d1 0).bind fun r=>(lW j g e2 l p d1).bind fun k=>(lv r.dC j g (Dt .i64 (e2+1)) l p k.2).bind fun a=>if(a.1 != 0)=true then(some (a.1,g,(Dt .i64 (e2+1)),a.2.1,a.2.2,k.2))else((fP r.dC).bind fun q=>if(!q.2.2)=true then(some (0,g,(Dt .i64 (e2+1)),a.2.1,a.2.2,k.2))else((iE q.1 j g (Dt .i64 (e2+1)) a.2.1 a.2.2 k.2).bind fun c=>if(c.1 != 0)=true then(some (c.1,c.2.1,(Dt .i64 (e2+1)),a.2.1,a.2.2,c.2.2))else((iE q.2.1 j c.2.1 (Dt .i64 (e2+1)) a.2.1 a.2.2 c.2.2).bind fun f=>some (f.1,f.2.1,(Dt .i64 (e2+1)),a.2.1,a.2.2,f.2.2)))))
def cu(a1:Int)(a0:ai):(Int×Int×Bool×al×(List ap))->Option (pa (Int×Int×Bool×al×(List ap)) (((List ap)×Int×Int×Bool×al)⊕((Option bZ)×Int))):=fun(f,g,j,k,c)=>
  (kx a1 a0 f g j k c).bind fun l=>if(!l)=true then((fw a0 f g j k c).bind fun a=>if(a.1 != 0)=true then(some (.stop (.inr (none,a.1))))else(some (.next (a.2.1,a.2.2.1,a.2.2.2.1,a.2.2.2.2.1,a.2.2.2.2.2))))else(some (.stop (.inl (c,f,g,j,k))))
def lZ(a0:ai)(a1:Int):Option ((Option bZ)×Int):=
  (gH a0).bind fun j=>if(j != 0)=true then(some (none,j))else(if(decide (a1<0))=true then(some (none,2))else((oC a0.bk a0 0 0 false (al.mk (aa.mk 0 0 0) 0 0 0 (ah.mk (aa.mk 0 0 0) (aa.mk 0 0 0)))).bind fun c=>if(c.1 != 0)=true then(some (none,c.1))else((dE (cu a1 a0) (c.2.2,0,false,(al.mk (aa.mk 0 0 0) 0 0 0 (ah.mk (aa.mk 0 0 0) (aa.mk 0 0 0))),c.2.1)).bind fun f=>match f with| .inl a=>(some ((some (bZ.mk a0 a.1 a.2.1 a.2.2.1 a.2.2.2.1 (al.mk (aa.mk a.2.2.2.2.b7.fX a.2.2.2.2.b7.fY a.2.2.2.2.b7.fZ) a.2.2.2.2.cb a.2.2.2.2.ci a.2.2.2.2.jW (ah.mk (aa.mk a.2.2.2.2.bX.bh.fX a.2.2.2.2.bX.bh.fY a.2.2.2.2.bX.bh.fZ) (aa.mk a.2.2.2.2.bX.av.fX a.2.2.2.2.bX.av.fY a.2.2.2.2.bX.av.fZ))))),0))| .inr g=>(some g))))
def kZ(a0:ah)(a1:ah):Option (ah):=
  (b9 a0).bind fun k=>if(!k)=true then(some (ah.mk (aa.mk 0 0 0) (aa.mk 0 0 0)))else((b9 a1).bind fun l=>if(!l)=true then(some (ah.mk (aa.mk 0 0 0) (aa.mk 0 0 0)))else((bU a0.bh).bind fun a=>(bU a0.av).bind fun c=>(bU a1.bh).bind fun f=>(bU a1.av).bind fun g=>(ca (bB.mk (if f.a0<a.a0 then f.a0 else a.a0) (if f.a1<a.a1 then f.a1 else a.a1) (if f.a2<a.a2 then f.a2 else a.a2))).bind fun p=>(ca (bB.mk (if g.a0>c.a0 then g.a0 else c.a0) (if g.a1>c.a1 then g.a1 else c.a1) (if g.a2>c.a2 then g.a2 else c.a2))).bind fun j=>some (ah.mk p j)))
def dN(k:bZ):(Int×Int×ah)->Option (pa (Int×Int×ah) (Int×ah)):=fun(f,c,g)=>
  if(decide (f<(k.lV.length:Int)))=true then((pb k.lV f).bind fun a=>if(decide (a.bY<k.cg.ci))=true then((kZ g a.dC).bind fun j=>some (.next ((Dt .i64 (f+1)),(if a.bY<c then a.bY else c),j)))else(some (.next ((Dt .i64 (f+1)),(if a.bY<c then a.bY else c),g))))else(some (.stop (c,g)))
def jj(a0:ai)(a1:Int):Option (al×Int):=
  (lZ a0 a1).bind fun f=>optC f.1 (if(f.2 != 0)=true then(some ((al.mk (aa.mk 0 0 0) 0 0 0 (ah.mk (aa.mk 0 0 0) (aa.mk 0 0 0))),f.2))else(none)) (fun c=>if(f.2 != 0)=true then(some ((al.mk (aa.mk 0 0 0) 0 0 0 (ah.mk (aa.mk 0 0 0) (aa.mk 0 0 0))),f.2))else((dE (dN c) (0,c.cg.ci,(ah.mk c.cg.b7 c.cg.b7))).bind fun a=>some ((al.mk c.cg.b7 c.cg.cb c.cg.ci a.1 (ah.mk (aa.mk a.2.bh.fX a.2.bh.fY a.2.bh.fZ) (aa.mk a.2.av.fX a.2.av.fY a.2.av.fZ))),0)))
def eL:(Int×(List Int))->Option (pa (Int×(List Int)) ((List Int))):=fun(s2,s3)=>
  if(decide (s2>0))=true then((tX s2 1073741824).bind fun a=>(pG s3 [a] 8).bind fun c=>some (.next ((pJ .i64 s2 30),c)))else(some (.stop s3))
def oS(a0:Int):Option ((List Int)×Int):=
  if(decide (a0<0))=true then(some (([]:(List Int)),2))else((dE (eL) (a0,([]:(List Int)))).bind fun a=>some (a,0))
def l5(a0:Int):Option (Bool):=
  if(decide (a0<0))=true then(some true)else(some (decide (a0>=1073741824)))
def ej(a0:(List Int)):Int->Option (pa (Int) ((Unit)⊕(Int))):=fun s1=>
  if(decide (s1<(a0.length:Int)))=true then((pb a0 s1).bind fun a=>(l5 a).bind fun c=>if c=true then(some (.stop (.inr s1)))else(some (.next (Dt .i64 (s1+1)))))else(some (.stop (.inl ())))
def eX(a0:(List Int)):Option (Int):=
  (dE (ej a0) 0).bind fun c=>match c with| .inl _=>(some (-1))| .inr a=>(some a)
def cQ(a0:(List Int)):Option (Bool):=
  (eX a0).bind fun a=>some (decide (a>=0))
def jN(a0:(List Int)):Option (Bool):=
  if(decide ((a0.length:Int)>64))=true then(some false)else(if(decide ((a0.length:Int)>0))=true then((pb a0 (Dt .i64 ((a0.length:Int)-1))).bind fun a=>if(a==0)=true then(some false)else((cQ a0).bind fun c=>some (!c)))else((cQ a0).bind fun f=>some (!f)))
def nH(a0:(List Int))(a1:(List Int)):Option (Bool):=
  (jN a0).bind fun a=>if a=true then((jN a1).bind fun c=>some c)else(some false)
def iR(a0:(List Int))(a1:Int):Option (Int):=
  if(decide (a1>=(a0.length:Int)))=true then(some 0)else((pb a0 a1).bind fun a=>some a)
def lm:(List Int)->Option (pa ((List Int)) ((List Int))):=fun s1=>
  if(decide ((s1.length:Int)>0))=true then((pb s1 (Dt .i64 ((s1.length:Int)-1))).bind fun a=>if(a==0)=true then((ue s1 0 (Dt .i64 ((s1.length:Int)-1))).bind fun c=>some (.next c))else(some (.stop s1)))else(some (.stop s1))
def gJ(a0:(List Int)):Option ((List Int)):=
  (dE (lm) a0).bind fun a=>some a
def dm(a1:(List Int))(s2:Int)(p:Int):(Int×Int×(List Int))->Option (pa (Int×Int×(List Int)) (Int×(List Int))):=fun(j,c,a)=>
  if(decide (c<(Dt .i64 ((a1.length:Int)+1))))=true then(if(decide ((Dt .i64 (s2+c))<(a.length:Int)))=true then((inO a (Dt .i64 (s2+c))).bind fun _=>(pb a (Dt .i64 (s2+c))).bind fun f=>(iR a1 c).bind fun g=>(tX (Dt .i64 (j+(Dt .i64 (f+(Dt .i64 (p*g)))))) 1073741824).bind fun k=>(inO a (Dt .i64 (s2+c))).bind fun _=>(tH a (Dt .i64 (s2+c)) k).bind fun l=>some (.next ((pJ .i64 (Dt .i64 (j+(Dt .i64 (f+(Dt .i64 (p*g)))))) 30),(Dt .i64 (c+1)),l)))else(some (.next (j,(Dt .i64 (c+1)),a))))else(some (.stop (s2,a)))
def dG(a0:(List Int))(a1:(List Int)):(Int×(List Int))->Option (pa (Int×(List Int)) ((List Int))):=fun(s2,s3)=>
  if(decide (s2<(a0.length:Int)))=true then((pb a0 s2).bind fun c=>(dE (dm a1 s2 c) (0,0,s3)).bind fun a=>some (.next ((Dt .i64 (a.1+1)),a.2)))else(some (.stop s3))
def gB(a0:(List Int))(a1:(List Int)):Option ((List Int)):=
  (mkO (Dt .i64 ((a0.length:Int)+(a1.length:Int))) 0 8).bind fun f=>(dE (dG a0 a1) (0,f)).bind fun a=>(gJ a).bind fun c=>some c
def fq(a0:(List Int)):Option ((List Int)×Int):=
  (gJ a0).bind fun a=>if(decide ((a.length:Int)>64))=true then(some (([]:(List Int)),8))else(some (a,0))
def nat_Mul(a0:(List Int))(a1:(List Int)):Option ((List Int)×Int):=
  (nH a0 a1).bind fun c=>if(!c)=true then(some (([]:(List Int)),1))else((gB a0 a1).bind fun f=>(fq f).bind fun a=>some (a.1,a.2))
def dz(a0:Int):Option ((List Int)):=
  (oS (if(Dt .i64 (0-a0))>a0 then(Dt .i64 (0-a0))else a0)).bind fun a=>(nat_Mul a.1 a.1).bind fun c=>some c.1
def fm(a1:(List Int))(a0:(List Int)):(Int×Int×(List Int))->Option (pa (Int×Int×(List Int)) ((List Int))):=fun(s3,c,j)=>
  if(decide (c<(Dt .i64 ((if(a1.length:Int)>(a0.length:Int)then(a1.length:Int)else(a0.length:Int))+1))))=true then((iR a0 c).bind fun k=>(iR a1 c).bind fun a=>(tX (Dt .i64 (s3+(Dt .i64 (k+a)))) 1073741824).bind fun f=>(pG j [f] 8).bind fun g=>some (.next ((pJ .i64 (Dt .i64 (s3+(Dt .i64 (k+a)))) 30),(Dt .i64 (c+1)),g)))else(some (.stop j))
def nat_Add(a0:(List Int))(a1:(List Int)):Option ((List Int)×Int):=
  (nH a0 a1).bind fun f=>if(!f)=true then(some (([]:(List Int)),1))else((dE (fm a1 a0) (0,0,([]:(List Int)))).bind fun c=>(fq c).bind fun a=>some (a.1,a.2))
def gd(a0:bB)(a1:Int)(a2:Int):Option ((List Int)):=
  (dz (Dt .i64 ((Dt .i64 ((Dt .i64 (a0.a0*a2))*a2))-(Dt .i64 ((Dt .i64 (a0.a2*a1))*a1))))).bind fun a=>(dz (Dt .i64 ((Dt .i64 (a0.a1*a1))*a2))).bind fun c=>(nat_Add a c).bind fun f=>some f.1
def lf(a0:bq)(a1:Int)(a2:Int):Option (bo×Bool):=
  if(a0.ct==0)=true then((dz a0.bI.a0).bind fun f=>(dz a0.bG.a0).bind fun g=>some ((bo.mk f g),true))else(if(a0.ct==1)=true then((gd a0.bI a1 a2).bind fun j=>(gd a0.bG a1 a2).bind fun c=>some ((bo.mk j c),(decide ((c.length:Int)>0))))else((da a0.cf).bind fun k=>(dz k).bind fun l=>(vB .i64 1 a0.cn).bind fun p=>(dz p).bind fun a=>some ((bo.mk l a),true)))
def fo(a0:bo):Option (Bool):=
  (jN a0.bI).bind fun a=>if a=true then((jN a0.bG).bind fun c=>if c=true then(some (decide ((a0.bG.length:Int)>0)))else(some false))else(some false)
def n9(a0:bo)(a1:bo):Option (bo×Int):=
  (fo a0).bind fun f=>if(!f)=true then(some ((bo.mk [] []),1))else((fo a1).bind fun g=>if(!g)=true then(some ((bo.mk [] []),1))else((gB a0.bI a1.bI).bind fun j=>(fq j).bind fun a=>(gB a0.bG a1.bG).bind fun k=>(fq k).bind fun c=>if(a.2 != 0)=true then(some ((bo.mk [] []),8))else(if(c.2 != 0)=true then(some ((bo.mk [] []),8))else(some ((bo.mk a.1 c.1),0)))))
def dv(a0:bp)(a1:Int)(a2:Int):(Int×(List Int)×(List Int))->Option (pa (Int×(List Int)×(List Int)) (((List Int)×(List Int))⊕(bo×Int))):=fun(f,j,k)=>
  if(decide (f<(a0.bD.length:Int)))=true then((pb a0.bD f).bind fun g=>(lf g a1 a2).bind fun c=>if(!c.2)=true then(some (.stop (.inr ((bo.mk [] []),11))))else((n9 (bo.mk j k) c.1).bind fun a=>if(a.2 != 0)=true then(some (.stop (.inr ((bo.mk [] []),a.2))))else(some (.next ((Dt .i64 (f+1)),a.1.bI,a.1.bG)))))else(some (.stop (.inl (j,k))))
def ld(a0:bp)(a1:Int)(a2:Int):Option (bo×Int):=
  (eW a0).bind fun g=>if(!g)=true then(some ((bo.mk [] []),1))else((cx a1 0 65536).bind fun j=>if(!j)=true then(some ((bo.mk [] []),2))else((cx a2 1 65536).bind fun k=>if(!k)=true then(some ((bo.mk [] []),2))else((dE (dv a0 a1 a2) (0,[1],[1])).bind fun c=>match c with| .inl a=>(some ((bo.mk a.1 a.2),0))| .inr f=>(some f))))
def df(a0:Int)(c:Int)(a:Int):Option (Int):=
  some (Dt .i64 ((Dt .i64 (256*a0))+a))
def cH(a0:Int)(a:Int)(c:Int):Option (Int):=
  if(decide ((pJ .i64 (Dt .i64 (a*a)) 30)>=2147483648))=true then((qa .i64 (pJ .i64 (Dt .i64 (a*a)) 30) 2).bind fun f=>df a0 f (Dt .i64 ((Dt .i64 (c*2))+1)))else(df a0 (pJ .i64 (Dt .i64 (a*a)) 30) (Dt .i64 (c*2)))
def cJ(a0:Int)(a:Int)(c:Int):Option (Int):=
  if(decide ((pJ .i64 (Dt .i64 (a*a)) 30)>=2147483648))=true then((qa .i64 (pJ .i64 (Dt .i64 (a*a)) 30) 2).bind fun f=>cH a0 f (Dt .i64 ((Dt .i64 (c*2))+1)))else(cH a0 (pJ .i64 (Dt .i64 (a*a)) 30) (Dt .i64 (c*2)))
def cK(a0:Int)(a:Int)(c:Int):Option (Int):=
  if(decide ((pJ .i64 (Dt .i64 (a*a)) 30)>=2147483648))=true then((qa .i64 (pJ .i64 (Dt .i64 (a*a)) 30) 2).bind fun f=>cJ a0 f (Dt .i64 ((Dt .i64 (c*2))+1)))else(cJ a0 (pJ .i64 (Dt .i64 (a*a)) 30) (Dt .i64 (c*2)))
def cL(a0:Int)(a:Int)(f:Int):Option (Int):=
  if(decide ((pJ .i64 (Dt .i64 (a*a)) 30)>=2147483648))=true then((qa .i64 (pJ .i64 (Dt .i64 (a*a)) 30) 2).bind fun c=>cK a0 c (Dt .i64 ((Dt .i64 (f*2))+1)))else(cK a0 (pJ .i64 (Dt .i64 (a*a)) 30) (Dt .i64 (f*2)))
def cM(a0:Int)(a:Int)(f:Int):Option (Int):=
  if(decide ((pJ .i64 (Dt .i64 (a*a)) 30)>=2147483648))=true then((qa .i64 (pJ .i64 (Dt .i64 (a*a)) 30) 2).bind fun c=>cL a0 c (Dt .i64 ((Dt .i64 (f*2))+1)))else(cL a0 (pJ .i64 (Dt .i64 (a*a)) 30) (Dt .i64 (f*2)))
def cN(a0:Int)(a:Int)(f:Int):Option (Int):=
  if(decide ((pJ .i64 (Dt .i64 (a*a)) 30)>=2147483648))=true then((qa .i64 (pJ .i64 (Dt .i64 (a*a)) 30) 2).bind fun c=>cM a0 c (Dt .i64 ((Dt .i64 (f*2))+1)))else(cM a0 (pJ .i64 (Dt .i64 (a*a)) 30) (Dt .i64 (f*2)))
def cO(a0:Int)(a:Int)(f:Int):Option (Int):=
  if(decide ((pJ .i64 (Dt .i64 (a*a)) 30)>=2147483648))=true then((qa .i64 (pJ .i64 (Dt .i64 (a*a)) 30) 2).bind fun c=>cN a0 c (Dt .i64 ((Dt .i64 (f*2))+1)))else(cN a0 (pJ .i64 (Dt .i64 (a*a)) 30) (Dt .i64 (f*2)))
def dj(a0:Int)(a1:Int):Option (Int):=
  if(decide ((pJ .i64 (Dt .i64 (a1*a1)) 30)>=2147483648))=true then((qa .i64 (pJ .i64 (Dt .i64 (a1*a1)) 30) 2).bind fun a=>cO a0 a 1)else(cO a0 (pJ .i64 (Dt .i64 (a1*a1)) 30) 0)
def eK(a0:Int):Option (Int×Int):=
  if(decide (a0<1))=true then(some (0,2))else((mK (Dt .u64 a0)).bind fun a=>if(decide ((Dt .i64 (a-1))<=30))=true then((vB .i64 a0 (Dt .i64 (30-(Dt .i64 (a-1))))).bind fun c=>(dj (Dt .i64 (a-1)) c).bind fun f=>some (f,0))else((yG .i64 a0 (Dt .i64 ((Dt .i64 (a-1))-30))).bind fun g=>(dj (Dt .i64 (a-1)) g).bind fun j=>some (j,0)))
def dV(a0:(List Int)):Option (Int×Int):=
  (jN a0).bind fun f=>if(!f)=true then(some (0,1))else(if(decide ((Dt .i64 ((a0.length:Int)-1))<0))=true then(some (0,2))else(if((Dt .i64 ((a0.length:Int)-1))==0)=true then((pb a0 0).bind fun g=>(eK g).bind fun a=>some (a.1,a.2))else((pb a0 (Dt .i64 ((a0.length:Int)-1))).bind fun j=>(pb a0 (Dt .i64 ((Dt .i64 ((a0.length:Int)-1))-1))).bind fun k=>(eK (orI .i64 (uq .i64 j 30) k)).bind fun c=>some ((Dt .i64 (c.1+(Dt .i64 (7680*(Dt .i64 ((Dt .i64 ((a0.length:Int)-1))-1)))))),c.2))))
def kF(a0:bC)(a1:bp)(a2:Int):Option (Int×Int):=
  (ld a1 a0.bI a0.bG).bind fun a=>if(a.2 != 0)=true then(some (0,a.2))else((dV a.1.bI).bind fun f=>if(f.2 != 0)=true then(some (0,24))else((dV a.1.bG).bind fun c=>if(c.2 != 0)=true then(some (0,c.2))else((eK a2).bind fun g=>some ((Dt .i64 ((Dt .i64 ((Dt .i64 (2*g.1))+c.1))-f.1)),g.2))))
def ip(a0:Int):Option (Int):=
  some (pJ .i64 a0 1)
def kD(a0:Int):Option (Int×Bool):=
  if(decide (a0>=(-16777216)))=true then(some ((Dt .i64 (a0*30103)),(decide (a0<=16777216))))else(some ((Dt .i64 (a0*30103)),false))
def gG(a0:Int):Option (Int):=
  (kD a0).bind fun a=>if(!a.2)=true then(some 0)else((qa .i64 a.1 256000).bind fun c=>(tX a.1 256000).bind fun f=>if(decide (f<0))=true then(some (Dt .i64 (c-1)))else(some c))
def kc(a0:Int):Option (Int):=
  (gG (Dt .i64 (0-a0))).bind fun a=>some (Dt .i64 (0-a))
def ib(a0:bC)(a1:bp)(a2:Int)(a3:Int)(a4:Int):Option (az×Int):=
  (cP a0).bind fun k=>if(!k)=true then(some ((az.mk 0 0),27))else(if(decide (a2<1))=true then(some ((az.mk 0 0),2))else(if(decide (a2>1073741823))=true then(some ((az.mk 0 0),2))else((kF a0 a1 a2).bind fun a=>if(a.2 != 0)=true then(some ((az.mk 0 0),a.2))else((ek a0.bF a3 a4).bind fun c=>if(c.2.2 != 0)=true then(some ((az.mk 0 0),c.2.2))else((ip (Dt .i64 (a.1-2))).bind fun l=>(gG l).bind fun f=>(ip (Dt .i64 ((Dt .i64 (0-a.1))-6))).bind fun g=>(kc (Dt .i64 (0-g))).bind fun j=>some ((az.mk (Dt .i64 (f+c.1)) (Dt .i64 (j+c.2.1))),0))))))
def dl(a0:bP)(a2:ah)(a1:aj):(Int×(List az))->Option (pa (Int×(List az)) ((List az))):=fun(s1,s2)=>
  if(decide (s1<(a0.nY.length:Int)))=true then((pb a0.nY s1).bind fun g=>(pb a0.fepochs s1).bind fun j=>(pb a0.fpicks s1).bind fun k=>(eI a2 g.bv).bind fun l=>(gw a2 g.bv).bind fun c=>(ib a1.bN j.bQ k.bK l c).bind fun a=>if(a.2==0)=true then((pG s2 [a.1] 16).bind fun f=>some (.next ((Dt .i64 (s1+1)),f)))else(some (.next ((Dt .i64 (s1+1)),s2))))else(some (.stop s2))
def gA(a0:bP)(a1:aj)(a2:ah):Option ((List az)):=
  (dE (dl a0 a2 a1) (0,([]:(List az)))).bind fun a=>some a
def gz(a0:az):Option (Bool):=
  some (decide (a0.bh>a0.av))
def cX(a0:(List az)):Int->Option (pa (Int) ((Unit)⊕(Int))):=fun s1=>
  if(decide (s1<(a0.length:Int)))=true then((pb a0 s1).bind fun a=>(gz a).bind fun c=>if c=true then(some (.stop (.inr s1)))else(some (.next (Dt .i64 (s1+1)))))else(some (.stop (.inl ())))
def d6(a0:(List az)):Option (Int):=
  (dE (cX a0) 0).bind fun c=>match c with| .inl _=>(some (-1))| .inr a=>(some a)
def cW(a0:(List az)):Option (Bool):=
  (d6 a0).bind fun a=>some (decide (a>=0))
def kd(a0:az):Option (Int):=
  some a0.bh
def d8(a0:(List az)):(Int×(List Int))->Option (pa (Int×(List Int)) ((List Int))):=fun(s1,s2)=>
  if(decide (s1<(a0.length:Int)))=true then((pb a0 s1).bind fun a=>(kd a).bind fun c=>(pG s2 [c] 8).bind fun f=>some (.next ((Dt .i64 (s1+1)),f)))else(some (.stop s2))
def hJ(a0:(List az)):Option (Int):=
  (dE (d8 a0) (0,([]:(List Int)))).bind fun f=>(sY f).bind fun a=>(qa .i64 (Dt .i64 ((a.length:Int)-1)) 2).bind fun c=>(inO a c).bind fun _=>(pb a c).bind fun g=>some g
def ke(a0:az):Option (Int):=
  some a0.av
def d9(a0:(List az)):(Int×(List Int))->Option (pa (Int×(List Int)) ((List Int))):=fun(s1,s2)=>
  if(decide (s1<(a0.length:Int)))=true then((pb a0 s1).bind fun a=>(ke a).bind fun c=>(pG s2 [c] 8).bind fun f=>some (.next ((Dt .i64 (s1+1)),f)))else(some (.stop s2))
def hM(a0:(List az)):Option (Int):=
  (dE (d9 a0) (0,([]:(List Int)))).bind fun f=>(sY f).bind fun a=>(qa .i64 (Dt .i64 ((a.length:Int)-1)) 2).bind fun c=>(inO a c).bind fun _=>(pb a c).bind fun g=>some g
def hZ(a0:(List az)):Option (az×Int):=
  if((a0.length:Int)==0)=true then(some ((az.mk 0 0),24))else((cW a0).bind fun a=>if a=true then(some ((az.mk 0 0),1))else((hJ a0).bind fun c=>(hM a0).bind fun f=>some ((az.mk c f),0)))
def ky(a0:aj)(a1:ac)(a2:(List ak)):Option (bu×Int):=
  (ew a0 a1 a2).bind fun a=>if(a.2 != 0)=true then(some ((bu.mk [] (al.mk (aa.mk 0 0 0) 0 0 0 (ah.mk (aa.mk 0 0 0) (aa.mk 0 0 0))) (az.mk 0 0) 0),a.2))else((eQ a.1 a0).bind fun f=>if(f.2 != 0)=true then(some ((bu.mk [] (al.mk (aa.mk 0 0 0) 0 0 0 (ah.mk (aa.mk 0 0 0) (aa.mk 0 0 0))) (az.mk 0 0) 0),f.2))else((jj f.1 a0.bz).bind fun c=>if(c.2 != 0)=true then(some ((bu.mk [] (al.mk (aa.mk 0 0 0) 0 0 0 (ah.mk (aa.mk 0 0 0) (aa.mk 0 0 0))) (az.mk 0 0) 0),c.2))else((gA a.1 a0 c.1.bX).bind fun g=>if(decide ((g.length:Int)>0))=true then((hZ g).bind fun j=>if(j.2 != 0)=true then(some ((bu.mk [] (al.mk (aa.mk 0 0 0) 0 0 0 (ah.mk (aa.mk 0 0 0) (aa.mk 0 0 0))) (az.mk 0 0) 0),j.2))else(some ((bu.mk a.1.fpicks c.1 j.1 (g.length:Int)),0)))else(some ((bu.mk a.1.fpicks c.1 (az.mk 0 0) 0),0)))))
def dX(a0:br):Option (Bool):=
  (fu a0.bv).bind fun a=>if a=true then(if(decide (a0.bV>=0))=true then(if(decide (a0.bV<=a0.ch))=true then(if(decide (a0.ch<=18014398509481984))=true then(if(decide (a0.d7>=1))=true then(some (decide (a0.d7<=100)))else(some false))else(some false))else(some false))else(some false))else(some false)
def gD(a0:ai):Int->Option (pa (Int) ((Unit)⊕(Int))):=fun c=>
  if(decide (c<(a0.bT.length:Int)))=true then((pb a0.bT c).bind fun f=>(dX f).bind fun g=>if(!g)=true then(some (.stop (.inr 23)))else((pb a0.bT c).bind fun j=>(eV a0.bJ a0.bk j.bv).bind fun a=>if(a.2.2 != 0)=true then(some (.stop (.inr a.2.2)))else(some (.next (Dt .i64 (c+1))))))else(some (.stop (.inl ())))
def iD(a0:ai):Option (Int):=
  (cm a0.bk).bind fun f=>if(!f)=true then(some 20)else((cS a0.bJ).bind fun g=>if(g != 0)=true then(some 21)else(if((a0.bT.length:Int)==0)=true then(some 24)else(if(decide ((a0.bT.length:Int)>64))=true then(some 8)else(if(decide (a0.dL<1))=true then(some 2)else(if(decide (a0.dL>1099511627776))=true then(some 2)else((dE (gD a0) 0).bind fun a=>match a with| .inl _=>(some 0)| .inr c=>(some c)))))))
def iz(a0:ah)(a1:aa):Option (Bool):=
  (cm a0).bind fun a=>if a=true then(if(decide (a1.fX>=a0.bh.fX))=true then(if(decide (a1.fX<=a0.av.fX))=true then(if(decide (a1.fY>=a0.bh.fY))=true then(if(decide (a1.fY<=a0.av.fY))=true then(if(decide (a1.fZ>=a0.bh.fZ))=true then(some (decide (a1.fZ<=a0.av.fZ)))else(some false))else(some false))else(some false))else(some false))else(some false))else(some false)
def lF(a0:ah)(a1:ah):Option (Bool):=
  (cm a0).bind fun a=>if a=true then((iz a1 a0.bh).bind fun c=>if c=true then((iz a1 a0.av).bind fun f=>some f)else(some false))else(some false)
def ni(a0:aw)(a1:ah)(a2:br):Option (bw×Int):=
  (cS a0).bind fun c=>if(c != 0)=true then(some ((bw.mk 0 0),21))else((cm a1).bind fun f=>if(!f)=true then(some ((bw.mk 0 0),20))else((dX a2).bind fun g=>if(!g)=true then(some ((bw.mk 0 0),23))else((eV a0 a1 a2.bv).bind fun a=>if(a.2.2 != 0)=true then(some ((bw.mk 0 0),a.2.2))else(some ((bw.mk (Dt .i64 (a2.bV-a.2.1)) (Dt .i64 (a2.ch-a.1))),0)))))
def ff(a0:ai)(a1:ah):(Int×(List bw))->Option (pa (Int×(List bw)) ((List bw))):=fun(a,j)=>
  if(decide (a<(a0.bT.length:Int)))=true then((pb a0.bT a).bind fun c=>(ni a0.bJ a1 c).bind fun f=>(pG j [f.1] 16).bind fun g=>some (.next ((Dt .i64 (a+1)),g)))else(some (.stop j))
def lr(a0:ai)(a1:ah):Option ((List bw)×Int):=
  (iD a0).bind fun c=>if(c != 0)=true then(some (([]:(List bw)),c))else((lF a1 a0.bk).bind fun f=>if(!f)=true then(some (([]:(List bw)),20))else((dE (ff a0 a1) (0,([]:(List bw)))).bind fun a=>some (a,0)))
def kl(a0:bw)(a1:Int):Option (Int):=
  some (if(Dt .i64 (a1-a0.fTo))>(if(Dt .i64 (a0.b8-a1))>0 then(Dt .i64 (a0.b8-a1))else 0)then(Dt .i64 (a1-a0.fTo))else(if(Dt .i64 (a0.b8-a1))>0 then(Dt .i64 (a0.b8-a1))else 0))
def gZ(a1:(List bw))(a0:ai)(a2:Int):(Int×Int)->Option (pa (Int×Int) (Int)):=fun(s1,s2)=>
  if(decide (s2<(a1.length:Int)))=true then((pb a0.bT s2).bind fun c=>(pb a1 s2).bind fun f=>(kl f a2).bind fun a=>some (.next ((Dt .i64 (s1+(Dt .i64 (c.d7*(if a<a0.dL then a else a0.dL))))),(Dt .i64 (s2+1)))))else(some (.stop s1))
def iC(a0:ai)(a1:(List bw))(a2:Int):Option (Int):=
  (dE (gZ a1 a0 a2) (0,0)).bind fun a=>some a
def iB(f:Int)(a:Int)(c:Int):Option (pa (Int×Int×Int) (Int×Int)):=
  some (.next (a,c,(Dt .i64 (f+1))))
def f8(a0:ai)(a1:(List bw))(c:bw)(j:Int)(g:Int)(a:Int):Option (pa (Int×Int×Int) (Int×Int)):=
  (iC a0 a1 c.fTo).bind fun f=>if(decide (f<a))=true then(iB j c.fTo f)else(if(f==a)=true then(if(decide (c.fTo<g))=true then(iB j c.fTo f)else(iB j g a))else(iB j g a))
def f9(a1:(List bw))(a0:ai):(Int×Int×Int)->Option (pa (Int×Int×Int) (Int×Int)):=fun(k,j,g)=>
  if(decide (g<(a1.length:Int)))=true then((pb a1 g).bind fun a=>(pb a1 g).bind fun c=>(iC a0 a1 a.b8).bind fun f=>if(decide (f<j))=true then(f8 a0 a1 c g a.b8 f)else(if(f==j)=true then(if(decide (a.b8<k))=true then(f8 a0 a1 c g a.b8 f)else(f8 a0 a1 c g k j))else(f8 a0 a1 c g k j)))else(some (.stop (k,j)))
def mc(a0:ai)(a1:(List bw)):Option (Int×Int):=
  (pb a1 0).bind fun c=>(pb a1 0).bind fun f=>(iC a0 a1 f.b8).bind fun g=>(dE (f9 a1 a0) (c.b8,g,0)).bind fun a=>some (a.1,a.2)
def gm(a0:ai)(a1:ah):Option (Int×Int):=
  (lr a0 a1).bind fun a=>if(a.2 != 0)=true then(some (0,a.2))else((mc a0 a.1).bind fun c=>some (c.2,0))
def md(a0:(List bn)):(Int×Int)->Option (pa (Int×Int) (Int)):=fun(s1,s2)=>
  if(decide (s2<(a0.length:Int)))=true then((pb a0 s2).bind fun c=>if(!c.eY)=true then(if(decide (s1<0))=true then(some (.next (s2,(Dt .i64 (s2+1)))))else((pb a0 s2).bind fun f=>(pb a0 s1).bind fun a=>if(decide (f.bY<a.bY))=true then(some (.next (s2,(Dt .i64 (s2+1)))))else(some (.next (s1,(Dt .i64 (s2+1)))))))else(some (.next (s1,(Dt .i64 (s2+1))))))else(some (.stop s1))
def nj(a0:(List bn)):Option (Int):=
  (dE (md a0) ((-1),0)).bind fun a=>some a
def iV(a0:Int)(a1:Int):Option (Int):=
  (qa .i64 (Dt .i64 (a1-a0)) 2).bind fun a=>some (Dt .i64 (a0+a))
def iU(a0:ah):Option (aa):=
  (cm a0).bind fun a=>if(!a)=true then(some (aa.mk 0 0 0))else((iV a0.bh.fX a0.av.fX).bind fun c=>(iV a0.bh.fY a0.av.fY).bind fun f=>(iV a0.bh.fZ a0.av.fZ).bind fun g=>some (aa.mk c f g))
def ref26_One(a0:aa):Option (ah):=
  some (ah.mk a0 a0)
def oW(a0:ai)(a1:aa):Option (Int×Int×Int):=
  (ref26_One a1).bind fun f=>(lr a0 f).bind fun a=>if(a.2 != 0)=true then(some (0,0,a.2))else((mc a0 a.1).bind fun c=>some (c.1,c.2,0))
def lE(a0:ah):Option (Int):=
  (cm a0).bind fun a=>if(!a)=true then(some 0)else(some (Dt .i64 ((Dt .i64 ((Dt .i64 ((Dt .i64 (a0.av.fX-a0.bh.fX))+1))*(Dt .i64 ((Dt .i64 (a0.av.fY-a0.bh.fY))+1))))*(Dt .i64 ((Dt .i64 (a0.av.fZ-a0.bh.fZ))+1)))))
def lq(a0:ah):Option (ah×ah×Bool):=
  (lE a0).bind fun c=>if(decide (c<2))=true then(some ((ah.mk (aa.mk 0 0 0) (aa.mk 0 0 0)),(ah.mk (aa.mk 0 0 0) (aa.mk 0 0 0)),false))else((iU a0).bind fun a=>if(decide ((Dt .i64 (a0.av.fX-a0.bh.fX))>=(Dt .i64 (a0.av.fY-a0.bh.fY))))=true then(if(decide ((Dt .i64 (a0.av.fX-a0.bh.fX))>=(Dt .i64 (a0.av.fZ-a0.bh.fZ))))=true then(some ((ah.mk a0.bh (aa.mk a.fX a0.av.fY a0.av.fZ)),(ah.mk (aa.mk (Dt .i64 (a.fX+1)) a0.bh.fY a0.bh.fZ) a0.av),true))else(if(decide ((Dt .i64 (a0.av.fY-a0.bh.fY))>=(Dt .i64 (a0.av.fZ-a0.bh.fZ))))=true then(some ((ah.mk a0.bh (aa.mk a0.av.fX a.fY a0.av.fZ)),(ah.mk (aa.mk a0.bh.fX (Dt .i64 (a.fY+1)) a0.bh.fZ) a0.av),true))else(some ((ah.mk a0.bh (aa.mk a0.av.fX a0.av.fY a.fZ)),(ah.mk (aa.mk a0.bh.fX a0.bh.fY (Dt .i64 (a.fZ+1))) a0.av),true))))else(if(decide ((Dt .i64 (a0.av.fY-a0.bh.fY))>=(Dt .i64 (a0.av.fZ-a0.bh.fZ))))=true then(some ((ah.mk a0.bh (aa.mk a0.av.fX a.fY a0.av.fZ)),(ah.mk (aa.mk a0.bh.fX (Dt .i64 (a.fY+1)) a0.bh.fZ) a0.av),true))else(some ((ah.mk a0.bh (aa.mk a0.av.fX a0.av.fY a.fZ)),(ah.mk (aa.mk a0.bh.fX a0.bh.fY (Dt .i64 (a.fZ+1))) a0.av),true))))
def kN(a0:Int)(a1:Int):Option (Int):=
  if(decide (a0<a1))=true then(some (-1))else(if(decide (a0>a1))=true then(some 1)else(some 0))
def jn(a0:aa)(a1:aa):Option (Int):=
  (kN a0.fX a1.fX).bind fun a=>if(a != 0)=true then(some a)else((kN a0.fY a1.fY).bind fun c=>if(c != 0)=true then(some c)else((kN a0.fZ a1.fZ).bind fun f=>some f))
def nh(a0:ah)(a1:ah):Option (ah):=
  (cm a0).bind fun a=>if(!a)=true then(some (ah.mk (aa.mk 0 0 0) (aa.mk 0 0 0)))else((cm a1).bind fun c=>if(!c)=true then(some (ah.mk (aa.mk 0 0 0) (aa.mk 0 0 0)))else(some (ah.mk (aa.mk (if a1.bh.fX<a0.bh.fX then a1.bh.fX else a0.bh.fX) (if a1.bh.fY<a0.bh.fY then a1.bh.fY else a0.bh.fY) (if a1.bh.fZ<a0.bh.fZ then a1.bh.fZ else a0.bh.fZ)) (aa.mk (if a1.av.fX>a0.av.fX then a1.av.fX else a0.av.fX) (if a1.av.fY>a0.av.fY then a1.av.fY else a0.av.fY) (if a1.av.fZ>a0.av.fZ then a1.av.fZ else a0.av.fZ)))))
def cj(c:(List bn))(p:Int)(a0:ai)(x:Int)(f:Int)(g:Int)(j:Int)(k:Int)(l:Int):Option (pa (Int×(List bn)×Int×Int×Int×Int×Int) ((Int×(List bn)×Int×Int×Int×Int×Int)⊕(al×Int×Int))):=
  (inO c p).bind fun _=>(pb c p).bind fun q=>(lq q.dC).bind fun a=>if a.2.2=true then((gm a0 a.1).bind fun r=>(gm a0 a.2.1).bind fun t=>(pG c [(bn.mk a.1 r.1 false),(bn.mk a.2.1 t.1 false)] 64).bind fun u=>some (.next ((Dt .i64 (x+1)),u,f,g,j,k,l)))else(some (.next ((Dt .i64 (x+1)),c,f,g,j,k,l)))
def cE(k:Int)(x:(List bn))(c:Int)(a0:ai)(j:Int)(p:Int)(q:Int)(r:Int)(l:Int):Option (pa (Int×(List bn)×Int×Int×Int×Int×Int) ((Int×(List bn)×Int×Int×Int×Int×Int)⊕(al×Int×Int))):=
  if(k==3000)=true then(some (.stop (.inr ((al.mk (aa.mk 0 0 0) 0 0 0 (ah.mk (aa.mk 0 0 0) (aa.mk 0 0 0))),0,25))))else((inO x c).bind fun _=>(uX x c (fun(z25:bn)=>(bn.mk z25.dC z25.bY true))).bind fun g=>(inO g c).bind fun _=>(pb g c).bind fun t=>(iU t.dC).bind fun a=>(oW a0 a).bind fun f=>if(k==0)=true then(cj g c a0 k a.fX a.fY a.fZ f.1 f.2.1)else(if(decide (f.2.1<j))=true then(cj g c a0 k a.fX a.fY a.fZ f.1 f.2.1)else(if(f.2.1==j)=true then((jn a (aa.mk p q r)).bind fun u=>if(decide (u<0))=true then(cj g c a0 k a.fX a.fY a.fZ f.1 f.2.1)else(cj g c a0 k p q r l j))else(cj g c a0 k p q r l j))))
def co(a1:Int)(a0:ai):(Int×(List bn)×Int×Int×Int×Int×Int)->Option (pa (Int×(List bn)×Int×Int×Int×Int×Int) ((Int×(List bn)×Int×Int×Int×Int×Int)⊕(al×Int×Int))):=fun(j,g,k,l,p,f,a)=>
  (nj g).bind fun c=>if(decide (c<0))=true then(some (.stop (.inl (j,g,k,l,p,f,a))))else(if(decide (j>0))=true then((inO g c).bind fun _=>(pb g c).bind fun q=>if(decide ((Dt .i64 (a-q.bY))<=a1))=true then(some (.stop (.inl (j,g,k,l,p,f,a))))else(cE j g c a0 a k l p f))else(cE j g c a0 a k l p f))
def eT(c:Int×(List bn)×Int×Int×Int×Int×Int):(Int×Int×Int×Int×Int×Int×Int×Int)->Option (pa (Int×Int×Int×Int×Int×Int×Int×Int) (Int×Int×Int×Int×Int×Int×Int)):=fun(a,g,j,k,l,p,q,r)=>
  if(decide (a<(c.2.1.length:Int)))=true then((inO c.2.1 a).bind fun _=>(pb c.2.1 a).bind fun u=>if(!u.eY)=true then((inO c.2.1 a).bind fun _=>(pb c.2.1 a).bind fun x=>if(decide (x.bY<c.2.2.2.2.2.2))=true then((inO c.2.1 a).bind fun _=>(pb c.2.1 a).bind fun t=>(inO c.2.1 a).bind fun _=>(pb c.2.1 a).bind fun y=>(nh (ah.mk (aa.mk j k l) (aa.mk p q r)) y.dC).bind fun f=>some (.next ((Dt .i64 (a+1)),(if t.bY<g then t.bY else g),f.bh.fX,f.bh.fY,f.bh.fZ,f.av.fX,f.av.fY,f.av.fZ)))else(some (.next ((Dt .i64 (a+1)),g,j,k,l,p,q,r))))else(some (.next ((Dt .i64 (a+1)),g,j,k,l,p,q,r))))else(some (.stop (g,j,k,l,p,q,r)))
def lH(a0:ai)(a1:Int):Option (al×Int×Int):=
  (iD a0).bind fun j=>if(j != 0)=true then(some ((al.mk (aa.mk 0 0 0) 0 0 0 (ah.mk (aa.mk 0 0 0) (aa.mk 0 0 0))),0,j))else(if(decide (a1<0))=true then(some ((al.mk (aa.mk 0 0 0) 0 0 0 (ah.mk (aa.mk 0 0 0) (aa.mk 0 0 0))),0,2))else((gm a0 a0.bk).bind fun k=>(dE (co a1 a0) (0,[(bn.mk a0.bk k.1 false)],0,0,0,0,0)).bind fun f=>match f with| .inl a=>((dE (eT a) (0,a.2.2.2.2.2.2,a.2.2.1,a.2.2.2.1,a.2.2.2.2.1,a.2.2.1,a.2.2.2.1,a.2.2.2.2.1)).bind fun c=>some ((al.mk (aa.mk a.2.2.1 a.2.2.2.1 a.2.2.2.2.1) a.2.2.2.2.2.1 a.2.2.2.2.2.2 c.1 (ah.mk (aa.mk c.2.1 c.2.2.1 c.2.2.2.1) (aa.mk c.2.2.2.2.1 c.2.2.2.2.2.1 c.2.2.2.2.2.2))),a.1,0))| .inr g=>(some g)))
def lG(a0:ai)(a1:Int):Option (al×Int):=
  (lH a0 a1).bind fun a=>some (a.1,a.2.2)
def dO:(Int×(List Int))->Option (pa (Int×(List Int)) ((List Int))):=fun(s2,s3)=>
  if(decide (s2>0))=true then((tX s2 1073741824).bind fun a=>(pG s3 [a] 8).bind fun c=>(qa .i64 s2 1073741824).bind fun f=>some (.next (f,c)))else(some (.stop s3))
def m8(a0:Int):Option ((List Int)×Int):=
  if(decide (a0<0))=true then(some (([]:(List Int)),2))else((dE (dO) (a0,([]:(List Int)))).bind fun a=>some (a,0))
def l7(a0:(List Int)):Int->Option (pa (Int) ((Unit)⊕(Bool))):=fun s1=>
  if(decide (s1<(a0.length:Int)))=true then((pb a0 s1).bind fun a=>(cA a 0 1073741823).bind fun c=>if(!c)=true then(some (.stop (.inr false)))else(some (.next (Dt .i64 (s1+1)))))else(some (.stop (.inl ())))
def eM(a0:(List Int)):Option (Bool):=
  (dE (l7 a0) 0).bind fun f=>match f with| .inl _=>(if(decide ((a0.length:Int)<=64))=true then(if((a0.length:Int)==0)=true then(some true)else((pb a0 (Dt .i64 ((a0.length:Int)-1))).bind fun c=>some (c != 0)))else(some false))| .inr a=>(some a)
def om:(List Int)->Option (pa ((List Int)) ((List Int))):=fun s1=>
  if(decide ((s1.length:Int)>0))=true then((pb s1 (Dt .i64 ((s1.length:Int)-1))).bind fun a=>if(a==0)=true then((ue s1 0 (Dt .i64 ((s1.length:Int)-1))).bind fun c=>some (.next c))else(some (.stop s1)))else(some (.stop s1))
def ref17_trim(a0:(List Int)):Option ((List Int)):=
  (dE (om) a0).bind fun a=>some a
def k9(k:(List Int))(s2:Int)(c:Int)(a:Int):Option (pa (Int×Int×(List Int)) (Int×(List Int))):=
  (tX a 1073741824).bind fun f=>(inO k (Dt .i64 (s2+c))).bind fun _=>(tH k (Dt .i64 (s2+c)) f).bind fun g=>(qa .i64 a 1073741824).bind fun j=>some (.next (j,(Dt .i64 (c+1)),g))
def la(f:(List Int))(s2:Int)(a:Int)(a1:(List Int))(a0:(List Int))(k:Int):Option (pa (Int×Int×(List Int)) (Int×(List Int))):=
  (inO f (Dt .i64 (s2+a))).bind fun _=>(pb f (Dt .i64 (s2+a))).bind fun c=>if(decide (a<(a1.length:Int)))=true then((pb a0 s2).bind fun g=>(pb a1 a).bind fun j=>k9 f s2 a (Dt .i64 ((Dt .i64 (k+c))+(Dt .i64 (g*j)))))else(k9 f s2 a (Dt .i64 (k+c)))
def dJ(a1:(List Int))(s2:Int)(a0:(List Int)):(Int×Int×(List Int))->Option (pa (Int×Int×(List Int)) (Int×(List Int))):=fun(a,c,f)=>
  if(decide (c<(a1.length:Int)))=true then(la f s2 c a1 a0 a)else(if(decide (a>0))=true then(la f s2 c a1 a0 a)else(some (.stop (s2,f))))
def gV(a0:(List Int))(a1:(List Int)):(Int×(List Int))->Option (pa (Int×(List Int)) ((List Int))):=fun(s2,s3)=>
  if(decide (s2<(a0.length:Int)))=true then((dE (dJ a1 s2 a0) (0,0,s3)).bind fun a=>some (.next ((Dt .i64 (a.1+1)),a.2)))else(some (.stop s3))
def mS(a0:(List Int))(a1:(List Int)):Option ((List Int)):=
  (mkO (Dt .i64 ((a0.length:Int)+(a1.length:Int))) 0 8).bind fun f=>(dE (gV a0 a1) (0,f)).bind fun a=>(ref17_trim a).bind fun c=>some c
def ed(a0:(List Int)):Option ((List Int)×Int):=
  if(decide ((a0.length:Int)>64))=true then(some (([]:(List Int)),8))else(some (a0,0))
def kJ(a0:(List Int))(a1:(List Int)):Option ((List Int)×Int):=
  (eM a0).bind fun c=>if(!c)=true then(some (([]:(List Int)),1))else((eM a1).bind fun f=>if(!f)=true then(some (([]:(List Int)),1))else((mS a0 a1).bind fun g=>(ed g).bind fun a=>some (a.1,a.2)))
def eF(a0:Int):Option ((List Int)):=
  (m8 (if(Dt .i64 (0-a0))>a0 then(Dt .i64 (0-a0))else a0)).bind fun a=>(kJ a.1 a.1).bind fun c=>some c.1
def jl(k:(List Int))(j:Int)(a:Int):Option (pa (Int×Int×(List Int)) ((List Int))):=
  (tX a 1073741824).bind fun c=>(pG k [c] 8).bind fun f=>(qa .i64 a 1073741824).bind fun g=>some (.next (g,(Dt .i64 (j+1)),f))
def jm(c:Int)(a1:(List Int))(g:(List Int))(a:Int):Option (pa (Int×Int×(List Int)) ((List Int))):=
  if(decide (c<(a1.length:Int)))=true then((pb a1 c).bind fun f=>jl g c (Dt .i64 (a+f)))else(jl g c a)
def gT(a:Int)(a0:(List Int))(a1:(List Int))(g:(List Int))(f:Int):Option (pa (Int×Int×(List Int)) ((List Int))):=
  if(decide (a<(a0.length:Int)))=true then((pb a0 a).bind fun c=>jm a a1 g (Dt .i64 (f+c)))else(jm a a1 g f)
def ec(a0:(List Int))(a1:(List Int)):(Int×Int×(List Int))->Option (pa (Int×Int×(List Int)) ((List Int))):=fun(c,a,f)=>
  if(decide (a<(a0.length:Int)))=true then(gT a a0 a1 f c)else(if(decide (a<(a1.length:Int)))=true then(gT a a0 a1 f c)else(if(decide (c>0))=true then(gT a a0 a1 f c)else(some (.stop f))))
def od(a0:(List Int))(a1:(List Int)):Option ((List Int)×Int):=
  (eM a0).bind fun f=>if(!f)=true then(some (([]:(List Int)),1))else((eM a1).bind fun g=>if(!g)=true then(some (([]:(List Int)),1))else((dE (ec a0 a1) (0,0,([]:(List Int)))).bind fun c=>(ed c).bind fun a=>some (a.1,a.2)))
def gK(a0:bB)(a1:Int)(a2:Int):Option ((List Int)):=
  (eF (Dt .i64 ((Dt .i64 ((Dt .i64 (a0.a0*a2))*a2))-(Dt .i64 ((Dt .i64 (a0.a2*a1))*a1))))).bind fun a=>(eF (Dt .i64 ((Dt .i64 (a0.a1*a1))*a2))).bind fun c=>(od a c).bind fun f=>some f.1
def nf(a0:bq)(a1:Int)(a2:Int):Option (bo):=
  if(a0.ct==0)=true then((eF a0.bI.a0).bind fun c=>(eF a0.bG.a0).bind fun f=>some (bo.mk c f))else(if(a0.ct==1)=true then((gK a0.bI a1 a2).bind fun g=>(gK a0.bG a1 a2).bind fun j=>some (bo.mk g j))else((iy a0.cf).bind fun k=>(eF k).bind fun l=>(vB .i64 1 (Dt .u64 a0.cn)).bind fun p=>(eF p).bind fun a=>some (bo.mk l a)))
def ez(a0:bo):Option (Bool):=
  (eM a0.bI).bind fun a=>if a=true then((eM a0.bG).bind fun c=>if c=true then(some (decide ((a0.bG.length:Int)>0)))else(some false))else(some false)
def mu(a0:bo)(a1:bo):Option (bo×Int):=
  (ez a0).bind fun f=>if(!f)=true then(some ((bo.mk [] []),1))else((ez a1).bind fun g=>if(!g)=true then(some ((bo.mk [] []),1))else((kJ a0.bI a1.bI).bind fun a=>(kJ a0.bG a1.bG).bind fun c=>if(a.2 != 0)=true then(some ((bo.mk [] []),8))else(if(c.2 != 0)=true then(some ((bo.mk [] []),8))else(some ((bo.mk a.1 c.1),0)))))
def dg(a0:bp)(a1:Int)(a2:Int):(Int×(List Int)×(List Int))->Option (pa (Int×(List Int)×(List Int)) (((List Int)×(List Int))⊕(bo×Int))):=fun(f,j,k)=>
  if(decide (f<(a0.bD.length:Int)))=true then((pb a0.bD f).bind fun g=>(nf g a1 a2).bind fun a=>if((a.bG.length:Int)==0)=true then(some (.stop (.inr ((bo.mk [] []),11))))else((mu (bo.mk j k) a).bind fun c=>some (.next ((Dt .i64 (f+1)),c.1.bI,c.1.bG))))else(some (.stop (.inl (j,k))))
def na(a0:bp)(a1:Int)(a2:Int):Option (bo×Int):=
  (lp a0).bind fun g=>if(!g)=true then(some ((bo.mk [] []),1))else((cA a1 0 65536).bind fun j=>if(!j)=true then(some ((bo.mk [] []),2))else((cA a2 1 65536).bind fun k=>if(!k)=true then(some ((bo.mk [] []),2))else((dE (dg a0 a1 a2) (0,[1],[1])).bind fun c=>match c with| .inl a=>(some ((bo.mk a.1 a.2),0))| .inr f=>(some f))))
def lA:(Int×Int)->Option (pa (Int×Int) (Int)):=fun(s1,s2)=>
  if(decide (s1>0))=true then(some (.next ((pJ .i64 s1 1),(Dt .i64 (s2+1)))))else(some (.stop s2))
def iW(a0:Int):Option (Int):=
  (dE (lA) (a0,0)).bind fun a=>some a
def cU:(Int×Int×Int)->Option (pa (Int×Int×Int) (Int)):=fun(s1,s2,s3)=>
  if(decide (s3<8))=true then(if(decide ((pJ .i64 (Dt .i64 (s1*s1)) 30)>=2147483648))=true then(some (.next ((pJ .i64 (pJ .i64 (Dt .i64 (s1*s1)) 30) 1),(Dt .i64 ((Dt .i64 (s2*2))+1)),(Dt .i64 (s3+1)))))else(some (.next ((pJ .i64 (Dt .i64 (s1*s1)) 30),(Dt .i64 (s2*2)),(Dt .i64 (s3+1))))))else(some (.stop s2))
def gn(a0:Int)(a1:Int):Option (Int):=
  (dE (cU) (a1,0,0)).bind fun a=>some (Dt .i64 ((Dt .i64 (256*a0))+a))
def lR(a0:Int):Option (Int×Int):=
  if(decide (a0<1))=true then(some (0,2))else((iW a0).bind fun a=>if(decide ((Dt .i64 (a-1))<=30))=true then((vB .i64 a0 (Dt .u64 (Dt .i64 (30-(Dt .i64 (a-1)))))).bind fun c=>(gn (Dt .i64 (a-1)) c).bind fun f=>some (f,0))else((yG .i64 a0 (Dt .u64 (Dt .i64 ((Dt .i64 (a-1))-30)))).bind fun g=>(gn (Dt .i64 (a-1)) g).bind fun j=>some (j,0)))
def cz(a0:(List Int)):(Int×Int)->Option (pa (Int×Int) (Int)):=fun(f,a)=>
  if(decide (a>=0))=true then((pb a0 a).bind fun c=>some (.next ((orI .i64 (uq .i64 f 30) c),(Dt .i64 (a-1)))))else(some (.stop f))
def kq(a0:(List Int)):Option (Int×Int):=
  (eM a0).bind fun p=>if(!p)=true then(some (0,1))else(if((a0.length:Int)==0)=true then(some (0,2))else(if(decide ((a0.length:Int)<=2))=true then((dE (cz a0) (0,(Dt .i64 ((a0.length:Int)-1)))).bind fun j=>(lR j).bind fun a=>some (a.1,a.2))else((pb a0 (Dt .i64 ((a0.length:Int)-1))).bind fun c=>(pb a0 (Dt .i64 ((a0.length:Int)-2))).bind fun f=>(iW (orI .i64 (uq .i64 c 30) f)).bind fun g=>(yG .i64 (orI .i64 (uq .i64 c 30) f) (Dt .u64 (Dt .i64 (g-31)))).bind fun k=>(gn (Dt .i64 ((Dt .i64 ((Dt .i64 (30*(Dt .i64 ((a0.length:Int)-2))))+g))-1)) k).bind fun l=>some (l,0))))
def me(a0:Int):Option (Int):=
  (qa .i64 (Dt .i64 (a0-(andI .i64 a0 1))) 2).bind fun a=>some a
def lu(a0:Int):Option (Int):=
  if(decide (a0<(-16777216)))=true then(some 0)else(if(decide (a0>16777216))=true then(some 0)else((qa .i64 (Dt .i64 (a0*30103)) 256000).bind fun a=>if(decide ((Dt .i64 (a*256000))>(Dt .i64 (a0*30103))))=true then(some (Dt .i64 (a-1)))else(some a)))
def nk(a0:Int):Option (Int):=
  (lu (Dt .i64 (0-a0))).bind fun a=>some (Dt .i64 (0-a))
def jp(a0:bC)(a1:bp)(a2:Int)(a3:Int)(a4:Int):Option (az×Int):=
  (gc a0).bind fun r=>if(!r)=true then(some ((az.mk 0 0),27))else(if(decide (a2<1))=true then(some ((az.mk 0 0),2))else(if(decide (a2>1073741823))=true then(some ((az.mk 0 0),2))else((na a1 a0.bI a0.bG).bind fun g=>if(g.2 != 0)=true then(some ((az.mk 0 0),g.2))else(if((g.1.bI.length:Int)==0)=true then(some ((az.mk 0 0),24))else((gY a0.bF a3 a4).bind fun j=>if(j.2.2 != 0)=true then(some ((az.mk 0 0),j.2.2))else((lR a2).bind fun a=>(kq g.1.bI).bind fun c=>(kq g.1.bG).bind fun f=>(me (Dt .i64 ((Dt .i64 ((Dt .i64 ((Dt .i64 (2*a.1))+f.1))-c.1))-2))).bind fun k=>(lu k).bind fun l=>(me (Dt .i64 (0-(Dt .i64 ((Dt .i64 ((Dt .i64 ((Dt .i64 (2*a.1))+f.1))-c.1))+6))))).bind fun p=>(nk (Dt .i64 (0-p))).bind fun q=>some ((az.mk (Dt .i64 (l+j.1)) (Dt .i64 (q+j.2.1))),0)))))))
def dQ(q:(List ak))(a1:ac)(a3:ah)(a0:aj):(Int×(List az))->Option (pa (Int×(List az)) ((List az))):=fun(g,j)=>
  if(decide (g<(q.length:Int)))=true then((pb q g).bind fun a=>(mT a1 a.bc a.cb).bind fun c=>(iA a3 c.1.bM).bind fun k=>(jP a3 c.1.bM).bind fun l=>(jp a0.bN c.1.bQ a.bK k l).bind fun f=>if(f.2==0)=true then((pG j [f.1] 16).bind fun p=>some (.next ((Dt .i64 (g+1)),p)))else(some (.next ((Dt .i64 (g+1)),j))))else(some (.stop j))
def jC(a0:aj)(a1:ac)(a2:(List ak))(a3:ah):Option ((List az)×Int):=
  (cw a0).bind fun c=>if(c != 0)=true then(some (([]:(List az)),27))else((gl a1).bind fun f=>if(!f)=true then(some (([]:(List az)),1))else((cm a3).bind fun g=>if(!g)=true then(some (([]:(List az)),20))else((jT a0 a1 a2).bind fun j=>(dE (dQ j a1 a3 a0) (0,([]:(List az)))).bind fun a=>some (a,0))))
def kU(s2:(List Int))(a0:(List Int))(s1:Int):Int->Option (pa (Int) (Int×Int×(List Int))):=fun a=>
  if(decide (a<(s2.length:Int)))=true then((inO s2 a).bind fun _=>(pb s2 a).bind fun c=>(pb a0 s1).bind fun f=>if(decide (c<f))=true then(some (.next (Dt .i64 (a+1))))else(some (.stop (s1,a,s2))))else(some (.stop (s1,a,s2)))
def mU(a0:(List Int)):(Int×(List Int))->Option (pa (Int×(List Int)) ((List Int))):=fun(s1,s2)=>
  if(decide (s1<(a0.length:Int)))=true then((dE (kU s2 a0 s1) 0).bind fun a=>(pG a.2.2 [0] 8).bind fun c=>(tF c.length (Dt .i64 (a.2.1+1)) (c.length:Int)).bind fun _=>(tF c.length a.2.1 (c.length:Int)).bind fun _=>(wT c.length (0+((Dt .i64 (a.2.1+1)):Int).toNat) (0+((c.length:Int):Int).toNat)).bind fun _=>(uV c (0+(a.2.1:Int).toNat) (0+((c.length:Int):Int).toNat)).bind fun f=>(pb a0 a.1).bind fun g=>(inO (tI c (0+((Dt .i64 (a.2.1+1)):Int).toNat) ((0+((c.length:Int):Int).toNat)-(0+((Dt .i64 (a.2.1+1)):Int).toNat)) f) a.2.1).bind fun _=>(tH (tI c (0+((Dt .i64 (a.2.1+1)):Int).toNat) ((0+((c.length:Int):Int).toNat)-(0+((Dt .i64 (a.2.1+1)):Int).toNat)) f) a.2.1 g).bind fun j=>some (.next ((Dt .i64 (a.1+1)),j)))else(some (.stop s2))
def ku(a0:(List Int)):Option ((List Int)):=
  (dE (mU a0) (0,([]:(List Int)))).bind fun a=>some a
def kr(a0:(List Int)):Option (Int):=
  (ku a0).bind fun a=>(qa .i64 (Dt .i64 ((a0.length:Int)-1)) 2).bind fun c=>(pb a c).bind fun f=>some f
def ic(a0:(List az)):(Int×(List Int)×(List Int))->Option (pa (Int×(List Int)×(List Int)) (((List Int)×(List Int))⊕(az×Int))):=fun(s2,s3,k)=>
  if(decide (s2<(a0.length:Int)))=true then((pb a0 s2).bind fun l=>(pb a0 s2).bind fun a=>if(decide (l.bh>a.av))=true then(some (.stop (.inr ((az.mk 0 0),1))))else((pb a0 s2).bind fun c=>(pG s3 [c.bh] 8).bind fun f=>(pb a0 s2).bind fun g=>(pG k [g.av] 8).bind fun j=>some (.next ((Dt .i64 (s2+1)),f,j))))else(some (.stop (.inl (s3,k))))
def jo(a0:(List az)):Option (az×Int):=
  if((a0.length:Int)==0)=true then(some ((az.mk 0 0),24))else((dE (ic a0) (0,([]:(List Int)),([]:(List Int)))).bind fun c=>match c with| .inl a=>((kr a.1).bind fun g=>(kr a.2).bind fun j=>some ((az.mk g j),0))| .inr f=>(some f))
def mw(a0:aj)(a1:ac)(a2:(List ak)):Option (bu×Int):=
  (ef a0 a1 a2).bind fun c=>if(c.2 != 0)=true then(some ((bu.mk [] (al.mk (aa.mk 0 0 0) 0 0 0 (ah.mk (aa.mk 0 0 0) (aa.mk 0 0 0))) (az.mk 0 0) 0),c.2))else((lG c.1 a0.bz).bind fun a=>if(a.2 != 0)=true then(some ((bu.mk [] (al.mk (aa.mk 0 0 0) 0 0 0 (ah.mk (aa.mk 0 0 0) (aa.mk 0 0 0))) (az.mk 0 0) 0),a.2))else((jC a0 a1 a2 a.1.bX).bind fun f=>(jo f.1).bind fun g=>(jT a0 a1 a2).bind fun j=>some ((bu.mk j a.1 g.1 (f.1.length:Int)),0)))
def dY(a0:(List ak))(a1:(List ak)):Int->Option (pa (Int) ((Unit)⊕(Bool))):=fun s2=>
  if(decide (s2<(a0.length:Int)))=true then((pb a0 s2).bind fun a=>(pb a1 s2).bind fun c=>if(!(((a.bc.bH==c.bc.bH)&&((a.bc.bv==c.bc.bv)&&((a.bc.bd==c.bc.bd)&&((a.bc.bL==c.bc.bL)&&true))))&&((a.cb==c.cb)&&((a.bV==c.bV)&&((a.ch==c.ch)&&((a.bK==c.bK)&&((a.bO==c.bO)&&true)))))))=true then(some (.stop (.inr false)))else(some (.next (Dt .i64 (s2+1)))))else(some (.stop (.inl ())))
def jF(a0:(List ak))(a1:(List ak)):Option (Bool):=
  if((a0.length:Int) != (a1.length:Int))=true then(some false)else((dE (dY a0 a1) 0).bind fun c=>match c with| .inl _=>(some true)| .inr a=>(some a))
def mf(a0:bu)(a1:bu):Option (Bool):=
  (jF a0.mD a1.mD).bind fun a=>if a=true then(if(((a0.bd.b7.fX==a1.bd.b7.fX)&&((a0.bd.b7.fY==a1.bd.b7.fY)&&((a0.bd.b7.fZ==a1.bd.b7.fZ)&&true)))&&((a0.bd.cb==a1.bd.cb)&&((a0.bd.ci==a1.bd.ci)&&((a0.bd.jW==a1.bd.jW)&&((((a0.bd.bX.bh.fX==a1.bd.bX.bh.fX)&&((a0.bd.bX.bh.fY==a1.bd.bX.bh.fY)&&((a0.bd.bX.bh.fZ==a1.bd.bX.bh.fZ)&&true)))&&(((a0.bd.bX.av.fX==a1.bd.bX.av.fX)&&((a0.bd.bX.av.fY==a1.bd.bX.av.fY)&&((a0.bd.bX.av.fZ==a1.bd.bX.av.fZ)&&true)))&&true))&&true)))))=true then(if((a0.dM.bh==a1.dM.bh)&&((a0.dM.av==a1.dM.av)&&true))=true then(some (a0.oz==a1.oz))else(some false))else(some false))else(some false)
def fx(a0:(List ak))(a1:(List ak)):Int->Option (pa (Int) ((Unit)⊕(Bool))):=fun s2=>
  if(decide (s2<(a0.length:Int)))=true then((pb a0 s2).bind fun a=>(pb a1 s2).bind fun c=>if(!(((a.bc.bH==c.bc.bH)&&((a.bc.bv==c.bc.bv)&&((a.bc.bd==c.bc.bd)&&((a.bc.bL==c.bc.bL)&&true))))&&((a.cb==c.cb)&&((a.bV==c.bV)&&((a.ch==c.ch)&&((a.bK==c.bK)&&((a.bO==c.bO)&&true)))))))=true then(some (.stop (.inr false)))else(some (.next (Dt .i64 (s2+1)))))else(some (.stop (.inl ())))
def ig(a0:(List ak))(a1:(List ak)):Option (Bool):=
  if((a0.length:Int) != (a1.length:Int))=true then(some false)else((dE (fx a0 a1) 0).bind fun c=>match c with| .inl _=>(some true)| .inr a=>(some a))
def lg(a0:bu)(a1:bu):Option (Bool):=
  (ig a0.mD a1.mD).bind fun a=>if a=true then(if(((a0.bd.b7.fX==a1.bd.b7.fX)&&((a0.bd.b7.fY==a1.bd.b7.fY)&&((a0.bd.b7.fZ==a1.bd.b7.fZ)&&true)))&&((a0.bd.cb==a1.bd.cb)&&((a0.bd.ci==a1.bd.ci)&&((a0.bd.jW==a1.bd.jW)&&((((a0.bd.bX.bh.fX==a1.bd.bX.bh.fX)&&((a0.bd.bX.bh.fY==a1.bd.bX.bh.fY)&&((a0.bd.bX.bh.fZ==a1.bd.bX.bh.fZ)&&true)))&&(((a0.bd.bX.av.fX==a1.bd.bX.av.fX)&&((a0.bd.bX.av.fY==a1.bd.bX.av.fY)&&((a0.bd.bX.av.fZ==a1.bd.bX.av.fZ)&&true)))&&true))&&true)))))=true then(if((a0.dM.bh==a1.dM.bh)&&((a0.dM.av==a1.dM.av)&&true))=true then(some (a0.oz==a1.oz))else(some false))else(some false))else(some false)
def eZ(g:(List ak))(I:aj)(J:ac)(K:Int)(L:Int)(N:Int)(j:(List ak))(k:Int)(l:Int)(p:Int)(q:Int)(r:Int)(t:Int)(u:Int)(x:Int)(y:Int)(z:Int)(B:Int)(C:Int)(D:Int)(E:Int)(F:Int):Int->Option (pa (Int) ((Int×Int×Int×(List ak)×Int×Int×Int×Int×Int×Int×Int×Int×Int×Int×Int×Int×Int×Int×Int)⊕(Bool))):=fun f=>
  if(decide (f<(g.length:Int)))=true then((pb g f).bind fun G=>(jG I J G).bind fun a=>(pb g f).bind fun H=>(eh I J H).bind fun c=>if(!(((a.1.bv.fX==c.1.bv.fX)&&((a.1.bv.fY==c.1.bv.fY)&&((a.1.bv.fZ==c.1.bv.fZ)&&true)))&&((a.1.bV==c.1.bV)&&((a.1.ch==c.1.ch)&&((a.1.d7==c.1.d7)&&true)))))=true then(some (.stop (.inr false)))else(if(!(a.2==c.2))=true then(some (.stop (.inr false)))else(some (.next (Dt .i64 (f+1))))))else(some (.stop (.inl (K,L,N,j,k,l,p,q,r,t,u,x,y,z,B,C,D,E,F))))
def e7(g:ai×Int)(j:ai×Int):Int->Option (pa (Int) ((Unit)⊕(Bool))):=fun f=>
  if(decide (f<(g.1.bT.length:Int)))=true then((pb g.1.bT f).bind fun a=>(pb j.1.bT f).bind fun c=>if(!(((a.bv.fX==c.bv.fX)&&((a.bv.fY==c.bv.fY)&&((a.bv.fZ==c.bv.fZ)&&true)))&&((a.bV==c.bV)&&((a.ch==c.ch)&&((a.d7==c.d7)&&true)))))=true then(some (.stop (.inr false)))else(some (.next (Dt .i64 (f+1)))))else(some (.stop (.inl ())))
def e8(a6:(List ak)×ag)(a2:(List ak))(l:aj)(p:ac):(Int×Int×Int×(List ak)×Int×Int×Int×Int×Int×Int×Int×Int×Int×Int×Int×Int×Int×Int×Int)->Option (pa (Int×Int×Int×(List ak)×Int×Int×Int×Int×Int×Int×Int×Int×Int×Int×Int×Int×Int×Int×Int) ((Int×Int×(List ak)×Int×Int×Int×Int×Int×Int×Int×Int×Int×Int×Int×Int×Int×Int×Int)⊕(Bool))):=fun(T,W,K,q,r,t,u,x,y,z,B,C,D,E,F,G,H,I,J)=>
  if(decide (K<2))=true then((pb [a6.1,a2] K).bind fun j=>(dE (eZ j l p T W K q r t u x y z B C D E F G H I J) 0).bind fun L=>match L with| .inl a=>((iX l p j).bind fun f=>(ef l p j).bind fun g=>(ky l p j).bind fun k=>(mw l p j).bind fun c=>if(f.2 != g.2)=true then(some (.stop (.inr false)))else(if((f.1.bT.length:Int) != (g.1.bT.length:Int))=true then(some (.stop (.inr false)))else(if(!(((f.1.bk.bh.fX==g.1.bk.bh.fX)&&((f.1.bk.bh.fY==g.1.bk.bh.fY)&&((f.1.bk.bh.fZ==g.1.bk.bh.fZ)&&true)))&&(((f.1.bk.av.fX==g.1.bk.av.fX)&&((f.1.bk.av.fY==g.1.bk.av.fY)&&((f.1.bk.av.fZ==g.1.bk.av.fZ)&&true)))&&true)))=true then(some (.stop (.inr false)))else(if(f.1.dL != g.1.dL)=true then(some (.stop (.inr false)))else(if(k.2 != c.2)=true then(some (.stop (.inr false)))else((mf k.1 c.1).bind fun X=>if(!X)=true then(some (.stop (.inr false)))else((lg k.1 (bu.mk a.2.2.2.1 (al.mk (aa.mk a.2.2.2.2.1 a.2.2.2.2.2.1 a.2.2.2.2.2.2.1) a.2.2.2.2.2.2.2.1 a.2.2.2.2.2.2.2.2.1 a.2.2.2.2.2.2.2.2.2.1 (ah.mk (aa.mk a.2.2.2.2.2.2.2.2.2.2.1 a.2.2.2.2.2.2.2.2.2.2.2.1 a.2.2.2.2.2.2.2.2.2.2.2.2.1) (aa.mk a.2.2.2.2.2.2.2.2.2.2.2.2.2.1 a.2.2.2.2.2.2.2.2.2.2.2.2.2.2.1 a.2.2.2.2.2.2.2.2.2.2.2.2.2.2.2.1))) (az.mk a.2.2.2.2.2.2.2.2.2.2.2.2.2.2.2.2.1 a.2.2.2.2.2.2.2.2.2.2.2.2.2.2.2.2.2.1) a.2.2.2.2.2.2.2.2.2.2.2.2.2.2.2.2.2.2)).bind fun Y=>(mf c.1 (bu.mk a.2.2.2.1 (al.mk (aa.mk a.2.2.2.2.1 a.2.2.2.2.2.1 a.2.2.2.2.2.2.1) a.2.2.2.2.2.2.2.1 a.2.2.2.2.2.2.2.2.1 a.2.2.2.2.2.2.2.2.2.1 (ah.mk (aa.mk a.2.2.2.2.2.2.2.2.2.2.1 a.2.2.2.2.2.2.2.2.2.2.2.1 a.2.2.2.2.2.2.2.2.2.2.2.2.1) (aa.mk a.2.2.2.2.2.2.2.2.2.2.2.2.2.1 a.2.2.2.2.2.2.2.2.2.2.2.2.2.2.1 a.2.2.2.2.2.2.2.2.2.2.2.2.2.2.2.1))) (az.mk a.2.2.2.2.2.2.2.2.2.2.2.2.2.2.2.2.1 a.2.2.2.2.2.2.2.2.2.2.2.2.2.2.2.2.2.1) a.2.2.2.2.2.2.2.2.2.2.2.2.2.2.2.2.2.2)).bind fun a5=>if(!(Y==a5))=true then(some (.stop (.inr false)))else((dE (e7 f g) 0).bind fun N=>match N with| .inl _=>(some (.next (a.1,a.2.1,(Dt .i64 (a.2.2.1+1)),c.1.mD,c.1.bd.b7.fX,c.1.bd.b7.fY,c.1.bd.b7.fZ,c.1.bd.cb,c.1.bd.ci,c.1.bd.jW,c.1.bd.bX.bh.fX,c.1.bd.bX.bh.fY,c.1.bd.bX.bh.fZ,c.1.bd.bX.av.fX,c.1.bd.bX.av.fY,c.1.bd.bX.av.fZ,c.1.dM.bh,c.1.dM.av,c.1.oz)))| .inr Q=>(some (.stop (.inr Q)))))))))))| .inr O=>(some (.stop (.inr O))))else(some (.stop (.inl (T,W,q,r,t,u,x,y,z,B,C,D,E,F,G,H,I,J))))
def fb(H:ac×ag)(a1:ac)(J:ac×ag)(I:(List ak)×ag)(a2:(List ak))(K:aj):(Int×Int×(List ak)×Int×Int×Int×Int×Int×Int×Int×Int×Int×Int×Int×Int×Int×Int×Int)->Option (pa (Int×Int×(List ak)×Int×Int×Int×Int×Int×Int×Int×Int×Int×Int×Int×Int×Int×Int×Int) ((Int×(List ak)×Int×Int×Int×Int×Int×Int×Int×Int×Int×Int×Int×Int×Int×Int×Int)⊕(Bool))):=fun(j,c,k,l,p,q,r,t,u,x,y,z,B,C,D,E,F,G)=>
  if(decide (c<3))=true then((pb [H.1,a1,J.1] c).bind fun L=>(dE (e8 I a2 K L) (j,c,0,k,l,p,q,r,t,u,x,y,z,B,C,D,E,F,G)).bind fun f=>match f with| .inl a=>(some (.next (a.1,(Dt .i64 (a.2.1+1)),a.2.2.1,a.2.2.2.1,a.2.2.2.2.1,a.2.2.2.2.2.1,a.2.2.2.2.2.2.1,a.2.2.2.2.2.2.2.1,a.2.2.2.2.2.2.2.2.1,a.2.2.2.2.2.2.2.2.2.1,a.2.2.2.2.2.2.2.2.2.2.1,a.2.2.2.2.2.2.2.2.2.2.2.1,a.2.2.2.2.2.2.2.2.2.2.2.2.1,a.2.2.2.2.2.2.2.2.2.2.2.2.2.1,a.2.2.2.2.2.2.2.2.2.2.2.2.2.2.1,a.2.2.2.2.2.2.2.2.2.2.2.2.2.2.2.1,a.2.2.2.2.2.2.2.2.2.2.2.2.2.2.2.2.1,a.2.2.2.2.2.2.2.2.2.2.2.2.2.2.2.2.2)))| .inr g=>(some (.stop (.inr g))))else(some (.stop (.inl (j,k,l,p,q,r,t,u,x,y,z,B,C,D,E,F,G))))
def fc(b5:aj×ag)(a0:aj)(k:Int)(l:Int)(p:Int)(q:Int)(r:Int)(t:Int)(u:Int)(x:(List Int))(y:(List Int))(z:Int)(B:Int)(C:Int)(D:Int)(E:Int)(F:Int)(G:(List Int))(H:(List Int))(I:Int)(J:Int)(K:Int)(b6:ac×ag)(a1:ac)(c1:ac×ag)(c0:(List ak)×ag)(a2:(List ak)):(Int×(List ak)×Int×Int×Int×Int×Int×Int×Int×Int×Int×Int×Int×Int×Int×Int×Int)->Option (pa (Int×(List ak)×Int×Int×Int×Int×Int×Int×Int×Int×Int×Int×Int×Int×Int×Int×Int) ((Unit)⊕(Bool))):=fun(c,L,N,O,Q,T,W,X,Y,a5,a6,a7,a8,a9,b0,b3,b4)=>
  if(decide (c<3))=true then((pb [b5.1,a0,(aj.mk (bt.mk (ah.mk (aa.mk k l p) (aa.mk q r t)) (aw.mk u x y) z B C D E) (bC.mk (aw.mk F G H) I J) K)] c).bind fun f=>(db f).bind fun c2=>(cw f).bind fun c3=>if(c2 != c3)=true then(some (.stop (.inr false)))else((dE (fb b6 a1 c1 c0 a2 f) (c,0,L,N,O,Q,T,W,X,Y,a5,a6,a7,a8,a9,b0,b3,b4)).bind fun g=>match g with| .inl a=>(some (.next ((Dt .i64 (a.1+1)),a.2.1,a.2.2.1,a.2.2.2.1,a.2.2.2.2.1,a.2.2.2.2.2.1,a.2.2.2.2.2.2.1,a.2.2.2.2.2.2.2.1,a.2.2.2.2.2.2.2.2.1,a.2.2.2.2.2.2.2.2.2.1,a.2.2.2.2.2.2.2.2.2.2.1,a.2.2.2.2.2.2.2.2.2.2.2.1,a.2.2.2.2.2.2.2.2.2.2.2.2.1,a.2.2.2.2.2.2.2.2.2.2.2.2.2.1,a.2.2.2.2.2.2.2.2.2.2.2.2.2.2.1,a.2.2.2.2.2.2.2.2.2.2.2.2.2.2.2.1,a.2.2.2.2.2.2.2.2.2.2.2.2.2.2.2.2)))| .inr j=>(some (.stop (.inr j)))))else(some (.stop (.inl ())))
def dS(J:aj×ag)(a0:aj)(K:ac×ag)(a1:ac)(N:ac×ag)(L:(List ak)×ag)(a2:(List ak))(g:Int)(j:Int)(k:Int)(l:Int)(p:Int)(q:Int)(r:Int)(t:(List Int))(u:(List Int))(x:Int)(y:Int)(z:Int)(B:Int)(C:Int)(D:Int)(E:(List Int))(F:(List Int))(G:Int)(H:Int)(I:Int):Option (Bool):=
  (dE (fc J a0 g j k l p q r t u x y z B C D E F G H I K a1 N L a2) (0,([]:(List ak)),0,0,0,0,0,0,0,0,0,0,0,0,0,0,0)).bind fun a=>match a with| .inl _=>((nW ).bind fun f=>some f)| .inr c=>(some c)
def fk(a0:aj)(a1:ac)(a2:(List ak))(a3:(List Int)):Option (Bool):=
  (eU a0).bind fun l=>if(!l)=true then((nW ).bind fun p=>some p)else((fE a1).bind fun q=>if(!q)=true then((nW ).bind fun r=>some r)else(if(decide ((a2.length:Int)>12))=true then((nW ).bind fun t=>some t)else((oQ a3).bind fun u=>(lB 3 u).bind fun a=>(lO 6 a.2).bind fun f=>(mH a.1 f.1 7 f.2).bind fun g=>(iJ a.1 g.2).bind fun c=>(cZ f.1 c.2).bind fun j=>(eU c.1).bind fun k=>if(!k)=true then(dS a a0 f a1 j g a2 a.1.ae.bk.bh.fX a.1.ae.bk.bh.fY a.1.ae.bk.bh.fZ a.1.ae.bk.av.fX a.1.ae.bk.av.fY a.1.ae.bk.av.fZ a.1.ae.bJ.bS a.1.ae.bJ.bh a.1.ae.bJ.av a.1.ae.dL a.1.ae.bz a.1.ae.ey a.1.ae.dq a.1.ae.dp a.1.bN.bF.bS a.1.bN.bF.bh a.1.bN.bF.av a.1.bN.bI a.1.bN.bG a.1.bz)else(dS a a0 f a1 j g a2 c.1.ae.bk.bh.fX c.1.ae.bk.bh.fY c.1.ae.bk.bh.fZ c.1.ae.bk.av.fX c.1.ae.bk.av.fY c.1.ae.bk.av.fZ c.1.ae.bJ.bS c.1.ae.bJ.bh c.1.ae.bJ.av c.1.ae.dL c.1.ae.bz c.1.ae.ey c.1.ae.dq c.1.ae.dp c.1.bN.bF.bS c.1.bN.bF.bh c.1.bN.bF.av c.1.bN.bI c.1.bN.bG c.1.bz))))
end
end Go.Dw.Ss
