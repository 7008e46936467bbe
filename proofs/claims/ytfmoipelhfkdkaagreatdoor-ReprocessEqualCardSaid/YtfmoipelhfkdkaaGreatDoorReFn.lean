
import Derived.Test.YtfmoipelhfkdkaaGreatDoorDwHole
import Derived.Test.YtfmoipelhfkdkaaGreatDoorDwSortIP
import Derived.Test.YtfmoipelhfkdkaaGreatDoorDwSort
import Derived.Lib.Join
import Derived.Lib.ItoaNum
set_option linter.unusedVariables false
set_option linter.unusedSimpArgs false
open Go.IntKind renaming wrap->Fb
open Int renaming toNat->Fh

namespace Go.Dw.Re
open Go.Dw
noncomputable section
structure ai where
  fL:(List Int)
  fAt:Int
  deriving DecidableEq
def ai.pd(x:ai):PD:= .agg [.lst (x.fL.map (PD.int .i64)),.int .i64 x.fAt]
structure ag where
  fX:Int
  fY:Int
  fZ:Int
  deriving DecidableEq
def ag.pd(x:ag):PD:= .agg [.int .i64 x.fX,.int .i64 x.fY,.int .i64 x.fZ]
structure al where
  bt:ag
  bd:ag
  deriving DecidableEq
def al.pd(x:al):PD:= .agg [.int .i64 x.bt.fX,.int .i64 x.bt.fY,.int .i64 x.bt.fZ,.int .i64 x.bd.fX,.int .i64 x.bd.fY,.int .i64 x.bd.fZ]
structure bg where
  bQ:Int
  bt:(List Int)
  bd:(List Int)
  deriving DecidableEq
def bg.pd(x:bg):PD:= .agg [.int .i64 x.bQ,.lst (x.bt.map (PD.int .i64)),.lst (x.bd.map (PD.int .i64))]
structure bi where
  bj:al
  bG:bg
  dv:Int
  bA:Int
  ch:Int
  dJ:Int
  cn:Int
  deriving DecidableEq
def bi.pd(x:bi):PD:= .agg [.int .i64 x.bj.bt.fX,.int .i64 x.bj.bt.fY,.int .i64 x.bj.bt.fZ,.int .i64 x.bj.bd.fX,.int .i64 x.bj.bd.fY,.int .i64 x.bj.bd.fZ,.int .i64 x.bG.bQ,.lst (x.bG.bt.map (PD.int .i64)),.lst (x.bG.bd.map (PD.int .i64)),.int .i64 x.dv,.int .i64 x.bA,.int .i64 x.ch,.int .i64 x.dJ,.int .i64 x.cn]
structure bS where
  bB:bg
  cg:Int
  b9:Int
  deriving DecidableEq
def bS.pd(x:bS):PD:= .agg [.int .i64 x.bB.bQ,.lst (x.bB.bt.map (PD.int .i64)),.lst (x.bB.bd.map (PD.int .i64)),.int .i64 x.cg,.int .i64 x.b9]
structure ah where
  ac:bi
  bK:bS
  bA:Int
  deriving DecidableEq
def ah.pd(x:ah):PD:= .agg [.int .i64 x.ac.bj.bt.fX,.int .i64 x.ac.bj.bt.fY,.int .i64 x.ac.bj.bt.fZ,.int .i64 x.ac.bj.bd.fX,.int .i64 x.ac.bj.bd.fY,.int .i64 x.ac.bj.bd.fZ,.int .i64 x.ac.bG.bQ,.lst (x.ac.bG.bt.map (PD.int .i64)),.lst (x.ac.bG.bd.map (PD.int .i64)),.int .i64 x.ac.dv,.int .i64 x.ac.bA,.int .i64 x.ac.ch,.int .i64 x.ac.dJ,.int .i64 x.ac.cn,.int .i64 x.bK.bB.bQ,.lst (x.bK.bB.bt.map (PD.int .i64)),.lst (x.bK.bB.bd.map (PD.int .i64)),.int .i64 x.bK.cg,.int .i64 x.bK.b9,.int .i64 x.bA]
structure bn where
  bI:(List UInt8)
  bw:(List UInt8)
  bc:(List UInt8)
  bL:(List UInt8)
  deriving DecidableEq
def bn.pd(x:bn):PD:= .agg [.str x.bI,.str x.bw,.str x.bc,.str x.bL]
structure cG where
  cg:Int
  b9:Int
  deriving DecidableEq
def cG.pd(x:cG):PD:= .agg [.int .i64 x.cg,.int .i64 x.b9]
structure bR where
  a0:Int
  a1:Int
  a2:Int
  deriving DecidableEq
def bR.pd(x:bR):PD:= .agg [.int .i64 x.a0,.int .i64 x.a1,.int .i64 x.a2]
structure bh where
  kk:Int
  cg:bR
  b9:bR
  eC:(List Int)
  eJ:Int
  fc:Int
  deriving DecidableEq
def bh.pd(x:bh):PD:= .agg [.int .i64 x.kk,.int .i64 x.cg.a0,.int .i64 x.cg.a1,.int .i64 x.cg.a2,.int .i64 x.b9.a0,.int .i64 x.b9.a1,.int .i64 x.b9.a2,.lst (x.eC.map (PD.int .i64)),.int .i64 x.eJ,.int .i64 x.fc]
structure bv where
  cV:(List bh)
  deriving DecidableEq
def bv.pd(x:bv):PD:= .agg [.lst (x.cV.map bh.pd)]
structure az where
  ca:Int
  fTo:Int
  nA:cG
  bV:ag
  bW:bv
  deriving DecidableEq
def az.pd(x:az):PD:= .agg [.int .i64 x.ca,.int .i64 x.fTo,.int .i64 x.nA.cg,.int .i64 x.nA.b9,.int .i64 x.bV.fX,.int .i64 x.bV.fY,.int .i64 x.bV.fZ,.lst (x.bW.cV.map bh.pd)]
structure aj where
  a7:bn
  ct:(List az)
  deriving DecidableEq
def aj.pd(x:aj):PD:= .agg [.str x.a7.bI,.str x.a7.bw,.str x.a7.bc,.str x.a7.bL,.lst (x.ct.map az.pd)]
structure ae where
  a8:(List aj)
  deriving DecidableEq
def ae.pd(x:ae):PD:= .agg [.lst (x.a8.map aj.pd)]
structure aa where
  a7:bn
  bT:Int
  bu:Int
  co:Int
  bH:Int
  bN:Int
  deriving DecidableEq
def aa.pd(x:aa):PD:= .agg [.str x.a7.bI,.str x.a7.bw,.str x.a7.bc,.str x.a7.bL,.int .i64 x.bT,.int .i64 x.bu,.int .i64 x.co,.int .i64 x.bH,.int .i64 x.bN]
structure ap where
  bO:ag
  bT:Int
  cb:Int
  mz:Int
  cp:al
  deriving DecidableEq
def ap.pd(x:ap):PD:= .agg [.int .i64 x.bO.fX,.int .i64 x.bO.fY,.int .i64 x.bO.fZ,.int .i64 x.bT,.int .i64 x.cb,.int .i64 x.mz,.int .i64 x.cp.bt.fX,.int .i64 x.cp.bt.fY,.int .i64 x.cp.bt.fZ,.int .i64 x.cp.bd.fX,.int .i64 x.cp.bd.fY,.int .i64 x.cp.bd.fZ]
structure bp where
  bt:Int
  bd:Int
  deriving DecidableEq
def bp.pd(x:bp):PD:= .agg [.int .i64 x.bt,.int .i64 x.bd]
structure bJ where
  da:(List aa)
  bc:ap
  fh:bp
  qN:Int
  deriving DecidableEq
def bJ.pd(x:bJ):PD:= .agg [.lst (x.da.map aa.pd),.int .i64 x.bc.bO.fX,.int .i64 x.bc.bO.fY,.int .i64 x.bc.bO.fZ,.int .i64 x.bc.bT,.int .i64 x.bc.cb,.int .i64 x.bc.mz,.int .i64 x.bc.cp.bt.fX,.int .i64 x.bc.cp.bt.fY,.int .i64 x.bc.cp.bt.fZ,.int .i64 x.bc.cp.bd.fX,.int .i64 x.bc.cp.bd.fY,.int .i64 x.bc.cp.bd.fZ,.int .i64 x.fh.bt,.int .i64 x.fh.bd,.int .i64 x.qN]
structure aq where
  dl:aa
  b7:bJ
  deriving DecidableEq
def aq.pd(x:aq):PD:= .agg [.str x.dl.a7.bI,.str x.dl.a7.bw,.str x.dl.a7.bc,.str x.dl.a7.bL,.int .i64 x.dl.bT,.int .i64 x.dl.bu,.int .i64 x.dl.co,.int .i64 x.dl.bH,.int .i64 x.dl.bN,.lst (x.b7.da.map aa.pd),.int .i64 x.b7.bc.bO.fX,.int .i64 x.b7.bc.bO.fY,.int .i64 x.b7.bc.bO.fZ,.int .i64 x.b7.bc.bT,.int .i64 x.b7.bc.cb,.int .i64 x.b7.bc.mz,.int .i64 x.b7.bc.cp.bt.fX,.int .i64 x.b7.bc.cp.bt.fY,.int .i64 x.b7.bc.cp.bt.fZ,.int .i64 x.b7.bc.cp.bd.fX,.int .i64 x.b7.bc.cp.bd.fY,.int .i64 x.b7.bc.cp.bd.fZ,.int .i64 x.b7.fh.bt,.int .i64 x.b7.fh.bd,.int .i64 x.b7.qN]
structure bq where
  da:(List aa)
  gH:(List aq)
  pL:(List aa)
  deriving DecidableEq
def bq.pd(x:bq):PD:= .agg [.lst (x.da.map aa.pd),.lst (x.gH.map aq.pd),.lst (x.pL.map aa.pd)]
structure av where
  ba:ah
  cm:ae
  bU:(List bq)
  deriving DecidableEq
def av.pd(x:av):PD:= .agg [.int .i64 x.ba.ac.bj.bt.fX,.int .i64 x.ba.ac.bj.bt.fY,.int .i64 x.ba.ac.bj.bt.fZ,.int .i64 x.ba.ac.bj.bd.fX,.int .i64 x.ba.ac.bj.bd.fY,.int .i64 x.ba.ac.bj.bd.fZ,.int .i64 x.ba.ac.bG.bQ,.lst (x.ba.ac.bG.bt.map (PD.int .i64)),.lst (x.ba.ac.bG.bd.map (PD.int .i64)),.int .i64 x.ba.ac.dv,.int .i64 x.ba.ac.bA,.int .i64 x.ba.ac.ch,.int .i64 x.ba.ac.dJ,.int .i64 x.ba.ac.cn,.int .i64 x.ba.bK.bB.bQ,.lst (x.ba.bK.bB.bt.map (PD.int .i64)),.lst (x.ba.bK.bB.bd.map (PD.int .i64)),.int .i64 x.ba.bK.cg,.int .i64 x.ba.bK.b9,.int .i64 x.ba.bA,.lst (x.cm.a8.map aj.pd),.lst (x.bU.map bq.pd)]
structure aw where
  bw:ag
  bu:Int
  co:Int
  cC:Int
  deriving DecidableEq
def aw.pd(x:aw):PD:= .agg [.int .i64 x.bw.fX,.int .i64 x.bw.fY,.int .i64 x.bw.fZ,.int .i64 x.bu,.int .i64 x.co,.int .i64 x.cC]
structure bz where
  ca:Int
  fTo:Int
  deriving DecidableEq
def bz.pd(x:bz):PD:= .agg [.int .i64 x.ca,.int .i64 x.fTo]
structure bC where
  dj:(List Int)
  bO:ag
  bT:Int
  deriving DecidableEq
def bC.pd(x:bC):PD:= .agg [.lst (x.dj.map (PD.int .i64)),.int .i64 x.bO.fX,.int .i64 x.bO.fY,.int .i64 x.bO.fZ,.int .i64 x.bT]
structure cz where
  fnext:(List Int)
  fback:(List Int)
  deriving DecidableEq
def cz.pd(x:cz):PD:= .agg [.lst (x.fnext.map (PD.int .i64)),.lst (x.fback.map (PD.int .i64))]
structure ak where
  bj:al
  bG:bg
  bM:(List aw)
  dv:Int
  deriving DecidableEq
def ak.pd(x:ak):PD:= .agg [.int .i64 x.bj.bt.fX,.int .i64 x.bj.bt.fY,.int .i64 x.bj.bt.fZ,.int .i64 x.bj.bd.fX,.int .i64 x.bj.bd.fY,.int .i64 x.bj.bd.fZ,.int .i64 x.bG.bQ,.lst (x.bG.bt.map (PD.int .i64)),.lst (x.bG.bd.map (PD.int .i64)),.lst (x.bM.map aw.pd),.int .i64 x.dv]
structure ar where
  mT:al
  dF:Int
  mA:Int
  deriving DecidableEq
def ar.pd(x:ar):PD:= .agg [.int .i64 x.mT.bt.fX,.int .i64 x.mT.bt.fY,.int .i64 x.mT.bt.fZ,.int .i64 x.mT.bd.fX,.int .i64 x.mT.bd.fY,.int .i64 x.mT.bd.fZ,.int .i64 x.dF,.int .i64 x.mA]
structure cr where
  fp:ak
  mB:(List ar)
  mA:Int
  ftaken:Int
  ffound:Bool
  cx:ap
  deriving DecidableEq
def cr.pd(x:cr):PD:= .agg [.int .i64 x.fp.bj.bt.fX,.int .i64 x.fp.bj.bt.fY,.int .i64 x.fp.bj.bt.fZ,.int .i64 x.fp.bj.bd.fX,.int .i64 x.fp.bj.bd.fY,.int .i64 x.fp.bj.bd.fZ,.int .i64 x.fp.bG.bQ,.lst (x.fp.bG.bt.map (PD.int .i64)),.lst (x.fp.bG.bd.map (PD.int .i64)),.lst (x.fp.bM.map aw.pd),.int .i64 x.fp.dv,.lst (x.mB.map ar.pd),.int .i64 x.mA,.int .i64 x.ftaken,.bool x.ffound,.int .i64 x.cx.bO.fX,.int .i64 x.cx.bO.fY,.int .i64 x.cx.bO.fZ,.int .i64 x.cx.bT,.int .i64 x.cx.cb,.int .i64 x.cx.mz,.int .i64 x.cx.cp.bt.fX,.int .i64 x.cx.cp.bt.fY,.int .i64 x.cx.cp.bt.fZ,.int .i64 x.cx.cp.bd.fX,.int .i64 x.cx.cp.bd.fY,.int .i64 x.cx.cp.bd.fZ]
structure bF where
  gN:(List aa)
  fu:(List aw)
  kl:(List az)
  deriving DecidableEq
def bF.pd(x:bF):PD:= .agg [.lst (x.gN.map aa.pd),.lst (x.fu.map aw.pd),.lst (x.kl.map az.pd)]
structure bD where
  cg:(List Int)
  b9:(List Int)
  deriving DecidableEq
def bD.pd(x:bD):PD:= .agg [.lst (x.cg.map (PD.int .i64)),.lst (x.b9.map (PD.int .i64))]
structure eE where
  deriving DecidableEq
def eE.pd(x:eE):PD:= .agg []
structure A4_Int where
  a0:Int
  a1:Int
  a2:Int
  a3:Int
  deriving DecidableEq
def A4_Int.pd(x:A4_Int):PD:= .agg [.int .i64 x.a0,.int .i64 x.a1,.int .i64 x.a2,.int .i64 x.a3]
structure o0 where
  a0:Int
  a1:Int
  deriving DecidableEq
def o0.pd(x:o0):PD:= .agg [.int .i64 x.a0,.int .i64 x.a1]
structure qq where
  a0:o0
  a1:o0
  a2:o0
  a3:o0
  a4:o0
  deriving DecidableEq
def qq.pd(x:qq):PD:= .agg [.int .i64 x.a0.a0,.int .i64 x.a0.a1,.int .i64 x.a1.a0,.int .i64 x.a1.a1,.int .i64 x.a2.a0,.int .i64 x.a2.a1,.int .i64 x.a3.a0,.int .i64 x.a3.a1,.int .i64 x.a4.a0,.int .i64 x.a4.a1]
def oS(a b:aa):Bool:=(((a.a7.bI==b.a7.bI)&&((a.a7.bw==b.a7.bw)&&((a.a7.bc==b.a7.bc)&&((a.a7.bL==b.a7.bL)&&true))))&&((a.bT==b.bT)&&((a.bu==b.bu)&&((a.co==b.co)&&((a.bH==b.bH)&&((a.bN==b.bN)&&true))))))
def kB(a0:(List Int)):Option (ai):=
  (zK a0 0 (if 2000<(a0.length:Int)then 2000 else(a0.length:Int))).bind fun f=>some (ai.mk f 0)
def Src_Raw(d0:ai):Option (Int×ai):=
  if(decide (d0.fAt>=(d0.fL.length:Int)))=true then(some (0,d0))else((oc d0.fL (Fb .i64 ((Fb .i64 (d0.fAt+1))-1))).bind fun f=>some (f,(ai.mk d0.fL (Fb .i64 (d0.fAt+1)))))
def pX(a0:Int)(a1:Int):Option (Int):=
  if(decide (a1<1))=true then(some 0)else((w5 a0 a1).bind fun f=>if(decide (f<0))=true then(some (Fb .i64 (f+a1)))else(some f))
def du(a1:Int)(d0:ai):Option (Int×ai):=
  (Src_Raw d0).bind fun f=>(pX f.1 a1).bind fun g=>some (g,f.2)
def mW(a1:Int)(d0:ai):Option (ag×ai):=
  (du (Fb .i64 ((Fb .i64 (2*a1))+1)) d0).bind fun f=>(du (Fb .i64 ((Fb .i64 (2*a1))+1)) f.2).bind fun g=>(du (Fb .i64 (a1+1)) g.2).bind fun j=>some ((ag.mk (Fb .i64 (f.1-a1)) (Fb .i64 (g.1-a1)) j.1),j.2)
def pg(a1:Int)(a2:Int)(d0:ai):Option (al×ai):=
  (mW a1 d0).bind fun f=>(du (Fb .i64 (a2+1)) f.2).bind fun g=>(du (Fb .i64 (a2+1)) g.2).bind fun j=>(du (Fb .i64 (a2+1)) j.2).bind fun k=>some ((al.mk f.1 (ag.mk (Fb .i64 (f.1.fX+g.1)) (Fb .i64 (f.1.fY+j.1)) (Fb .i64 (f.1.fZ+k.1)))),k.2)
def ei(a1:(List Int))(d0:ai):Option (Int×ai):=
  (du (a1.length:Int) d0).bind fun f=>(oc a1 f.1).bind fun g=>some (g,f.2)
def lD(H:Int×ai):(Int×Int×Int×(List Int)×Int×(List Int)×(List Int))->Option (gB (Int×Int×Int×(List Int)×Int×(List Int)×(List Int)) ((List Int)×Int×(List Int)×(List Int))):=fun(q,r,E,I,J,F,G)=>
  (tI .i64 400 H.1).bind fun u=>(du 3 (ai.mk I J)).bind fun f=>if(decide (E<=(Fb .i64 (u+f.1))))=true then((rR F [q] 8).bind fun C=>(rR G [r] 8).bind fun D=>(ei [0,10,20,35] f.2).bind fun g=>(tI .i64 H.1 4).bind fun j=>(ei [0,0,5,30] g.2).bind fun k=>some (.next ((Fb .i64 (q+(Fb .i64 (g.1+j)))),(Fb .i64 ((if(Fb .i64 (q+(Fb .i64 (g.1+j))))>r then(Fb .i64 (q+(Fb .i64 (g.1+j))))else r)+k.1)),(Fb .i64 (E+1)),k.2.fL,k.2.fAt,C,D)))else(some (.stop (f.2.fL,f.2.fAt,F,G)))
def k8(d0:ai):Option (bg×ai):=
  (ei [20,25,40,100] d0).bind fun g=>(du 3 g.2).bind fun j=>(cI (lD g) (0,j.1,0,j.2.fL,j.2.fAt,([]:(List Int)),([]:(List Int)))).bind fun f=>some ((bg.mk g.1 f.2.2.1 f.2.2.2),(ai.mk f.1 f.2.1))
def eZ(a1:Int)(d0:ai):Option (bi×ai):=
  (pg 20 a1 d0).bind fun f=>(k8 f.2).bind fun g=>(ei [10,50,200] g.2).bind fun j=>(ei [0,0,10,40] j.2).bind fun k=>(ei [0,50,200,400] k.2).bind fun q=>(ei [0,5,20] q.2).bind fun r=>(du 2 r.2).bind fun u=>some ((bi.mk f.1 g.1 j.1 k.1 q.1 r.1 (Fb .i64 (2+u.1))),u.2)
def lB(E:bg×ai):(Int×(List Int)×(List Int))->Option (gB (Int×(List Int)×(List Int)) ((List Int)×(List Int))):=fun(f,g,j)=>
  if(decide (f<(E.1.bt.length:Int)))=true then((inO g f).bind fun _=>(oc g f).bind fun k=>(tI .i64 k 3).bind fun q=>(inO j f).bind fun _=>(oc j f).bind fun r=>(tI .i64 r 3).bind fun u=>(inO g f).bind fun _=>(tO g f q).bind fun C=>(inO j f).bind fun _=>(tO j f u).bind fun D=>some (.next ((Fb .i64 (f+1)),C,D)))else(some (.stop (g,j)))
def l7(d0:ai):Option (bS×ai):=
  (k8 d0).bind fun g=>(du 20 g.2).bind fun j=>(du 9 j.2).bind fun k=>(cI (lB g) (0,g.1.bt,g.1.bd)).bind fun f=>some ((bS.mk (bg.mk g.1.bQ f.1 f.2) j.1 (Fb .i64 (1+k.1))),k.2)
def dP(a1:Int)(d0:ai):Option (ah×ai):=
  (eZ a1 d0).bind fun f=>(l7 f.2).bind fun g=>(ei [0,0,10,40] g.2).bind fun j=>some ((ah.mk f.1 g.1 j.1),j.2)
def k7:(Int×(List Int)×Int×(List bh))->Option (gB (Int×(List Int)×Int×(List bh)) ((List Int)×Int×(List bh))):=fun(s2,K,L,G)=>
  if(decide (s2>0))=true then((du 3 (ai.mk K L)).bind fun f=>if(f.1==0)=true then((ei [0,1,9,99,1048575] f.2).bind fun q=>(ei [0,0,2,9,999] q.2).bind fun g=>(rR G [(bh.mk f.1 (bR.mk (Fb .i64 (1+q.1)) 0 0) (bR.mk (Fb .i64 (1+g.1)) 0 0) [] 0 0)] 96).bind fun H=>some (.next ((Fb .i64 (s2-1)),g.2.fL,g.2.fAt,H)))else(if(f.1==1)=true then((du 5 f.2).bind fun r=>(du 7 r.2).bind fun u=>(du 3 u.2).bind fun C=>(du 5 C.2).bind fun D=>(du 7 D.2).bind fun E=>(du 3 E.2).bind fun j=>(rR G [(bh.mk f.1 (bR.mk r.1 (Fb .i64 (u.1-3)) (Fb .i64 (C.1-1))) (bR.mk (Fb .i64 (1+D.1)) E.1 j.1) [] 0 0)] 96).bind fun I=>some (.next ((Fb .i64 (s2-1)),j.2.fL,j.2.fAt,I)))else((du 3 f.2).bind fun F=>(du 4 F.2).bind fun k=>(rR G [(bh.mk f.1 (bR.mk 0 0 0) (bR.mk 0 0 0) [(Fb .i64 (1+F.1)),2,1] 1 k.1)] 96).bind fun J=>some (.next ((Fb .i64 (s2-1)),k.2.fL,k.2.fAt,J)))))else(some (.stop (K,L,G)))
def gZ(d0:ai):Option (bv×ai):=
  (du 4 d0).bind fun g=>(cI (k7) (g.1,g.2.fL,g.2.fAt,([]:(List bh)))).bind fun f=>some ((bv.mk f.2.2),(ai.mk f.1 f.2.1))
def gj(a0:Int):Option (bn):=
  (pX a0 6).bind fun f=>(oc [[83,49],[83,50],[83,51],[83,52],[83,53],[83,54]] f).bind fun g=>some (bn.mk [65,66] g [48,48] [66,72,90])
def lC(a1:Int):(Int×(List Int)×Int×(List aj))->Option (gB (Int×(List Int)×Int×(List aj)) ((List Int)×Int×(List aj))):=fun(s1,s2,F,D)=>
  if(decide (s1<a1))=true then(if(decide (s1<6))=true then((mW 60 (ai.mk s2 F)).bind fun f=>(gZ f.2).bind fun g=>(gj s1).bind fun q=>(du 6 g.2).bind fun j=>if(j.1==0)=true then((du 500 j.2).bind fun r=>(mW 60 r.2).bind fun E=>(gZ E.2).bind fun u=>(inO [(az.mk 0 100000 (cG.mk 100 1) f.1 g.1)] 0).bind fun _=>(xL [(az.mk 0 100000 (cG.mk 100 1) f.1 g.1)] 0 (fun(z22:az)=>(az.mk z22.ca (Fb .i64 (1500+r.1)) z22.nA z22.bV z22.bW))).bind fun G=>(rR G [(az.mk (Fb .i64 (1500+r.1)) 100000 (cG.mk 100 1) E.1 u.1)] 80).bind fun H=>(rR D [(aj.mk q H)] 88).bind fun I=>some (.next ((Fb .i64 (s1+1)),u.2.fL,u.2.fAt,I)))else(if(j.1==1)=true then((du 1500 j.2).bind fun C=>(inO [(az.mk 0 100000 (cG.mk 100 1) f.1 g.1)] 0).bind fun _=>(xL [(az.mk 0 100000 (cG.mk 100 1) f.1 g.1)] 0 (fun(k:az)=>(az.mk C.1 k.fTo k.nA k.bV k.bW))).bind fun J=>(rR D [(aj.mk q J)] 88).bind fun K=>some (.next ((Fb .i64 (s1+1)),C.2.fL,C.2.fAt,K)))else((rR D [(aj.mk q [(az.mk 0 100000 (cG.mk 100 1) f.1 g.1)])] 88).bind fun L=>some (.next ((Fb .i64 (s1+1)),j.2.fL,j.2.fAt,L)))))else(some (.stop (s2,F,D))))else(some (.stop (s2,F,D)))
def gP(a1:Int)(d0:ai):Option (ae×ai):=
  (cI (lC a1) (0,d0.fL,d0.fAt,([]:(List aj)))).bind fun f=>some ((ae.mk f.2.2),(ai.mk f.1 f.2.1))
def nW(a1:Int)(a2:Int)(d0:ai):Option (Int×ai):=
  (du (Fb .i64 ((Fb .i64 (a2-a1))+1)) d0).bind fun f=>some ((Fb .i64 (a1+f.1)),f.2)
def oQ(a1:al)(d0:ai):Option (ag×ai):=
  (nW a1.bt.fX a1.bd.fX d0).bind fun f=>(nW a1.bt.fY a1.bd.fY f.2).bind fun g=>(nW a1.bt.fZ a1.bd.fZ g.2).bind fun j=>some ((ag.mk f.1 g.1 j.1),j.2)
def od(f:aj)(a1:bn)(a2:Int)(s1:Int):Int->Option (gB (Int) ((Int)⊕(ag×Bool))):=fun g=>
  if(decide (g<(f.ct.length:Int)))=true then((oc f.ct g).bind fun j=>if((f.a7.bI==a1.bI)&&((f.a7.bw==a1.bw)&&((f.a7.bc==a1.bc)&&((f.a7.bL==a1.bL)&&true))))=true then(if(decide (j.ca<=a2))=true then(if(decide (a2<j.fTo))=true then(some (.stop (.inr (j.bV,true))))else(some (.next (Fb .i64 (g+1)))))else(some (.next (Fb .i64 (g+1)))))else(some (.next (Fb .i64 (g+1)))))else(some (.stop (.inl s1)))
def oe(a0:ae)(a1:bn)(a2:Int):Int->Option (gB (Int) ((Unit)⊕(ag×Bool))):=fun s1=>
  if(decide (s1<(a0.a8.length:Int)))=true then((oc a0.a8 s1).bind fun k=>(cI (od k a1 a2 s1) 0).bind fun f=>match f with| .inl j=>(some (.next (Fb .i64 (j+1))))| .inr g=>(some (.stop (.inr g))))else(some (.stop (.inl ())))
def px(a0:ae)(a1:bn)(a2:Int):Option (ag×Bool):=
  (cI (oe a0 a1 a2) 0).bind fun f=>match f with| .inl _=>(some ((ag.mk 0 0 0),false))| .inr g=>(some g)
def qu(a0:Int):Option (Int):=
  some (Fb .i64 (a0*a0))
def jO(G:bn)(H:Int×ai)(I:Int×ai)(k:Int)(q:Int)(r:(List Int))(u:Int)(C:(List aa))(D:Int)(E:Int)(F:Int)(f:Int):Option (gB (Int×Int×(List Int)×Int×(List aa)×Int×Int×Int) ((List aa)×(List Int)×Int)):=
  (du 5 (ai.mk r u)).bind fun g=>(du 5 g.2).bind fun j=>(rR C [(aa.mk G (Fb .i64 (f+g.1)) f (Fb .i64 ((Fb .i64 (f+g.1))+j.1)) H.1 (Fb .i64 (I.1-1)))] 104).bind fun J=>some (.next (k,(Fb .i64 (q-1)),j.2.fL,j.2.fAt,J,D,E,F))
def ni(g:ag×Bool)(C:Int)(j:Int)(k:Int)(D:Int)(E:Int)(F:(List aa)):Int->Option (gB (Int) (Int×Int×Int×(List aa)×Int×Int×Int)):=fun f=>
  (qu (Fb .i64 (g.1.fX-C))).bind fun q=>(qu (Fb .i64 (g.1.fY-j))).bind fun r=>(qu (Fb .i64 (g.1.fZ-k))).bind fun u=>if(decide ((Fb .i64 (f*f))<(Fb .i64 ((Fb .i64 (q+r))+u))))=true then(some (.next (Fb .i64 (f+1))))else(some (.stop (D,E,f,F,C,j,k)))
def oH(a1:ah)(a2:ae):(Int×Int×(List Int)×Int×(List aa)×Int×Int×Int)->Option (gB (Int×Int×(List Int)×Int×(List aa)×Int×Int×Int) ((List aa)×(List Int)×Int)):=fun(G,H,Q,T,I,N,C,D)=>
  if(decide (H>0))=true then((du 6 (ai.mk Q T)).bind fun J=>(gj J.1).bind fun j=>(ei [0,1,50,1000,1048576] J.2).bind fun k=>(du 3 k.2).bind fun q=>(du 2000 q.2).bind fun r=>(du 6 r.2).bind fun g=>if(g.1==0)=true then((oQ a1.ac.bj g.2).bind fun u=>(du 900 u.2).bind fun E=>jO j k q (Fb .i64 (G+E.1)) H E.2.fL E.2.fAt I u.1.fX u.1.fY u.1.fZ (Fb .i64 (1000+r.1)))else(if(g.1==1)=true then(jO j k q G H g.2.fL g.2.fAt I N C D (Fb .i64 (1000+r.1)))else((px a2 j G).bind fun K=>if K.2=true then((cI (ni K N C D G H I) 0).bind fun f=>(tI .i64 f.2.2.1 a1.ac.bG.bQ).bind fun L=>(oc a1.ac.bG.bt (if(Fb .i64 ((a1.ac.bG.bt.length:Int)-1))<L then(Fb .i64 ((a1.ac.bG.bt.length:Int)-1))else L)).bind fun O=>(du 6 g.2).bind fun F=>jO j k q f.1 f.2.1 F.2.fL F.2.fAt f.2.2.2.1 f.2.2.2.2.1 f.2.2.2.2.2.1 f.2.2.2.2.2.2 (Fb .i64 ((Fb .i64 (f.1+O))+F.1)))else(jO j k q G H g.2.fL g.2.fAt I N C D (Fb .i64 (1000+r.1))))))else(some (.stop (I,Q,T)))
def k6(a1:ah)(a2:ae)(a3:Int)(d0:ai):Option ((List aa)×ai):=
  (oQ a1.ac.bj d0).bind fun g=>(du 500 g.2).bind fun k=>(du (Fb .i64 (a3+1)) k.2).bind fun j=>(cI (oH a1 a2) ((Fb .i64 (1000+k.1)),j.1,j.2.fL,j.2.fAt,([]:(List aa)),g.1.fX,g.1.fY,g.1.fZ)).bind fun f=>some (f.1,(ai.mk f.2.1 f.2.2))
def b8(a0:ag):Option (bR):=
  some (bR.mk a0.fX a0.fY a0.fZ)
def ej(a0:ag):Option (Bool):=
  (b8 a0).bind fun f=>if(decide (f.a0<(-1048576)))=true then(some false)else(if(decide (f.a0>1048576))=true then(some false)else(if(decide (f.a1<(-1048576)))=true then(some false)else(if(decide (f.a1>1048576))=true then(some false)else(if(decide (f.a2<(-16384)))=true then(some false)else(if(decide (f.a2>1048576))=true then(some false)else(some true))))))
def cu(a0:al):Option (Bool):=
  (ej a0.bt).bind fun j=>if(!j)=true then(some false)else((ej a0.bd).bind fun k=>if(!k)=true then(some false)else((b8 a0.bd).bind fun f=>(b8 a0.bt).bind fun g=>if(decide (g.a0>f.a0))=true then(some false)else(if(decide (g.a1>f.a1))=true then(some false)else(if(decide (g.a2>f.a2))=true then(some false)else(some true)))))
def lz(a0:bg):(Int×Int×Int)->Option (gB (Int×Int×Int) ((Unit)⊕(Int))):=fun(D,E,f)=>
  if(decide (f<(a0.bt.length:Int)))=true then((oc a0.bt f).bind fun g=>if(decide (g<D))=true then(some (.stop (.inr 21)))else((oc a0.bd f).bind fun j=>if(decide (j<E))=true then(some (.stop (.inr 21)))else((oc a0.bt f).bind fun k=>(oc a0.bd f).bind fun q=>if(decide (k>q))=true then(some (.stop (.inr 21)))else((oc a0.bd f).bind fun r=>if(decide (r>1099511627776))=true then(some (.stop (.inr 21)))else((oc a0.bt f).bind fun u=>(oc a0.bd f).bind fun C=>some (.next (u,C,(Fb .i64 (f+1)))))))))else(some (.stop (.inl ())))
def er(a0:bg):Option (Int):=
  if(decide (a0.bQ<1))=true then(some 21)else(if(decide (a0.bQ>1048576))=true then(some 21)else(if((a0.bt.length:Int) != (a0.bd.length:Int))=true then(some 21)else(if(decide ((a0.bt.length:Int)<2))=true then(some 21)else(if(decide ((a0.bt.length:Int)>256))=true then(some 21)else((cI (lz a0) (0,0,0)).bind fun f=>match f with| .inl _=>(some 0)| .inr g=>(some g))))))
def fr(a0:Int)(a1:Int)(a2:Int):Option (Bool):=
  if(decide (a0>=a1))=true then(some (decide (a0<=a2)))else(some false)
def gq(a0:aw):Option (Bool):=
  (ej a0.bw).bind fun f=>if f=true then(if(decide (a0.bu>=0))=true then(if(decide (a0.bu<=a0.co))=true then(if(decide (a0.co<=18014398509481984))=true then(if(decide (a0.cC>=1))=true then(some (decide (a0.cC<=100)))else(some false))else(some false))else(some false))else(some false))else(some false)
def gu(a0:Int)(a1:Int)(a2:Int):Option (Int):=
  some (if 0>(if(Fb .i64 (a0-a2))>(Fb .i64 (a1-a0))then(Fb .i64 (a0-a2))else(Fb .i64 (a1-a0)))then 0 else(if(Fb .i64 (a0-a2))>(Fb .i64 (a1-a0))then(Fb .i64 (a0-a2))else(Fb .i64 (a1-a0))))
def jt(a0:al)(a1:ag):Option (Int):=
  (cu a0).bind fun u=>if(!u)=true then(some 0)else((ej a1).bind fun C=>if(!C)=true then(some 0)else((b8 a0.bt).bind fun g=>(b8 a0.bd).bind fun j=>(b8 a1).bind fun k=>(gu k.a0 g.a0 j.a0).bind fun q=>(gu k.a1 g.a1 j.a1).bind fun r=>(gu k.a2 g.a2 j.a2).bind fun f=>some (Fb .i64 ((Fb .i64 ((Fb .i64 (0+(Fb .i64 (q*q))))+(Fb .i64 (r*r))))+(Fb .i64 (f*f))))))
def gh(a0:al)(a1:ag):Option (Int):=
  (jt a0 a1).bind fun f=>some f
def fQ(a0:Int)(a1:Int)(a2:Int):Option (Int):=
  some (if(Fb .i64 (a0-a1))>(Fb .i64 (a2-a0))then(Fb .i64 (a0-a1))else(Fb .i64 (a2-a0)))
def iT(a0:al)(a1:ag):Option (Int):=
  (cu a0).bind fun u=>if(!u)=true then(some 0)else((ej a1).bind fun C=>if(!C)=true then(some 0)else((b8 a0.bt).bind fun g=>(b8 a0.bd).bind fun j=>(b8 a1).bind fun k=>(fQ k.a0 g.a0 j.a0).bind fun q=>(fQ k.a1 g.a1 j.a1).bind fun r=>(fQ k.a2 g.a2 j.a2).bind fun f=>some (Fb .i64 ((Fb .i64 ((Fb .i64 (0+(Fb .i64 (q*q))))+(Fb .i64 (r*r))))+(Fb .i64 (f*f))))))
def jr(a0:al)(a1:ag):Option (Int):=
  (iT a0 a1).bind fun f=>some f
def nj(a0:bg)(a1:al)(a2:ag):Option (bg×Int×Int):=
  (gh a1 a2).bind fun f=>(jr a1 a2).bind fun g=>some (a0,f,g)
def lE(f:Int)(g:Int):Option (Int):=
  if(decide (f>=256))=true then((wW [0,1,2,2,3,3,3,3,4,4,4,4,4,4,4,4,5,5,5,5,5,5,5,5,5,5,5,5,5,5,5,5,6,6,6,6,6,6,6,6,6,6,6,6,6,6,6,6,6,6,6,6,6,6,6,6,6,6,6,6,6,6,6,6,7,7,7,7,7,7,7,7,7,7,7,7,7,7,7,7,7,7,7,7,7,7,7,7,7,7,7,7,7,7,7,7,7,7,7,7,7,7,7,7,7,7,7,7,7,7,7,7,7,7,7,7,7,7,7,7,7,7,7,7,7,7,7,7,8,8,8,8,8,8,8,8,8,8,8,8,8,8,8,8,8,8,8,8,8,8,8,8,8,8,8,8,8,8,8,8,8,8,8,8,8,8,8,8,8,8,8,8,8,8,8,8,8,8,8,8,8,8,8,8,8,8,8,8,8,8,8,8,8,8,8,8,8,8,8,8,8,8,8,8,8,8,8,8,8,8,8,8,8,8,8,8,8,8,8,8,8,8,8,8,8,8,8,8,8,8,8,8,8,8,8,8,8,8,8,8,8,8,8,8,8,8,8,8,8,8,8,8,8,8,8,8] (Fb .u8 (sl .u64 f 8))).bind fun j=>some (Fb .i64 ((Fb .i64 (g+8))+(Fb .i64 j))))else((wW [0,1,2,2,3,3,3,3,4,4,4,4,4,4,4,4,5,5,5,5,5,5,5,5,5,5,5,5,5,5,5,5,6,6,6,6,6,6,6,6,6,6,6,6,6,6,6,6,6,6,6,6,6,6,6,6,6,6,6,6,6,6,6,6,7,7,7,7,7,7,7,7,7,7,7,7,7,7,7,7,7,7,7,7,7,7,7,7,7,7,7,7,7,7,7,7,7,7,7,7,7,7,7,7,7,7,7,7,7,7,7,7,7,7,7,7,7,7,7,7,7,7,7,7,7,7,7,7,8,8,8,8,8,8,8,8,8,8,8,8,8,8,8,8,8,8,8,8,8,8,8,8,8,8,8,8,8,8,8,8,8,8,8,8,8,8,8,8,8,8,8,8,8,8,8,8,8,8,8,8,8,8,8,8,8,8,8,8,8,8,8,8,8,8,8,8,8,8,8,8,8,8,8,8,8,8,8,8,8,8,8,8,8,8,8,8,8,8,8,8,8,8,8,8,8,8,8,8,8,8,8,8,8,8,8,8,8,8,8,8,8,8,8,8,8,8,8,8,8,8,8,8,8,8,8,8] (Fb .u8 f)).bind fun k=>some (Fb .i64 (g+(Fb .i64 k))))
def kr(f:Int)(g:Int):Option (Int):=
  if(decide (f>=65536))=true then(lE (sl .u64 f 16) (Fb .i64 (g+16)))else(lE f g)
def n7(a0:Int):Option (Int):=
  if(decide (a0>=4294967296))=true then(kr (sl .u64 a0 32) 32)else(kr a0 0)
def ia(a0:Int):Option (Int):=
  (n7 a0).bind fun f=>some f
def js(a0:Int):(Int×Int)->Option (gB (Int×Int) (Int)):=fun(g,f)=>
  if(decide (f>0))=true then((tI .i64 a0 (orI .i64 g f)).bind fun j=>if(decide ((orI .i64 g f)<=j))=true then(some (.next ((orI .i64 g f),(sl .i64 f 1))))else(some (.next (g,(sl .i64 f 1)))))else(some (.stop g))
def kA(a0:Int):Option (Int):=
  if(decide (a0<=0))=true then(some 0)else((ia (Fb .u64 a0)).bind fun g=>(tI .i64 (Fb .i64 (g-1)) 2).bind fun j=>(yF .i64 1 j).bind fun k=>(cI (js a0) (0,k)).bind fun f=>some f)
def nk(a0:Int):Option (Int):=
  (kA a0).bind fun f=>if(decide ((Fb .i64 (f*f))<a0))=true then(some (Fb .i64 (f+1)))else(some f)
def nU(a0:bg):Option (Int):=
  some (Fb .i64 (a0.bQ*(Fb .i64 ((a0.bt.length:Int)-1))))
def iP(a0:Int)(d0:bg)(d1:Int):Option (Bool):=
  some (decide ((Fb .i64 (a0*d0.bQ))>=d1))
def iN(d0:bg)(d1:Int):(Int×Int)->Option (gB (Int×Int) (Int)):=fun(s1,s2)=>
  if(decide (s1<s2))=true then((iP (Fb .i64 (sl .u64 (Fb .u64 (Fb .i64 (s1+s2))) 1)) d0 d1).bind fun f=>if(!f)=true then(some (.next ((Fb .i64 ((Fb .i64 (sl .u64 (Fb .u64 (Fb .i64 (s1+s2))) 1))+1)),s2)))else(some (.next (s1,(Fb .i64 (sl .u64 (Fb .u64 (Fb .i64 (s1+s2))) 1))))))else(some (.stop s1))
def gy(a0:Int)(d0:bg)(d1:Int):Option (Int):=
  (cI (iN d0 d1) (0,a0)).bind fun f=>some f
def dp(a0:bg)(a1:Int)(a2:Int):Option (Int×Int×Int):=
  (er a0).bind fun q=>if(q != 0)=true then(some (0,0,21))else(if(decide (a1<0))=true then(some (0,0,2))else(if(decide (a1>a2))=true then(some (0,0,2))else((nk a2).bind fun k=>(nU a0).bind fun r=>if(decide (k>r))=true then(some (0,0,22))else((gy (a0.bd.length:Int) a0 k).bind fun u=>(kA a1).bind fun C=>(tI .i64 C a0.bQ).bind fun f=>(oc a0.bt f).bind fun g=>(oc a0.bd u).bind fun j=>some (g,j,0)))))
def mo(a0:bg)(a1:al)(a2:ag):Option (Int×Int×Int):=
  (er a0).bind fun j=>if(j != 0)=true then(some (0,0,j))else((cu a1).bind fun k=>if(!k)=true then(some (0,0,20))else((ej a2).bind fun q=>if(!q)=true then(some (0,0,20))else((nj a0 a1 a2).bind fun f=>(dp f.1 f.2.1 f.2.2).bind fun g=>some (g.1,g.2.1,g.2.2))))
def eI(a0:bg)(a1:al)(a2:aw):Option (bz×Int):=
  (er a0).bind fun g=>if(g != 0)=true then(some ((bz.mk 0 0),g))else((cu a1).bind fun j=>if(!j)=true then(some ((bz.mk 0 0),20))else((gq a2).bind fun k=>if(!k)=true then(some ((bz.mk 0 0),23))else((mo a0 a1 a2.bw).bind fun f=>if(f.2.2 != 0)=true then(some ((bz.mk 0 0),f.2.2))else(some ((bz.mk (Fb .i64 (a2.bu-f.2.1)) (Fb .i64 (a2.co-f.1))),0)))))
def dt(a1:(List aw))(a0:bi):Int->Option (gB (Int) ((Unit)⊕(Int))):=fun f=>
  if(decide (f<(a1.length:Int)))=true then((oc a1 f).bind fun j=>(eI a0.bG a0.bj j).bind fun g=>if(g.2 != 0)=true then(some (.stop (.inr g.2)))else(some (.next (Fb .i64 (f+1)))))else(some (.stop (.inl ())))
def et(a0:bi)(a1:(List aw)):Option (Int):=
  (cu a0.bj).bind fun q=>if(!q)=true then(some 27)else((er a0.bG).bind fun r=>if(r != 0)=true then(some 27)else((fr a0.dv 1 1099511627776).bind fun u=>if(!u)=true then(some 27)else((fr a0.bA 0 1099511627776).bind fun C=>if(!C)=true then(some 27)else((fr a0.dJ 0 1099511627776).bind fun D=>if(!D)=true then(some 27)else((fr a0.ch 0 1099511627776).bind fun j=>if(!j)=true then(some 27)else((fr a0.cn 2 16).bind fun k=>if(!k)=true then(some 27)else(if(decide ((a1.length:Int)>256))=true then(some 8)else((cI (dt a1 a0) 0).bind fun f=>match f with| .inl _=>(some 0)| .inr g=>(some g)))))))))
def dK(a0:bS):Option (Bool):=
  (er a0.bB).bind fun f=>if(f==0)=true then(if(decide (a0.cg>=0))=true then(if(decide (a0.cg<=65536))=true then(if(decide (a0.b9>=1))=true then(some (decide (a0.b9<=65536)))else(some false))else(some false))else(some false))else(some false)
def eM(a0:ah):Option (Int):=
  (et a0.ac []).bind fun f=>if(f != 0)=true then(some 27)else((dK a0.bK).bind fun g=>if(!g)=true then(some 27)else(if(decide (a0.bA<0))=true then(some 27)else(if(decide (a0.bA>1099511627776))=true then(some 27)else(some 0))))
def nT(a0:Int):Option (Bool):=
  if(decide (a0>=65))=true then(if(decide (a0<=90))=true then(some true)else(if(decide (a0>=48))=true then(some (decide (a0<=57)))else(some false)))else(if(decide (a0>=48))=true then(some (decide (a0<=57)))else(some false))
def kZ(a0:(List UInt8)):Int->Option (gB (Int) ((Unit)⊕(Bool))):=fun s1=>
  if(decide (s1<(a0.length:Int)))=true then((wW a0 s1).bind fun f=>(nT f).bind fun g=>if(!g)=true then(some (.stop (.inr false)))else(some (.next (Fb .i64 (s1+1)))))else(some (.stop (.inl ())))
def kY(a0:(List UInt8))(a1:Int)(a2:Int):Option (Bool):=
  (cI (kZ a0) 0).bind fun g=>match g with| .inl _=>(if(decide ((a0.length:Int)>=a1))=true then(some (decide ((a0.length:Int)<=a2)))else(some false))| .inr f=>(some f)
def mQ(a0:bn):Option (Bool):=
  (kY a0.bI 1 2).bind fun f=>if f=true then((kY a0.bw 1 5).bind fun g=>if g=true then((kY a0.bc 0 2).bind fun j=>if j=true then(if((a0.bc.length:Int) != 1)=true then((kY a0.bL 3 3).bind fun k=>some k)else(some false))else(some false))else(some false))else(some false)
def rate_in(a0:Int)(a1:Int)(a2:Int):Option (Bool):=
  if(decide (a0>=a1))=true then(some (decide (a0<=a2)))else(some false)
def rate_gcd_l7:(Int×Int)->Option (gB (Int×Int) (Int)):=fun(s1,s2)=>
  if(s2 != 0)=true then((w5 s1 s2).bind fun f=>some (.next (s2,f)))else(some (.stop s1))
def rate_gcd(a0:Int)(a1:Int):Option (Int):=
  (cI (rate_gcd_l7) (a0,a1)).bind fun f=>some f
def pC(a0:cG):Option (Bool):=
  (rate_in a0.cg 1 4096).bind fun f=>if f=true then((rate_in a0.b9 1 4096).bind fun g=>if g=true then((rate_gcd a0.cg a0.b9).bind fun j=>some (j==1))else(some false))else(some false)
def cU(a0:Int)(a1:Int)(a2:Int):Option (Bool):=
  if(decide (a0>=a1))=true then(some (decide (a0<=a2)))else(some false)
def lw(a0:Int):Option (Bool):=
  (cU a0 (-1048576) 1048576).bind fun f=>some (!f)
def ep(a0:(List Int)):Int->Option (gB (Int) ((Unit)⊕(Int))):=fun s1=>
  if(decide (s1<(a0.length:Int)))=true then((oc a0 s1).bind fun f=>(lw f).bind fun g=>if g=true then(some (.stop (.inr s1)))else(some (.next (Fb .i64 (s1+1)))))else(some (.stop (.inl ())))
def gO(a0:(List Int)):Option (Int):=
  (cI (ep a0) 0).bind fun g=>match g with| .inl _=>(some (-1))| .inr f=>(some f)
def fU(a0:(List Int)):Option (Bool):=
  (gO a0).bind fun f=>some (decide (f>=0))
def dM(a0:(List Int)):Option (Bool):=
  (fU a0).bind fun f=>some (!f)
def nH(a0:(List Int)):(Int×Int)->Option (gB (Int×Int) (Int)):=fun(s1,s2)=>
  if(decide (s2<(a0.length:Int)))=true then((oc a0 s2).bind fun f=>some (.next ((Fb .i64 (s1+f)),(Fb .i64 (s2+1)))))else(some (.stop s1))
def gc(a0:(List Int)):Option (Int):=
  (cI (nH a0) (0,0)).bind fun f=>some f
def d9(a0:bh):Option (Bool):=
  if((a0.eC.length:Int)==0)=true then(if(a0.eJ==0)=true then(if(a0.kk==0)=true then(if(a0.fc==0)=true then(if((a0.cg.a0==a0.cg.a0)&&((a0.cg.a1==0)&&((a0.cg.a2==0)&&true)))=true then(if((a0.b9.a0==a0.b9.a0)&&((a0.b9.a1==0)&&((a0.b9.a2==0)&&true)))=true then((cU a0.cg.a0 1 1048576).bind fun N=>if N=true then((cU a0.b9.a0 1 1048576).bind fun O=>some O)else(some false))else(some false))else(some false))else(some false))else(if(a0.kk==1)=true then(if(a0.fc==0)=true then((dM [a0.cg.a0,a0.cg.a1,a0.cg.a2]).bind fun f=>if f=true then((dM [a0.b9.a0,a0.b9.a1,a0.b9.a2]).bind fun g=>if g=true then(some (a0.b9.a0 != 0))else(some false))else(some false))else(some false))else(if(a0.kk==2)=true then(if((a0.cg.a0==0)&&((a0.cg.a1==0)&&((a0.cg.a2==0)&&true)))=true then(if((a0.b9.a0==0)&&((a0.b9.a1==0)&&((a0.b9.a2==0)&&true)))=true then((cU (a0.eC.length:Int) 1 128).bind fun j=>if j=true then((dM a0.eC).bind fun k=>if k=true then((gc a0.eC).bind fun q=>if(q != 0)=true then((cU a0.eJ 1 64).bind fun r=>if r=true then((cU a0.fc 0 40).bind fun u=>some u)else(some false))else(some false))else(some false))else(some false))else(some false))else(some false))else(some false))))else(if(a0.kk==0)=true then(some false)else(if(a0.kk==1)=true then(some false)else(if(a0.kk==2)=true then(if((a0.cg.a0==0)&&((a0.cg.a1==0)&&((a0.cg.a2==0)&&true)))=true then(if((a0.b9.a0==0)&&((a0.b9.a1==0)&&((a0.b9.a2==0)&&true)))=true then((cU (a0.eC.length:Int) 1 128).bind fun C=>if C=true then((dM a0.eC).bind fun D=>if D=true then((gc a0.eC).bind fun E=>if(E != 0)=true then((cU a0.eJ 1 64).bind fun F=>if F=true then((cU a0.fc 0 40).bind fun G=>some G)else(some false))else(some false))else(some false))else(some false))else(some false))else(some false))else(some false)))))else(if(a0.kk==0)=true then(some false)else(if(a0.kk==1)=true then(some false)else(if(a0.kk==2)=true then(if((a0.cg.a0==0)&&((a0.cg.a1==0)&&((a0.cg.a2==0)&&true)))=true then(if((a0.b9.a0==0)&&((a0.b9.a1==0)&&((a0.b9.a2==0)&&true)))=true then((cU (a0.eC.length:Int) 1 128).bind fun H=>if H=true then((dM a0.eC).bind fun I=>if I=true then((gc a0.eC).bind fun J=>if(J != 0)=true then((cU a0.eJ 1 64).bind fun K=>if K=true then((cU a0.fc 0 40).bind fun L=>some L)else(some false))else(some false))else(some false))else(some false))else(some false))else(some false))else(some false))))
def lv(a0:bh):Option (Bool):=
  (d9 a0).bind fun f=>some (!f)
def dT(a0:(List bh)):Int->Option (gB (Int) ((Unit)⊕(Int))):=fun s1=>
  if(decide (s1<(a0.length:Int)))=true then((oc a0 s1).bind fun f=>(lv f).bind fun g=>if g=true then(some (.stop (.inr s1)))else(some (.next (Fb .i64 (s1+1)))))else(some (.stop (.inl ())))
def gf(a0:(List bh)):Option (Int):=
  (cI (dT a0) 0).bind fun g=>match g with| .inl _=>(some (-1))| .inr f=>(some f)
def dS(a0:(List bh)):Option (Bool):=
  (gf a0).bind fun f=>some (decide (f>=0))
def jD(a0:(List bh)):(Int×Int)->Option (gB (Int×Int) ((Int)⊕(Int))):=fun(s1,s2)=>
  if(decide (s2<(a0.length:Int)))=true then((oc a0 s2).bind fun f=>if(f.kk != 2)=true then(some (.next (s1,(Fb .i64 (s2+1)))))else(if(decide ((Fb .i64 (s1*f.eJ))>64))=true then(some (.stop (.inr 0)))else(some (.next ((Fb .i64 (s1*f.eJ)),(Fb .i64 (s2+1)))))))else(some (.stop (.inl s1)))
def lU(a0:(List bh)):Option (Int):=
  (cI (jD a0) (1,0)).bind fun f=>match f with| .inl j=>(some j)| .inr g=>(some g)
def kU(a0:bv):Option (Bool):=
  if(decide ((a0.cV.length:Int)>8))=true then(some false)else((dS a0.cV).bind fun f=>if f=true then(some false)else((lU a0.cV).bind fun g=>some (decide (g>0))))
def ik(a0:Int)(a1:Int)(a2:Int):Option (Bool):=
  if(decide (a0>=a1))=true then(some (decide (a0<=a2)))else(some false)
def ie(a0:az):Option (Bool):=
  if(decide (a0.ca>=0))=true then(if(decide (a0.ca<a0.fTo))=true then(if(decide (a0.fTo<=9007199254740992))=true then((pC a0.nA).bind fun j=>if j=true then((kU a0.bW).bind fun k=>if k=true then((ik a0.bV.fX (-1048576) 1048576).bind fun q=>if q=true then((ik a0.bV.fY (-1048576) 1048576).bind fun f=>if f=true then((ik a0.bV.fZ (-16384) 1048576).bind fun g=>some g)else(some false))else(some false))else(some false))else(some false))else(some false))else(some false))else(some false)
def ij(a0:(List az)):Int->Option (gB (Int) ((Unit)⊕(Bool))):=fun s1=>
  if(decide (s1<(a0.length:Int)))=true then((oc a0 s1).bind fun f=>(ie f).bind fun g=>if(!g)=true then(some (.stop (.inr false)))else(if(decide (s1>0))=true then((oc a0 (Fb .i64 (s1-1))).bind fun j=>if(decide (f.ca<j.fTo))=true then(some (.stop (.inr false)))else(some (.next (Fb .i64 (s1+1)))))else(some (.next (Fb .i64 (s1+1))))))else(some (.stop (.inl ())))
def ld(a0:(List az)):Option (Bool):=
  (cI (ij a0) 0).bind fun f=>match f with| .inl _=>((ik (a0.length:Int) 1 32).bind fun j=>some j)| .inr g=>(some g)
def iR(a0:(List UInt8)):Option (Bool):=
  some (!(a0==a0))
def dH(a0:(List UInt8))(a1:(List UInt8)):Option (Int):=
  (iR a0).bind fun g=>(iR a1).bind fun f=>if g=true then(if f=true then(some 0)else(some (-1)))else(if f=true then(some 1)else(if(Op.bytesLess a0 a1)=true then(some (-1))else(if(!(Op.bytesLess a0 a1||a0==a1))=true then(some 1)else(some 0))))
def eF(a0:(List Int)):Int->Option (gB (Int) ((Unit)⊕(Int))):=fun s1=>
  if(decide (s1<(a0.length:Int)))=true then((oc a0 s1).bind fun f=>if(f != 0)=true then(some (.stop (.inr f)))else(some (.next (Fb .i64 (s1+1)))))else(some (.stop (.inl ())))
def dI(a0:(List Int)):Option (Int):=
  (cI (eF a0) 0).bind fun f=>match f with| .inl _=>(some 0)| .inr g=>(some g)
def jj(a0:bn)(a1:bn):Option (Int):=
  (dH a0.bI a1.bI).bind fun f=>(dH a0.bw a1.bw).bind fun g=>(dH a0.bc a1.bc).bind fun j=>(dH a0.bL a1.bL).bind fun k=>(dI [f,g,j,k]).bind fun q=>some q
def iF(a0:ae):Int->Option (gB (Int) ((Unit)⊕(Bool))):=fun s1=>
  if(decide (s1<(a0.a8.length:Int)))=true then((oc a0.a8 s1).bind fun j=>(mQ j.a7).bind fun k=>if(!k)=true then(some (.stop (.inr false)))else((ld j.ct).bind fun q=>if(!q)=true then(some (.stop (.inr false)))else(if(decide (s1>0))=true then((oc a0.a8 (Fb .i64 (s1-1))).bind fun f=>(jj f.a7 j.a7).bind fun g=>if(decide (g>=0))=true then(some (.stop (.inr false)))else(some (.next (Fb .i64 (s1+1)))))else(some (.next (Fb .i64 (s1+1)))))))else(some (.stop (.inl ())))
def cO(a0:ae):Option (Bool):=
  (cI (iF a0) 0).bind fun f=>match f with| .inl _=>(some (decide ((a0.a8.length:Int)<=128)))| .inr g=>(some g)
def m9(a0:Int)(a1:Int)(a2:Int):Option (Bool):=
  if(decide (a0>=a1))=true then(some (decide (a0<=a2)))else(some false)
def iW(a0:aa):Option (Bool):=
  (mQ a0.a7).bind fun f=>if f=true then(if(decide (a0.bu>=0))=true then(if(decide (a0.bu<=a0.bT))=true then(if(decide (a0.bT<=a0.co))=true then(if(decide (a0.co<=18014398509481984))=true then((m9 a0.bH 0 1073741823).bind fun g=>if g=true then((m9 a0.bN (-1) 1).bind fun j=>some j)else(some false))else(some false))else(some false))else(some false))else(some false))else(some false)
def kc(a0:aa):Option (Bool):=
  (iW a0).bind fun f=>some (!f)
def ed(a0:(List aa)):Int->Option (gB (Int) ((Unit)⊕(Int))):=fun s1=>
  if(decide (s1<(a0.length:Int)))=true then((oc a0 s1).bind fun f=>(kc f).bind fun g=>if g=true then(some (.stop (.inr s1)))else(some (.next (Fb .i64 (s1+1)))))else(some (.stop (.inl ())))
def gD(a0:(List aa)):Option (Int):=
  (cI (ed a0) 0).bind fun g=>match g with| .inl _=>(some (-1))| .inr f=>(some f)
def fK(a0:(List aa)):Option (Bool):=
  (gD a0).bind fun f=>some (decide (f>=0))
def gt(a0:(List aa)):Option (Bool):=
  (fK a0).bind fun f=>some (!f)
def lF(a0:Int):Option (Bool):=
  some (a0 != a0)
def cj(a0:Int)(a1:Int):Option (Int):=
  (lF a0).bind fun g=>(lF a1).bind fun f=>if g=true then(if f=true then(some 0)else(some (-1)))else(if f=true then(some 1)else(if(decide (a0<a1))=true then(some (-1))else(if(decide (a0>a1))=true then(some 1)else(some 0))))
def cS(a0:aa)(a1:aa):Option (Int):=
  (jj a0.a7 a1.a7).bind fun f=>(cj a0.bT a1.bT).bind fun g=>(cj a0.bu a1.bu).bind fun j=>(cj a0.co a1.co).bind fun k=>(cj a0.bH a1.bH).bind fun q=>(cj a0.bN a1.bN).bind fun r=>(dI [f,g,j,k,q,r]).bind fun u=>some u
def jf(s2:Int)(d0:(List aa)):(Int×Int×(List aa))->Option (gB (Int×Int×(List aa)) (Int×(List aa))):=fun(q,g,f)=>
  (lenV f.length (0+(s2:Int).toNat) (0+((d0.length:Int):Int).toNat)).bind fun r=>if(decide (g<r))=true then((inV f.length (0+(s2:Int).toNat) (0+((d0.length:Int):Int).toNat) g).bind fun _=>(oc f (((0+(s2:Int).toNat)+(g:Int).toNat:Nat):Int)).bind fun j=>(inV f.length (0+(s2:Int).toNat) (0+((d0.length:Int):Int).toNat) (Fb .i64 (g-1))).bind fun _=>(oc f (((0+(s2:Int).toNat)+((Fb .i64 (g-1)):Int).toNat:Nat):Int)).bind fun k=>if(!(((j.a7.bI==k.a7.bI)&&((j.a7.bw==k.a7.bw)&&((j.a7.bc==k.a7.bc)&&((j.a7.bL==k.a7.bL)&&true))))&&((j.bT==k.bT)&&((j.bu==k.bu)&&((j.co==k.co)&&((j.bH==k.bH)&&((j.bN==k.bN)&&true)))))))=true then((inV f.length (0+(s2:Int).toNat) (0+((d0.length:Int):Int).toNat) g).bind fun _=>(oc f (((0+(s2:Int).toNat)+(g:Int).toNat:Nat):Int)).bind fun u=>(inO f q).bind fun _=>(tO f q u).bind fun C=>some (.next ((Fb .i64 (q+1)),(Fb .i64 (g+1)),C)))else(some (.next (q,(Fb .i64 (g+1)),f))))else(some (.stop (q,f)))
def jg(d0:(List aa)):Int->Option (gB (Int) ((Unit)⊕((List aa)))):=fun s2=>
  if(decide (s2<(d0.length:Int)))=true then((inO d0 s2).bind fun _=>(oc d0 s2).bind fun j=>(inO d0 (Fb .i64 (s2-1))).bind fun _=>(oc d0 (Fb .i64 (s2-1))).bind fun g=>if(((j.a7.bI==g.a7.bI)&&((j.a7.bw==g.a7.bw)&&((j.a7.bc==g.a7.bc)&&((j.a7.bL==g.a7.bL)&&true))))&&((j.bT==g.bT)&&((j.bu==g.bu)&&((j.co==g.co)&&((j.bH==g.bH)&&((j.bN==g.bN)&&true))))))=true then((vB d0.length s2 (d0.length:Int)).bind fun _=>(cI (jf s2 d0) (s2,1,d0)).bind fun f=>(vB f.2.length f.1 (f.2.length:Int)).bind fun _=>(zI f.2.length (0+(f.1:Int).toNat) (0+((f.2.length:Int):Int).toNat)).bind fun _=>(vB (vG f.2 (0+(f.1:Int).toNat) ((0+((f.2.length:Int):Int).toNat)-(0+(f.1:Int).toNat)) (aa.mk (bn.mk [] [] [] []) 0 0 0 0 0)).length 0 f.1).bind fun _=>some (.stop (.inr ((vG f.2 (0+(f.1:Int).toNat) ((0+((f.2.length:Int):Int).toNat)-(0+(f.1:Int).toNat)) (aa.mk (bn.mk [] [] [] []) 0 0 0 0 0)).take (f.1:Int).toNat))))else(some (.next (Fb .i64 (s2+1)))))else(some (.stop (.inl ())))
def eT(d0:(List aa)):Option ((List aa)):=
  if(decide ((d0.length:Int)<2))=true then(some d0)else((cI (jg d0) 1).bind fun f=>match f with| .inl _=>(some d0)| .inr g=>(some g))
def de(a0:(List aa)):Option ((List aa)):=
  (sg 104 a0).bind fun f=>(w3 cS f).bind fun g=>(eT g).bind fun j=>some j
def fP(a0:aa)(a1:aa):Option (Int):=
  (cj a0.bu a1.bu).bind fun f=>some f
def dx(a1:Int)(s1:Int):(Int×(List aa))->Option (gB (Int×(List aa)) (Int×(List aa))):=fun(f,g)=>
  if(decide (f>a1))=true then((inO g f).bind fun _=>(oc g f).bind fun k=>(inO g (Fb .i64 (f-1))).bind fun _=>(oc g (Fb .i64 (f-1))).bind fun q=>(fP k q).bind fun r=>if(decide (r<0))=true then((inO g (Fb .i64 (f-1))).bind fun _=>(oc g (Fb .i64 (f-1))).bind fun u=>(inO g f).bind fun _=>(oc g f).bind fun C=>(inO g f).bind fun _=>(tO g f u).bind fun j=>(inO j (Fb .i64 (f-1))).bind fun _=>(tO j (Fb .i64 (f-1)) C).bind fun D=>some (.next ((Fb .i64 (f-1)),D)))else(some (.stop (s1,g))))else(some (.stop (s1,g)))
def cQ(a2:Int)(a1:Int):(Int×(List aa))->Option (gB (Int×(List aa)) ((List aa))):=fun(s1,s2)=>
  if(decide (s1<a2))=true then((cI (dx a1 s1) (s1,s2)).bind fun f=>some (.next ((Fb .i64 (f.1+1)),f.2)))else((some s2).bind fun z33=>some (.stop z33))
def bX(a1:Int)(a2:Int)(d0:(List aa)):Option ((List aa)):=
  (cI (cQ a2 a1) ((Fb .i64 (a1+1)),d0)).bind fun f=>some f
def cq(a1:Int):(Int×Int×(List aa))->Option (gB (Int×Int×(List aa)) (Int×(List aa))):=fun(s1,s2,f)=>
  if(decide (s2<=a1))=true then((bX s1 s2 f).bind fun g=>some (.next (s2,(Fb .i64 (s2+20)),g)))else(some (.stop (s1,f)))
def l6(f:Int)(a1:Int):Unit->Option (gB (Unit) (Int)):=fun _=>
  if(decide ((Fb .i64 (2*f))<=a1))=true then(none)else(some (.stop f))
def eu(a1:Int)(j:(List aa)):Int->Option (gB (Int) ((List aa))):=fun g=>
  if(decide (g<a1))=true then((cI (l6 g a1) ()).bind fun f=>if(decide ((Fb .i64 (0+f))<a1))=true then(none)else(some (.next (Fb .i64 (f*2)))))else((some j).bind fun z21=>some (.stop z21))
def dV(a1:Int)(d0:(List aa)):Option ((List aa)):=
  (cI (cq a1) (0,20,d0)).bind fun f=>(bX f.1 a1 f.2).bind fun j=>(cI (eu a1 j) 20).bind fun g=>some g
def dG(d0:(List aa)):Option ((List aa)):=
  (dV (d0.length:Int) d0).bind fun f=>some f
def jp(r:(List aa))(a0:Int):(Int×(List (List aa)))->Option (gB (Int×(List (List aa))) ((List (List aa)))):=fun(k,j)=>
  if(decide (k<(r.length:Int)))=true then((inO r k).bind fun _=>(oc r k).bind fun q=>if(k==0)=true then((rR j [[]] 24).bind fun f=>(zz f).bind fun u=>(inO f (Fb .i64 ((f.length:Int)-1))).bind fun _=>(atO (Fb .i64 ((f.length:Int)-1)) (f.length-1)).bind fun _=>(rR u [q] 104).bind fun C=>(inO f (Fb .i64 ((f.length:Int)-1))).bind fun _=>(stO f.length (Fb .i64 ((f.length:Int)-1)) (f.length-1)).bind fun _=>some (.next ((Fb .i64 (k+1)),(f.set (f.length-1) C))))else((inO r (Fb .i64 (k-1))).bind fun _=>(oc r (Fb .i64 (k-1))).bind fun D=>if(decide ((Fb .i64 (q.bu-D.bu))>a0))=true then((rR j [[]] 24).bind fun g=>(zz g).bind fun E=>(inO g (Fb .i64 ((g.length:Int)-1))).bind fun _=>(atO (Fb .i64 ((g.length:Int)-1)) (g.length-1)).bind fun _=>(rR E [q] 104).bind fun F=>(inO g (Fb .i64 ((g.length:Int)-1))).bind fun _=>(stO g.length (Fb .i64 ((g.length:Int)-1)) (g.length-1)).bind fun _=>some (.next ((Fb .i64 (k+1)),(g.set (g.length-1) F))))else((zz j).bind fun G=>(inO j (Fb .i64 ((j.length:Int)-1))).bind fun _=>(atO (Fb .i64 ((j.length:Int)-1)) (j.length-1)).bind fun _=>(rR G [q] 104).bind fun H=>(inO j (Fb .i64 ((j.length:Int)-1))).bind fun _=>(stO j.length (Fb .i64 ((j.length:Int)-1)) (j.length-1)).bind fun _=>some (.next ((Fb .i64 (k+1)),(j.set (j.length-1) H))))))else(some (.stop j))
def jq(j:(List (List aa))):(Int×(List (List aa)))->Option (gB (Int×(List (List aa))) ((List (List aa)))):=fun(f,g)=>
  if(decide (f<(j.length:Int)))=true then((oc g f).bind fun k=>(inO g f).bind fun _=>(atO f (Fh f)).bind fun _=>(w3 cS k).bind fun q=>some (.next ((Fb .i64 (f+1)),(g.set (Fh f) q))))else(some (.stop g))
def bZ(a0:Int)(a1:(List aa)):Option ((List (List aa))):=
  (de a1).bind fun j=>(dG j).bind fun k=>(cI (jp k a0) (0,([]:(List (List aa))))).bind fun f=>(cI (jq f) (0,f)).bind fun g=>some g
def gA(a0:Int)(a1:(List aa)):Option ((List (List aa))×Int):=
  if(decide (a0<0))=true then(some (([]:(List (List aa))),2))else(if(decide (a0>1099511627776))=true then(some (([]:(List (List aa))),2))else((gt a1).bind fun f=>if(!f)=true then(some (([]:(List (List aa))),1))else((bZ a0 a1).bind fun g=>some (g,0))))
def gW(a0:ah)(a1:ae)(a2:(List aa)):Option ((List (List aa))×Int):=
  (eM a0).bind fun g=>if(g != 0)=true then(some (([]:(List (List aa))),27))else((cO a1).bind fun j=>if(!j)=true then(some (([]:(List (List aa))),1))else((gA a0.ac.ch a2).bind fun f=>some (f.1,f.2)))
def jy(C:(List bh))(u:(List az))(k:Int)(q:Int)(r:(List aj)):(Int×(List bh))->Option (gB (Int×(List bh)) (Int×Int×(List aj)×(List bh))):=fun(f,g)=>
  if(decide (f<(C.length:Int)))=true then((inO g f).bind fun _=>(oc g f).bind fun D=>(oc g f).bind fun _=>(inO u k).bind fun _=>(atO k (Fh k)).bind fun _=>(sg 8 D.eC).bind fun E=>(inO g f).bind fun _=>(atO f (Fh f)).bind fun _=>some (.next ((Fb .i64 (f+1)),(setF g (Fh f) (fun(j:bh)=>(bh.mk j.kk j.cg j.b9 E j.eJ j.fc))))))else(some (.stop (q,k,r,g)))
def jz(u:(List az)):(Int×Int×(List aj)×(List az))->Option (gB (Int×Int×(List aj)×(List az)) (Int×(List aj)×(List az))):=fun(k,f,q,g)=>
  if(decide (f<(u.length:Int)))=true then((oc g f).bind fun C=>(inO g f).bind fun _=>(atO f (Fh f)).bind fun _=>(sg 96 C.bW.cV).bind fun r=>(inO g f).bind fun _=>(atO f (Fh f)).bind fun _=>(inO g f).bind fun _=>(atO f (Fh f)).bind fun _=>(cI (jy r g f k q) (0,r)).bind fun j=>some (.next (j.1,(Fb .i64 (j.2.1+1)),j.2.2.1,(setF g (Fh f) (fun(z55:az)=>(az.mk z55.ca z55.fTo z55.nA z55.bV (bv.mk j.2.2.2)))))))else(some (.stop (k,q,g)))
def jA(a1:ae):(Int×(List aj))->Option (gB (Int×(List aj)) ((List aj))):=fun(k,r)=>
  if(decide (k<(a1.a8.length:Int)))=true then((oc a1.a8 k).bind fun g=>(sg 80 g.ct).bind fun j=>(cI (jz j) (k,0,r,j)).bind fun f=>(rR f.2.1 [(aj.mk g.a7 f.2.2)] 88).bind fun q=>some (.next ((Fb .i64 (f.1+1)),q)))else(some (.stop r))
def fk(a0:ah)(a1:ae):Option (av):=
  (sg 8 a0.ac.bG.bt).bind fun g=>(sg 8 a0.ac.bG.bd).bind fun j=>(sg 8 a0.bK.bB.bt).bind fun k=>(sg 8 a0.bK.bB.bd).bind fun q=>(cI (jA a1) (0,([]:(List aj)))).bind fun f=>some (av.mk (ah.mk (bi.mk a0.ac.bj (bg.mk a0.ac.bG.bQ g j) a0.ac.dv a0.ac.bA a0.ac.ch a0.ac.dJ a0.ac.cn) (bS.mk (bg.mk a0.bK.bB.bQ k q) a0.bK.cg a0.bK.b9) a0.bA) (ae.mk f) [])
def fS(q:(List bh)):(Int×(List bh))->Option (gB (Int×(List bh)) ((List bh))):=fun(s2,g)=>
  if(decide (s2<(q.length:Int)))=true then((inO g s2).bind fun _=>(oc g s2).bind fun r=>(sg 8 r.eC).bind fun j=>(inO g s2).bind fun _=>(xL g s2 (fun(f:bh)=>(bh.mk f.kk f.cg f.b9 j f.eJ f.fc))).bind fun k=>some (.next ((Fb .i64 (s2+1)),k)))else(some (.stop g))
def iE(a0:az):Option (az):=
  (sg 96 a0.bW.cV).bind fun g=>(cI (fS g) (0,g)).bind fun f=>some (az.mk a0.ca a0.fTo a0.nA a0.bV (bv.mk f))
def ig(k:(List az)):(Int×(List az))->Option (gB (Int×(List az)) ((List az))):=fun(s2,f)=>
  if(decide (s2<(k.length:Int)))=true then((inO f s2).bind fun _=>(oc f s2).bind fun q=>(iE q).bind fun g=>(inO f s2).bind fun _=>(tO f s2 g).bind fun j=>some (.next ((Fb .i64 (s2+1)),j)))else(some (.stop f))
def lc(a0:aj):Option (aj):=
  (sg 80 a0.ct).bind fun g=>(cI (ig g) (0,g)).bind fun f=>some (aj.mk a0.a7 f)
def ko(a0:ae)(a1:bn):Int->Option (gB (Int) ((Unit)⊕(aj×Bool))):=fun s1=>
  if(decide (s1<(a0.a8.length:Int)))=true then((oc a0.a8 s1).bind fun f=>if((f.a7.bI==a1.bI)&&((f.a7.bw==a1.bw)&&((f.a7.bc==a1.bc)&&((f.a7.bL==a1.bL)&&true))))=true then((lc f).bind fun g=>some (.stop (.inr (g,true))))else(some (.next (Fb .i64 (s1+1)))))else(some (.stop (.inl ())))
def mC(a0:ae)(a1:bn):Option (aj×Bool):=
  (cI (ko a0 a1) 0).bind fun g=>match g with| .inl _=>(some ((aj.mk (bn.mk [] [] [] []) []),false))| .inr f=>(some f)
def lO(a0:aj)(a1:Int):Int->Option (gB (Int) ((Unit)⊕(az×Bool))):=fun s1=>
  if(decide (s1<(a0.ct.length:Int)))=true then((oc a0.ct s1).bind fun f=>if(decide (f.ca<=a1))=true then(if(decide (a1<f.fTo))=true then(some (.stop (.inr (f,true))))else(some (.next (Fb .i64 (s1+1)))))else(some (.next (Fb .i64 (s1+1)))))else(some (.stop (.inl ())))
def nR(a0:aj)(a1:Int):Option (az×Bool):=
  (cI (lO a0 a1) 0).bind fun g=>match g with| .inl _=>(some ((az.mk 0 0 (cG.mk 0 0) (ag.mk 0 0 0) (bv.mk [])),false))| .inr f=>(some f)
def la(a0:ae)(a1:bn)(a2:Int):Option (az×Int):=
  (cO a0).bind fun g=>if(!g)=true then(some ((az.mk 0 0 (cG.mk 0 0) (ag.mk 0 0 0) (bv.mk [])),1))else((mC a0 a1).bind fun j=>(nR j.1 a2).bind fun f=>if(!f.2)=true then(some ((az.mk 0 0 (cG.mk 0 0) (ag.mk 0 0 0) (bv.mk [])),6))else(some (f.1,0)))
def eH(a0:ah)(a1:ae)(a2:aa):Option (aw×az×Bool):=
  (iW a2).bind fun g=>if(!g)=true then(some ((aw.mk (ag.mk 0 0 0) 0 0 0),(az.mk 0 0 (cG.mk 0 0) (ag.mk 0 0 0) (bv.mk [])),false))else((la a1 a2.a7 a2.bT).bind fun f=>if(f.2 != 0)=true then(some ((aw.mk (ag.mk 0 0 0) 0 0 0),(az.mk 0 0 (cG.mk 0 0) (ag.mk 0 0 0) (bv.mk [])),false))else((eI a0.ac.bG a0.ac.bj (aw.mk f.1.bV a2.bu a2.co 1)).bind fun j=>if(j.2 != 0)=true then(some ((aw.mk (ag.mk 0 0 0) 0 0 0),(az.mk 0 0 (cG.mk 0 0) (ag.mk 0 0 0) (bv.mk [])),false))else(some ((aw.mk f.1.bV a2.bu a2.co 1),f.1,true))))
def lV(a0:ah)(a1:ae)(a2:aa):Option (aw×Bool):=
  (eM a0).bind fun g=>if(g != 0)=true then(some ((aw.mk (ag.mk 0 0 0) 0 0 0),false))else((cO a1).bind fun j=>if(!j)=true then(some ((aw.mk (ag.mk 0 0 0) 0 0 0),false))else((eH a0 a1 a2).bind fun f=>some (f.1,f.2.2)))
def k9(C:(List aa))(a0:ah)(a1:ae):(Int×(List aa)×(List aw))->Option (gB (Int×(List aa)×(List aw)) ((List aa)×(List aw))):=fun(f,k,q)=>
  if(decide (f<(C.length:Int)))=true then((inO C f).bind fun _=>(oc C f).bind fun g=>(lV a0 a1 g).bind fun j=>if j.2=true then((rR k [g] 104).bind fun r=>(rR q [j.1] 48).bind fun u=>some (.next ((Fb .i64 (f+1)),r,u)))else(some (.next ((Fb .i64 (f+1)),k,q))))else(some (.stop (k,q)))
def nP(a0:ah)(a1:ae)(a2:(List aa)):Option ((List aa)×(List aw)×Int):=
  (eM a0).bind fun g=>if(g != 0)=true then(some (([]:(List aa)),([]:(List aw)),27))else((cO a1).bind fun j=>if(!j)=true then(some (([]:(List aa)),([]:(List aw)),1))else((de a2).bind fun k=>(cI (k9 k a0 a1) (0,([]:(List aa)),([]:(List aw)))).bind fun f=>if(decide ((f.1.length:Int)>256))=true then(some (([]:(List aa)),([]:(List aw)),8))else(some (f.1,f.2,0))))
def fi(a0:ag)(a1:ag):Option (Int):=
  (cj a0.fX a1.fX).bind fun f=>(cj a0.fY a1.fY).bind fun g=>(cj a0.fZ a1.fZ).bind fun j=>(dI [f,g,j]).bind fun k=>some k
def kg(a0:aw)(a1:aw):Option (Int):=
  (cj a0.bu a1.bu).bind fun f=>(cj a0.co a1.co).bind fun g=>(fi a0.bw a1.bw).bind fun j=>(cj a0.cC a1.cC).bind fun k=>(dI [f,g,j,k]).bind fun q=>some q
def hJ(a0:Int)(a1:Int)(d0:(List aw)):Option (Int):=
  (oc d0 a0).bind fun f=>(oc d0 a1).bind fun g=>(kg f g).bind fun j=>some j
def ke(a0:Int)(d1:(List aw))(s1:Int):(Int×(List Int))->Option (gB (Int×(List Int)) (Int×(List Int))):=fun(f,g)=>
  if(decide (f>a0))=true then((inO g f).bind fun _=>(oc g f).bind fun k=>(inO g (Fb .i64 (f-1))).bind fun _=>(oc g (Fb .i64 (f-1))).bind fun q=>(hJ k q d1).bind fun r=>if(decide (r<0))=true then((inO g (Fb .i64 (f-1))).bind fun _=>(oc g (Fb .i64 (f-1))).bind fun u=>(inO g f).bind fun _=>(oc g f).bind fun C=>(inO g f).bind fun _=>(tO g f u).bind fun j=>(inO j (Fb .i64 (f-1))).bind fun _=>(tO j (Fb .i64 (f-1)) C).bind fun D=>some (.next ((Fb .i64 (f-1)),D)))else(some (.stop (s1,g))))else(some (.stop (s1,g)))
def kf(a1:Int)(a0:Int)(d1:(List aw)):(Int×(List Int))->Option (gB (Int×(List Int)) ((List Int))):=fun(s1,s2)=>
  if(decide (s1<a1))=true then((cI (ke a0 d1 s1) (s1,s2)).bind fun f=>some (.next ((Fb .i64 (f.1+1)),f.2)))else((some s2).bind fun z33=>some (.stop z33))
def df(a0:Int)(a1:Int)(d0:(List Int))(d1:(List aw)):Option ((List Int)):=
  (cI (kf a1 a0 d1) ((Fb .i64 (a0+1)),d0)).bind fun f=>some f
def iw(a0:Int)(d1:(List aw)):(Int×Int×(List Int))->Option (gB (Int×Int×(List Int)) (Int×(List Int))):=fun(s1,s2,f)=>
  if(decide (s2<=a0))=true then((df s1 s2 f d1).bind fun g=>some (.next (s2,(Fb .i64 (s2+20)),g)))else(some (.stop (s1,f)))
def mi(f:Int)(a0:Int):Unit->Option (gB (Unit) (Int)):=fun _=>
  if(decide ((Fb .i64 (2*f))<=a0))=true then(none)else(some (.stop f))
def gM(a0:Int)(j:(List Int)):Int->Option (gB (Int) ((List Int))):=fun g=>
  if(decide (g<a0))=true then((cI (mi g a0) ()).bind fun f=>if(decide ((Fb .i64 (0+f))<a0))=true then(none)else(some (.next (Fb .i64 (f*2)))))else((some j).bind fun z21=>some (.stop z21))
def eh(a0:Int)(d0:(List Int))(d1:(List aw)):Option ((List Int)):=
  (cI (iw a0 d1) (0,20,d0)).bind fun f=>(df f.1 a0 f.2 d1).bind fun j=>(cI (gM a0 j) 20).bind fun g=>some g
def dU(d0:(List Int))(d1:(List aw)):Option ((List Int)):=
  (eh (d0.length:Int) d0 d1).bind fun f=>some f
def lr(g:(List Int)):(Int×(List Int))->Option (gB (Int×(List Int)) ((List Int))):=fun(s2,f)=>
  if(decide (s2<(g.length:Int)))=true then((inO f s2).bind fun _=>(tO f s2 s2).bind fun j=>some (.next ((Fb .i64 (s2+1)),j)))else(some (.stop f))
def lK(a0:(List aw)):Option ((List Int)):=
  (mkO (a0.length:Int) 0 8).bind fun j=>(cI (lr j) (0,j)).bind fun f=>(dU f a0).bind fun g=>some g
def jm(a0:Int):(Int×(List Int)×(List Int))->Option (gB (Int×(List Int)×(List Int)) ((List Int)×(List Int))):=fun(f,j,k)=>
  if(decide (f<(Fb .i64 (a0+1))))=true then((w5 (Fb .i64 (f+1)) (Fb .i64 (a0+1))).bind fun g=>(w5 (Fb .i64 (f+1)) (Fb .i64 (a0+1))).bind fun q=>(inO j f).bind fun _=>(tO j f q).bind fun r=>(inO k g).bind fun _=>(tO k g f).bind fun u=>some (.next ((Fb .i64 (f+1)),r,u)))else(some (.stop (j,k)))
def jl(a0:Int):Option (cz):=
  (mkO (Fb .i64 (a0+1)) 0 8).bind fun g=>(mkO (Fb .i64 (a0+1)) 0 8).bind fun j=>(cI (jm a0) (0,g,j)).bind fun f=>some (cz.mk f.1 f.2)
def mY(a0:cz):Option (Int):=
  some (Fb .i64 ((a0.fnext.length:Int)-1))
def dC(d0:(List Int))(d1:(List Int))(a3:(List Int))(a2:(List aw))(D:Int)(a1:bi):(Int×(List Int))->Option (gB (Int×(List Int)) ((List Int))):=fun(f,g)=>
  (mY (cz.mk d0 d1)).bind fun E=>if(f != E)=true then(if(decide ((g.length:Int)<16))=true then((oc a3 f).bind fun j=>(oc a2 j).bind fun k=>(oc a3 D).bind fun q=>(oc a2 q).bind fun r=>if(decide ((Fb .i64 (k.bu-r.bu))<=a1.ch))=true then((rR g [f] 8).bind fun u=>(inO d0 f).bind fun _=>(oc d0 f).bind fun C=>some (.next (C,u)))else(some (.stop g)))else(some (.stop g)))else(some (.stop g))
def nO(a1:bi)(a2:(List aw))(a3:(List Int))(d0:(List Int))(d1:(List Int)):Option ((List Int)×(List Int)×(List Int)):=
  (mY (cz.mk d0 d1)).bind fun g=>(inO d0 g).bind fun _=>(oc d0 g).bind fun j=>(cI (dC d0 d1 a3 a2 j a1) (j,([]:(List Int)))).bind fun f=>some (f,d0,d1)
def fO(a0:bi)(a1:(List aw)):Option (ak):=
  some (ak.mk a0.bj a0.bG a1 a0.dv)
def lu(a0:ak):Int->Option (gB (Int) ((Unit)⊕(Int))):=fun g=>
  if(decide (g<(a0.bM.length:Int)))=true then((oc a0.bM g).bind fun j=>(eI a0.bG a0.bj j).bind fun f=>if(f.2 != 0)=true then(some (.stop (.inr f.2)))else(some (.next (Fb .i64 (g+1)))))else(some (.stop (.inl ())))
def jJ(a0:ak):Option (Int):=
  (cu a0.bj).bind fun k=>if(!k)=true then(some 20)else((er a0.bG).bind fun j=>if(j != 0)=true then(some j)else(if((a0.bM.length:Int)==0)=true then(some 24)else(if(decide ((a0.bM.length:Int)>64))=true then(some 8)else(if(decide (a0.dv<1))=true then(some 2)else(if(decide (a0.dv>1099511627776))=true then(some 2)else((cI (lu a0) 0).bind fun f=>match f with| .inl _=>(some 0)| .inr g=>(some g)))))))
def ic(a0:al)(a1:ag):Option (Bool):=
  (cu a0).bind fun f=>if f=true then((ej a1).bind fun g=>if g=true then((gh a0 a1).bind fun j=>some (j==0))else(some false))else(some false)
def lN(a0:al)(a1:al):Option (Bool):=
  (cu a0).bind fun f=>if f=true then((ic a1 a0.bt).bind fun g=>if g=true then((ic a1 a0.bd).bind fun j=>some j)else(some false))else(some false)
def lj(a0:ak)(a1:al):(Int×(List bz))->Option (gB (Int×(List bz)) (((List bz))⊕((List bz)×Int))):=fun(s2,j)=>
  if(decide (s2<(a0.bM.length:Int)))=true then((oc a0.bM s2).bind fun k=>(eI a0.bG a1 k).bind fun g=>if(g.2 != 0)=true then(some (.stop (.inr (([]:(List bz)),g.2))))else((rR j [g.1] 16).bind fun f=>some (.next ((Fb .i64 (s2+1)),f))))else(some (.stop (.inl j)))
def nS(a0:ak)(a1:al):Option ((List bz)×Int):=
  (AF 0 (a0.bM.length:Int) (bz.mk 0 0) 16).bind fun k=>(cI (lj a0 a1) (0,k)).bind fun f=>match f with| .inl j=>(some (j,0))| .inr g=>(some g)
def ip(a0:ak)(a1:al):Option ((List bz)×Int):=
  (jJ a0).bind fun f=>if(f != 0)=true then(some (([]:(List bz)),f))else((lN a1 a0.bj).bind fun j=>if(!j)=true then(some (([]:(List bz)),20))else((nS a0 a1).bind fun g=>some (g.1,g.2)))
def gT(a0:bz)(a1:Int):Option (Int):=
  some (if 0>(if(Fb .i64 (a1-a0.fTo))>(Fb .i64 (a0.ca-a1))then(Fb .i64 (a1-a0.fTo))else(Fb .i64 (a0.ca-a1)))then 0 else(if(Fb .i64 (a1-a0.fTo))>(Fb .i64 (a0.ca-a1))then(Fb .i64 (a1-a0.fTo))else(Fb .i64 (a0.ca-a1))))
def lQ(a0:ak)(a1:(List bz))(a2:Int):(Int×Int)->Option (gB (Int×Int) (Int)):=fun(s1,s2)=>
  if(decide (s2<(a0.bM.length:Int)))=true then((oc a0.bM s2).bind fun g=>if(decide (s2<(a1.length:Int)))=true then((oc a1 s2).bind fun j=>(gT j a2).bind fun f=>some (.next ((Fb .i64 (s1+(Fb .i64 (g.cC*(if f<a0.dv then f else a0.dv))))),(Fb .i64 (s2+1)))))else(some (.next (s1,(Fb .i64 (s2+1))))))else(some (.stop s1))
def kJ(a0:ak)(a1:(List bz))(a2:Int):Option (Int):=
  (cI (lQ a0 a1 a2) (0,0)).bind fun f=>some f
def mG(a1:(List bz)):(Int×(List Int))->Option (gB (Int×(List Int)) ((List Int))):=fun(s2,f)=>
  if(decide (s2<(a1.length:Int)))=true then((oc a1 s2).bind fun g=>(rR f [g.ca,g.fTo] 8).bind fun j=>some (.next ((Fb .i64 (s2+1)),j)))else(some (.stop f))
def lP(u:Int)(r:(List Int))(a0:ak)(a1:(List bz)):(Int×Int×Int)->Option (gB (Int×Int×Int) (Int×Int)):=fun(j,g,f)=>
  if(decide (f<u))=true then((inV r.length (0+(1:Int).toNat) (0+((r.length:Int):Int).toNat) f).bind fun _=>(oc r (((0+(1:Int).toNat)+(f:Int).toNat:Nat):Int)).bind fun k=>(kJ a0 a1 k).bind fun q=>if(decide (q<g))=true then(some (.next (k,q,(Fb .i64 (f+1)))))else(if(q==g)=true then(if(decide (k<j))=true then(some (.next (k,q,(Fb .i64 (f+1)))))else(some (.next (j,g,(Fb .i64 (f+1))))))else(some (.next (j,g,(Fb .i64 (f+1)))))))else(some (.stop (j,g)))
def kH(a0:ak)(a1:(List bz)):Option (Int×Int):=
  (AF 0 (Fb .i64 (2*(a1.length:Int))) 0 8).bind fun u=>(cI (mG a1) (0,u)).bind fun f=>if((f.length:Int)==0)=true then(some (0,0))else((inO f 0).bind fun _=>(oc f 0).bind fun j=>(inO f 0).bind fun _=>(oc f 0).bind fun k=>(kJ a0 a1 k).bind fun q=>(vB f.length 1 (f.length:Int)).bind fun _=>(lenV f.length (0+(1:Int).toNat) (0+((f.length:Int):Int).toNat)).bind fun r=>(cI (lP r f a0 a1) (j,q,0)).bind fun g=>some (g.1,g.2))
def f9(a0:ak)(a1:al):Option (Int×Int):=
  (ip a0 a1).bind fun f=>if(f.2 != 0)=true then(some (0,f.2))else((kH a0 f.1).bind fun g=>some (g.2,0))
def pB(a0:ar)(g:ak)(e2:Int)(j:Int)(k:Bool)(q:ap):Option ((List ar)):=
  (rR ([]:List ar) [a0] 64).bind fun f=>some f
def jV(a0:(List ar)):Option (Int):=
  some (a0.length:Int)
def kL(a0:(List ar))(a1:Int)(a2:Int):Option (Bool):=
  (oc a0 a1).bind fun f=>(oc a0 a2).bind fun g=>(cj f.dF g.dF).bind fun j=>(oc a0 a1).bind fun k=>(oc a0 a2).bind fun q=>(cj k.mA q.mA).bind fun r=>(dI [j,r]).bind fun u=>some (decide (u<0))
def kM(a1:Int)(a2:Int)(d0:(List ar)):Option ((List ar)):=
  (inO d0 a2).bind fun _=>(oc d0 a2).bind fun j=>(inO d0 a1).bind fun _=>(oc d0 a1).bind fun k=>(inO d0 a1).bind fun _=>(tO d0 a1 j).bind fun g=>(inO g a2).bind fun _=>(tO g a2 k).bind fun f=>some f
def oD:(Int×(List ar))->Option (gB (Int×(List ar)) ((List ar))):=fun(s1,s2)=>
  (tI .i64 (Fb .i64 (s1-1)) 2).bind fun f=>if(f==s1)=true then((some s2).bind fun k=>some (.stop k))else((kL s2 s1 f).bind fun j=>if(!j)=true then((some s2).bind fun z9=>some (.stop z9))else((kM f s1 s2).bind fun g=>some (.next (f,g))))
def pu(a0:Int)(g:ak)(e2:Int)(j:Int)(k:Bool)(q:ap)(d1:(List ar)):Option ((List ar)):=
  (cI (oD) (a0,d1)).bind fun f=>some f
def mZ(a0:ar)(f:ak)(e2:Int)(g:Int)(j:Bool)(k:ap):Option ((List ar)):=
  (pB a0 f e2 g j k).bind fun q=>(jV q).bind fun r=>(pu (Fb .i64 (r-1)) f e2 g j k q).bind fun u=>some u
def nv(j:Int×Int)(f:Int)(g:(List ar)):Option (Int×(List ar)×Int):=
  some (j.2,g,f)
def nf(a0:al)(g:ak)(e2:Int)(j:Int)(k:Bool)(q:ap):Option (Int×(List ar)×Int):=
  (f9 g a0).bind fun f=>if(f.2==0)=true then((mZ (ar.mk a0 f.1 e2) g e2 j k q).bind fun r=>nv f (Fb .i64 (e2+1)) r)else(nv f e2 ([]:List ar))
def lp(a0:Int)(k:ak)(e2:Int)(q:Int)(f:Bool)(g:ap)(d1:(List ar)):Option (Bool):=
  if((d1.length:Int)==0)=true then(some true)else(if f=true then((inO d1 0).bind fun _=>(oc d1 0).bind fun j=>some (decide ((Fb .i64 (g.cb-j.dF))<=a0)))else(some false))
def gi(s2:(List ar))(s1:Int)(f:Int):Option (gB (Int×(List ar)) (Int×(List ar))):=
  (kL s2 f s1).bind fun j=>if(!j)=true then(some (.stop (s1,s2)))else((kM s1 f s2).bind fun g=>some (.next (f,g)))
def oM(a1:Int):(Int×(List ar))->Option (gB (Int×(List ar)) (Int×(List ar))):=fun(s1,s2)=>
  if(decide ((Fb .i64 ((Fb .i64 (2*s1))+1))>=a1))=true then(some (.stop (s1,s2)))else(if(decide ((Fb .i64 ((Fb .i64 (2*s1))+1))<0))=true then(some (.stop (s1,s2)))else(if(decide ((Fb .i64 ((Fb .i64 ((Fb .i64 (2*s1))+1))+1))<a1))=true then((kL s2 (Fb .i64 ((Fb .i64 ((Fb .i64 (2*s1))+1))+1)) (Fb .i64 ((Fb .i64 (2*s1))+1))).bind fun f=>if f=true then(gi s2 s1 (Fb .i64 ((Fb .i64 ((Fb .i64 (2*s1))+1))+1)))else(gi s2 s1 (Fb .i64 ((Fb .i64 (2*s1))+1))))else(gi s2 s1 (Fb .i64 ((Fb .i64 (2*s1))+1)))))
def nY(a0:Int)(a1:Int)(e2:ak)(g:Int)(j:Int)(k:Bool)(q:ap)(d1:(List ar)):Option (Bool×(List ar)):=
  (cI (oM a1) (a0,d1)).bind fun f=>some ((decide (f.1>a0)),f.2)
def qx(g:ak)(j:Int)(e2:Int)(k:Bool)(q:ap)(d1:(List ar)):Option (ar×(List ar)):=
  (inO d1 (Fb .i64 ((d1.length:Int)-1))).bind fun _=>(oc d1 (Fb .i64 ((d1.length:Int)-1))).bind fun f=>(vB d1.length 0 (Fb .i64 ((d1.length:Int)-1))).bind fun _=>some (f,(d1.take ((Fb .i64 ((d1.length:Int)-1)):Int).toNat))
def n9(f:ak)(g:Int)(e2:Int)(j:Bool)(k:ap)(d1:(List ar)):Option (ar×(List ar)):=
  (jV d1).bind fun q=>(kM 0 (Fb .i64 (q-1)) d1).bind fun u=>(nY 0 (Fb .i64 (q-1)) f g e2 j k u).bind fun C=>(qx f g e2 j k C.2).bind fun r=>some (r.1,r.2)
def cw(a0:Int)(a1:Int):Option (Int):=
  (tI .i64 (Fb .i64 (a1-a0)) 2).bind fun f=>some (Fb .i64 (a0+f))
def cf(a0:bR):Option (ag):=
  some (ag.mk a0.a0 a0.a1 a0.a2)
def gQ(a0:al):Option (ag):=
  (cu a0).bind fun j=>if(!j)=true then(some (ag.mk 0 0 0))else((b8 a0.bt).bind fun f=>(b8 a0.bd).bind fun g=>(cw f.a0 g.a0).bind fun k=>(cw f.a1 g.a1).bind fun q=>(cw f.a2 g.a2).bind fun r=>(cf (bR.mk k q r)).bind fun u=>some u)
def jU(a0:ak)(a1:ag):Option (Int×Int×Int):=
  (ip a0 (al.mk a1 a1)).bind fun f=>if(f.2 != 0)=true then(some (0,0,f.2))else((kH a0 f.1).bind fun g=>some (g.1,g.2,0))
def me(a0:al)(q:ak)(e2:Int)(u:Int)(k:Bool)(g:ap)(d1:(List ar)):Option (Int×Bool×ap):=
  (gQ a0).bind fun j=>(jU q j).bind fun f=>if(f.2.2 != 0)=true then(some (f.2.2,k,g))else(if(!k)=true then(some (0,true,(ap.mk j f.1 f.2.1 0 (al.mk (ag.mk 0 0 0) (ag.mk 0 0 0)))))else(if(decide (f.2.1<g.cb))=true then(some (0,true,(ap.mk j f.1 f.2.1 0 (al.mk (ag.mk 0 0 0) (ag.mk 0 0 0)))))else(if(f.2.1==g.cb)=true then((fi j g.bO).bind fun r=>if(decide (r<0))=true then(some (0,true,(ap.mk j f.1 f.2.1 0 (al.mk (ag.mk 0 0 0) (ag.mk 0 0 0)))))else(some (0,k,g)))else(some (0,k,g)))))
def lM(a0:al):Option (Int):=
  (cu a0).bind fun j=>if(!j)=true then(some 0)else((b8 a0.bd).bind fun f=>(b8 a0.bt).bind fun g=>some (Fb .i64 ((Fb .i64 ((Fb .i64 (1*(Fb .i64 ((Fb .i64 (f.a0-g.a0))+1))))*(Fb .i64 ((Fb .i64 (f.a1-g.a1))+1))))*(Fb .i64 ((Fb .i64 (f.a2-g.a2))+1)))))
def fA(a0:al):Option (al×al×Bool):=
  (lM a0).bind fun H=>if(decide (H<2))=true then(some ((al.mk (ag.mk 0 0 0) (ag.mk 0 0 0)),(al.mk (ag.mk 0 0 0) (ag.mk 0 0 0)),false))else((b8 a0.bt).bind fun f=>(b8 a0.bd).bind fun g=>if(decide ((Fb .i64 (g.a1-f.a1))>(Fb .i64 (g.a0-f.a0))))=true then(if(decide ((Fb .i64 (g.a2-f.a2))>(Fb .i64 (g.a1-f.a1))))=true then((cw f.a2 g.a2).bind fun G=>(cf (bR.mk g.a0 g.a1 G)).bind fun I=>(cf (bR.mk f.a0 f.a1 (Fb .i64 (G+1)))).bind fun J=>some ((al.mk a0.bt I),(al.mk J a0.bd),true))else((cw f.a1 g.a1).bind fun j=>(cf (bR.mk g.a0 j g.a2)).bind fun r=>(cf (bR.mk f.a0 (Fb .i64 (j+1)) f.a2)).bind fun u=>some ((al.mk a0.bt r),(al.mk u a0.bd),true)))else(if(decide ((Fb .i64 (g.a2-f.a2))>(Fb .i64 (g.a0-f.a0))))=true then((cw f.a2 g.a2).bind fun k=>(cf (bR.mk g.a0 g.a1 k)).bind fun C=>(cf (bR.mk f.a0 f.a1 (Fb .i64 (k+1)))).bind fun D=>some ((al.mk a0.bt C),(al.mk D a0.bd),true))else((cw f.a0 g.a0).bind fun q=>(cf (bR.mk q g.a1 g.a2)).bind fun E=>(cf (bR.mk (Fb .i64 (q+1)) f.a1 f.a2)).bind fun F=>some ((al.mk a0.bt E),(al.mk F a0.bd),true))))
def oE(a0:ar)(g:ak)(e2:Int)(j:Int)(k:Bool)(q:ap)(d1:(List ar)):Option ((List ar)):=
  (rR d1 [a0] 64).bind fun f=>some f
def lY(a0:ar)(f:ak)(e2:Int)(g:Int)(j:Bool)(k:ap)(d1:(List ar)):Option ((List ar)):=
  (oE a0 f e2 g j k d1).bind fun q=>(jV q).bind fun r=>(pu (Fb .i64 (r-1)) f e2 g j k q).bind fun u=>some u
def mO(j:Int×Int)(f:Int)(g:(List ar)):Option (Int×Int×(List ar)):=
  some (j.2,f,g)
def kV(a0:al)(g:ak)(e2:Int)(j:Int)(k:Bool)(q:ap)(d1:(List ar)):Option (Int×Int×(List ar)):=
  (f9 g a0).bind fun f=>if(f.2==0)=true then((lY (ar.mk a0 f.1 e2) g e2 j k q d1).bind fun r=>mO f (Fb .i64 (e2+1)) r)else(mO f e2 d1)
def mf(q:ak)(k:Int)(e2:Int)(u:Bool)(C:ap)(d1:(List ar)):Option (Int×Int×Int×Bool×ap×(List ar)):=
  if(e2==3000)=true then(some (25,k,e2,u,C,d1))else((inO d1 0).bind fun _=>(oc d1 0).bind fun E=>(n9 q k e2 u C d1).bind fun r=>(me E.mT q k (Fb .i64 (e2+1)) u C r.2).bind fun f=>if(f.1 != 0)=true then(some (f.1,k,(Fb .i64 (e2+1)),f.2.1,f.2.2,r.2))else((fA E.mT).bind fun D=>if(!D.2.2)=true then(some (0,k,(Fb .i64 (e2+1)),f.2.1,f.2.2,r.2))else((kV D.1 q k (Fb .i64 (e2+1)) f.2.1 f.2.2 r.2).bind fun g=>if(g.1 != 0)=true then(some (g.1,g.2.1,(Fb .i64 (e2+1)),f.2.1,f.2.2,g.2.2))else((kV D.2.1 q g.2.1 (Fb .i64 (e2+1)) f.2.1 f.2.2 g.2.2).bind fun j=>some (j.1,j.2.1,(Fb .i64 (e2+1)),f.2.1,f.2.2,j.2.2)))))
def mE(a1:Int)(a0:ak):(Int×Int×Bool×ap×(List ar))->Option (gB (Int×Int×Bool×ap×(List ar)) (((List ar)×Int×Int×Bool×ap)⊕((Option cr)×Int))):=fun(j,k,q,r,g)=>
  (lp a1 a0 j k q r g).bind fun u=>if(!u)=true then((mf a0 j k q r g).bind fun f=>if(f.1 != 0)=true then(some (.stop (.inr (none,f.1))))else(some (.next (f.2.1,f.2.2.1,f.2.2.2.1,f.2.2.2.2.1,f.2.2.2.2.2))))else(some (.stop (.inl (g,j,k,q,r))))
def kF(a0:ak)(a1:Int):Option ((Option cr)×Int):=
  (jJ a0).bind fun q=>if(q != 0)=true then(some (none,q))else(if(decide (a1<0))=true then(some (none,2))else((nf a0.bj a0 0 0 false (ap.mk (ag.mk 0 0 0) 0 0 0 (al.mk (ag.mk 0 0 0) (ag.mk 0 0 0)))).bind fun g=>if(g.1 != 0)=true then(some (none,g.1))else((cI (mE a1 a0) (g.2.2,0,false,(ap.mk (ag.mk 0 0 0) 0 0 0 (al.mk (ag.mk 0 0 0) (ag.mk 0 0 0))),g.2.1)).bind fun j=>match j with| .inl f=>(some ((some (cr.mk a0 f.1 f.2.1 f.2.2.1 f.2.2.2.1 (ap.mk (ag.mk f.2.2.2.2.bO.fX f.2.2.2.2.bO.fY f.2.2.2.2.bO.fZ) f.2.2.2.2.bT f.2.2.2.2.cb f.2.2.2.2.mz (al.mk (ag.mk f.2.2.2.2.cp.bt.fX f.2.2.2.2.cp.bt.fY f.2.2.2.2.cp.bt.fZ) (ag.mk f.2.2.2.2.cp.bd.fX f.2.2.2.2.cp.bd.fY f.2.2.2.2.cp.bd.fZ))))),0))| .inr k=>(some k))))
def nl(a0:al)(a1:al):Option (al):=
  (cu a0).bind fun r=>if(!r)=true then(some (al.mk (ag.mk 0 0 0) (ag.mk 0 0 0)))else((cu a1).bind fun u=>if(!u)=true then(some (al.mk (ag.mk 0 0 0) (ag.mk 0 0 0)))else((b8 a0.bt).bind fun f=>(b8 a0.bd).bind fun g=>(b8 a1.bt).bind fun j=>(b8 a1.bd).bind fun k=>(cf (bR.mk (if j.a0<f.a0 then j.a0 else f.a0) (if j.a1<f.a1 then j.a1 else f.a1) (if j.a2<f.a2 then j.a2 else f.a2))).bind fun C=>(cf (bR.mk (if k.a0>g.a0 then k.a0 else g.a0) (if k.a1>g.a1 then k.a1 else g.a1) (if k.a2>g.a2 then k.a2 else g.a2))).bind fun q=>some (al.mk C q)))
def mD(r:cr):(Int×Int×al)->Option (gB (Int×Int×al) (Int×al)):=fun(j,g,k)=>
  if(decide (j<(r.mB.length:Int)))=true then((oc r.mB j).bind fun f=>if(decide (f.dF<r.cx.cb))=true then((nl k f.mT).bind fun q=>some (.next ((Fb .i64 (j+1)),(if f.dF<g then f.dF else g),q)))else(some (.next ((Fb .i64 (j+1)),(if f.dF<g then f.dF else g),k))))else(some (.stop (g,k)))
def dO(a0:ak)(a1:Int):Option (ap×Int):=
  (kF a0 a1).bind fun j=>optC j.1 (if(j.2 != 0)=true then(some ((ap.mk (ag.mk 0 0 0) 0 0 0 (al.mk (ag.mk 0 0 0) (ag.mk 0 0 0))),j.2))else(none)) (fun g=>if(j.2 != 0)=true then(some ((ap.mk (ag.mk 0 0 0) 0 0 0 (al.mk (ag.mk 0 0 0) (ag.mk 0 0 0))),j.2))else((cI (mD g) (0,g.cx.cb,(al.mk g.cx.bO g.cx.bO))).bind fun f=>some ((ap.mk g.cx.bO g.cx.bT g.cx.cb f.1 (al.mk (ag.mk f.2.bt.fX f.2.bt.fY f.2.bt.fZ) (ag.mk f.2.bd.fX f.2.bd.fY f.2.bd.fZ))),0)))
def io(r:(List bz)×Int)(a2:Int):(Int×(List Int))->Option (gB (Int×(List Int)) ((List Int))):=fun(f,q)=>
  if(decide (f<(r.1.length:Int)))=true then((oc r.1 f).bind fun g=>(gT g a2).bind fun j=>(rR q [j] 8).bind fun k=>some (.next ((Fb .i64 (f+1)),k)))else(some (.stop q))
def iV(a0:ak)(a1:ag)(a2:Int):Option ((List Int)×Int):=
  (ip a0 (al.mk a1 a1)).bind fun f=>if(f.2 != 0)=true then(some (([]:(List Int)),f.2))else(if(decide (a2<(-18014398509481984)))=true then(some (([]:(List Int)),2))else(if(decide (a2>18014398509481984))=true then(some (([]:(List Int)),2))else((AF 0 (f.1.length:Int) 0 8).bind fun j=>(cI (io f a2) (0,j)).bind fun g=>some (g,0))))
def mp(a1:Int)(d0:(List Int))(d1:(List Int)):Option ((List Int)×(List Int)):=
  (inO d1 a1).bind fun _=>(oc d1 a1).bind fun k=>(inO d0 a1).bind fun _=>(oc d0 a1).bind fun q=>(inO d0 a1).bind fun _=>(oc d0 a1).bind fun r=>(inO d1 a1).bind fun _=>(oc d1 a1).bind fun f=>(inO d0 k).bind fun _=>(tO d0 k r).bind fun g=>(inO d1 q).bind fun _=>(tO d1 q f).bind fun j=>some (g,j)
def dh(f:(List Int)×(List Int)×(List Int))(D:(List Int))(j:(List bC))(k:(List Int)):Option (gB ((List bC)×(List Int)×(List Int)×(List Int)) (((List bC)×(List Int))⊕((List bC)×(List Int)×Int))):=
  (oc f.1 0).bind fun q=>(oc D q).bind fun r=>(rR k [r] 8).bind fun u=>(oc f.1 0).bind fun C=>(mp C f.2.1 f.2.2).bind fun g=>some (.next (j,u,g.1,g.2))
def ew(j:(List Int)×(List Int)×(List Int))(E:(List Int))(a1:(List aw))(C:(List bC))(D:(List Int)):(Int×(List aw))->Option (gB (Int×(List aw)) ((List aw)×(List bC)×(List Int))):=fun(f,g)=>
  if(decide (f<(j.1.length:Int)))=true then((oc j.1 f).bind fun k=>(oc E k).bind fun q=>(oc a1 q).bind fun r=>(rR g [r] 48).bind fun u=>some (.next ((Fb .i64 (f+1)),u)))else(some (.stop (g,C,D)))
def eB(j:(List Int)×(List Int)×(List Int))(k:(List Int)×Int)(a0:bi):(Int×(List Int))->Option (gB (Int×(List Int)) ((List Int))):=fun(f,g)=>
  if(decide (f<(j.1.length:Int)))=true then((oc j.1 f).bind fun q=>(oc k.1 f).bind fun r=>if(decide (r<=a0.dJ))=true then((rR g [q] 8).bind fun u=>some (.next ((Fb .i64 (f+1)),u)))else(some (.next ((Fb .i64 (f+1)),g))))else(some (.stop g))
def di(g:(List Int))(E:(List Int)):(Int×(List Int)×(List Int)×(List Int))->Option (gB (Int×(List Int)×(List Int)×(List Int)) ((List Int)×(List Int)×(List Int))):=fun(f,j,k,q)=>
  if(decide (f<(g.length:Int)))=true then((inO g f).bind fun _=>(oc g f).bind fun r=>(mp r j k).bind fun u=>(oc E r).bind fun C=>(rR q [C] 8).bind fun D=>some (.next ((Fb .i64 (f+1)),u.1,u.2,D)))else(some (.stop (j,k,q)))
def cA(a0:bi)(a1:(List aw))(D:(List Int)):((List bC)×(List Int)×(List Int)×(List Int))->Option (gB ((List bC)×(List Int)×(List Int)×(List Int)) (((List bC)×(List Int))⊕((List bC)×(List Int)×Int))):=fun(E,F,u,G)=>
  (mY (cz.mk u G)).bind fun C=>(inO u C).bind fun _=>(oc u C).bind fun H=>(mY (cz.mk u G)).bind fun I=>if(H != I)=true then((nO a0 a1 D u G).bind fun f=>if(decide ((f.1.length:Int)>=a0.cn))=true then((cI (ew f D a1 E F) (0,([]:(List aw)))).bind fun g=>(fO a0 g.1).bind fun J=>(dO J a0.bA).bind fun j=>if(j.2 != 0)=true then(some (.stop (.inr (([]:(List bC)),([]:(List Int)),j.2))))else((fO a0 g.1).bind fun K=>(iV K j.1.bO j.1.bT).bind fun q=>if(q.2 != 0)=true then(some (.stop (.inr (([]:(List bC)),([]:(List Int)),q.2))))else((cI (eB f q a0) (0,([]:(List Int)))).bind fun r=>if(decide ((r.length:Int)>=a0.cn))=true then((cI (di r D) (0,f.2.1,f.2.2,([]:(List Int)))).bind fun k=>(ud k.2.2).bind fun L=>(rR g.2.1 [(bC.mk L j.1.bO j.1.bT)] 56).bind fun N=>some (.next (N,g.2.2,k.1,k.2.1)))else(dh f D g.2.1 g.2.2))))else(dh f D E F))else(some (.stop (.inl (E,F))))
def iD(a0:bi)(a1:(List aw)):Option ((List bC)×(List Int)×Int):=
  (et a0 a1).bind fun q=>if(q != 0)=true then(some (([]:(List bC)),([]:(List Int)),q))else((lK a1).bind fun u=>(jl (a1.length:Int)).bind fun r=>(cI (cA a0 a1 u) (([]:(List bC)),([]:(List Int)),r.fnext,r.fback)).bind fun g=>match g with| .inl f=>((ud f.2).bind fun k=>some (f.1,k,0))| .inr j=>(some j))
def iM(E:(List aa))(a0:ah)(a1:ae):(Int×(List aa)×(List aw)×(List az))->Option (gB (Int×(List aa)×(List aw)×(List az)) ((List aa)×(List aw)×(List az))):=fun(g,k,q,r)=>
  if(decide (g<(E.length:Int)))=true then((inO E g).bind fun _=>(oc E g).bind fun j=>(eH a0 a1 j).bind fun f=>if f.2.2=true then((rR k [j] 104).bind fun u=>(rR q [f.1] 48).bind fun C=>(rR r [f.2.1] 80).bind fun D=>some (.next ((Fb .i64 (g+1)),u,C,D)))else(some (.next ((Fb .i64 (g+1)),k,q,r))))else(some (.stop (k,q,r)))
def jN(a0:ah)(a1:ae)(a2:(List aa)):Option (bF×Int):=
  (eM a0).bind fun g=>if(g != 0)=true then(some ((bF.mk [] [] []),27))else((cO a1).bind fun j=>if(!j)=true then(some ((bF.mk [] [] []),1))else((de a2).bind fun k=>(cI (iM k a0 a1) (0,([]:(List aa)),([]:(List aw)),([]:(List az)))).bind fun f=>some ((bF.mk f.1 f.2.1 f.2.2),0)))
def lg(a0:bF)(a1:ah):Option (ak×Int):=
  if((a0.fu.length:Int)==0)=true then(some ((ak.mk (al.mk (ag.mk 0 0 0) (ag.mk 0 0 0)) (bg.mk 0 [] []) [] 0),24))else(if(decide ((a0.fu.length:Int)>64))=true then(some ((ak.mk (al.mk (ag.mk 0 0 0) (ag.mk 0 0 0)) (bg.mk 0 [] []) [] 0),8))else((sg 8 a1.ac.bG.bt).bind fun f=>(sg 8 a1.ac.bG.bd).bind fun g=>some ((ak.mk a1.ac.bj (bg.mk a1.ac.bG.bQ f g) a0.fu a1.ac.dv),0)))
def qg:(Int×(List Int))->Option (gB (Int×(List Int)) ((List Int))):=fun(s2,f)=>
  if(decide (s2>0))=true then((w5 s2 1073741824).bind fun g=>(rR f [g] 8).bind fun j=>some (.next ((sl .i64 s2 30),j)))else(some (.stop f))
def ru(a0:Int):Option ((List Int)×Int):=
  if(decide (a0<0))=true then(some (([]:(List Int)),2))else((cI (qg) (a0,([]:(List Int)))).bind fun f=>some (f,0))
def oj(a0:Int):Option (Bool):=
  if(decide (a0<0))=true then(some true)else(some (decide (a0>=1073741824)))
def fM(a0:(List Int)):Int->Option (gB (Int) ((Unit)⊕(Int))):=fun s1=>
  if(decide (s1<(a0.length:Int)))=true then((oc a0 s1).bind fun f=>(oj f).bind fun g=>if g=true then(some (.stop (.inr s1)))else(some (.next (Fb .i64 (s1+1)))))else(some (.stop (.inl ())))
def gE(a0:(List Int)):Option (Int):=
  (cI (fM a0) 0).bind fun g=>match g with| .inl _=>(some (-1))| .inr f=>(some f)
def dq(a0:(List Int)):Option (Bool):=
  (gE a0).bind fun f=>some (decide (f>=0))
def md(a0:(List Int)):Option (Bool):=
  if(decide ((a0.length:Int)>64))=true then(some false)else(if(decide ((a0.length:Int)>0))=true then((oc a0 (Fb .i64 ((a0.length:Int)-1))).bind fun f=>if(f==0)=true then(some false)else((dq a0).bind fun g=>some (!g)))else((dq a0).bind fun j=>some (!j)))
def qh(a0:(List Int))(a1:(List Int)):Option (Bool):=
  (md a0).bind fun f=>if f=true then((md a1).bind fun g=>some g)else(some false)
def n4(a0:(List Int))(a1:Int):Option (Int):=
  if(decide (a1>=(a0.length:Int)))=true then(some 0)else((oc a0 a1).bind fun f=>some f)
def qj:(List Int)->Option (gB ((List Int)) ((List Int))):=fun s1=>
  if(decide ((s1.length:Int)>0))=true then((oc s1 (Fb .i64 ((s1.length:Int)-1))).bind fun f=>if(f==0)=true then((zK s1 0 (Fb .i64 ((s1.length:Int)-1))).bind fun g=>some (.next g))else(some (.stop s1)))else(some (.stop s1))
def qi(a0:(List Int)):Option ((List Int)):=
  (cI (qj) a0).bind fun f=>some f
def m6(a1:(List Int))(s2:Int)(C:Int):(Int×Int×(List Int))->Option (gB (Int×Int×(List Int)) (Int×(List Int))):=fun(q,g,f)=>
  if(decide (g<(Fb .i64 ((a1.length:Int)+1))))=true then(if(decide ((Fb .i64 (s2+g))<(f.length:Int)))=true then((inO f (Fb .i64 (s2+g))).bind fun _=>(oc f (Fb .i64 (s2+g))).bind fun j=>(n4 a1 g).bind fun k=>(w5 (Fb .i64 (q+(Fb .i64 (j+(Fb .i64 (C*k)))))) 1073741824).bind fun r=>(inO f (Fb .i64 (s2+g))).bind fun _=>(tO f (Fb .i64 (s2+g)) r).bind fun u=>some (.next ((sl .i64 (Fb .i64 (q+(Fb .i64 (j+(Fb .i64 (C*k)))))) 30),(Fb .i64 (g+1)),u)))else(some (.next (q,(Fb .i64 (g+1)),f))))else(some (.stop (s2,f)))
def m7(a0:(List Int))(a1:(List Int)):(Int×(List Int))->Option (gB (Int×(List Int)) ((List Int))):=fun(s2,g)=>
  if(decide (s2<(a0.length:Int)))=true then((oc a0 s2).bind fun j=>(cI (m6 a1 s2 j) (0,0,g)).bind fun f=>some (.next ((Fb .i64 (f.1+1)),f.2)))else(some (.stop g))
def lk(a0:(List Int))(a1:(List Int)):Option ((List Int)):=
  (mkO (Fb .i64 ((a0.length:Int)+(a1.length:Int))) 0 8).bind fun j=>(cI (m7 a0 a1) (0,j)).bind fun f=>(qi f).bind fun g=>some g
def kK(a0:(List Int)):Option ((List Int)×Int):=
  (qi a0).bind fun f=>if(decide ((f.length:Int)>64))=true then(some (([]:(List Int)),8))else(some (f,0))
def nat_Mul(a0:(List Int))(a1:(List Int)):Option ((List Int)×Int):=
  (qh a0 a1).bind fun g=>if(!g)=true then(some (([]:(List Int)),1))else((lk a0 a1).bind fun j=>(kK j).bind fun f=>some (f.1,f.2))
def eo(a0:Int):Option ((List Int)):=
  (ru (if(Fb .i64 (0-a0))>a0 then(Fb .i64 (0-a0))else a0)).bind fun f=>(nat_Mul f.1 f.1).bind fun g=>some g.1
def qe(a1:(List Int))(a0:(List Int)):(Int×Int×(List Int))->Option (gB (Int×Int×(List Int)) ((List Int))):=fun(q,g,r)=>
  if(decide (g<(Fb .i64 ((if(a1.length:Int)>(a0.length:Int)then(a1.length:Int)else(a0.length:Int))+1))))=true then((n4 a0 g).bind fun u=>(n4 a1 g).bind fun f=>(w5 (Fb .i64 (q+(Fb .i64 (u+f)))) 1073741824).bind fun j=>(rR r [j] 8).bind fun k=>some (.next ((sl .i64 (Fb .i64 (q+(Fb .i64 (u+f)))) 30),(Fb .i64 (g+1)),k)))else(some (.stop r))
def nat_Add(a0:(List Int))(a1:(List Int)):Option ((List Int)×Int):=
  (qh a0 a1).bind fun j=>if(!j)=true then(some (([]:(List Int)),1))else((cI (qe a1 a0) (0,0,([]:(List Int)))).bind fun g=>(kK g).bind fun f=>some (f.1,f.2))
def je(a0:bR)(a1:Int)(a2:Int):Option ((List Int)):=
  (eo (Fb .i64 ((Fb .i64 ((Fb .i64 (a0.a0*a2))*a2))-(Fb .i64 ((Fb .i64 (a0.a2*a1))*a1))))).bind fun f=>(eo (Fb .i64 ((Fb .i64 (a0.a1*a1))*a2))).bind fun g=>(nat_Add f g).bind fun j=>some j.1
def nu(a0:bh)(a1:Int)(a2:Int):Option (bD×Bool):=
  if(a0.kk==0)=true then((eo a0.cg.a0).bind fun j=>(eo a0.b9.a0).bind fun k=>some ((bD.mk j k),true))else(if(a0.kk==1)=true then((je a0.cg a1 a2).bind fun q=>(je a0.b9 a1 a2).bind fun g=>some ((bD.mk q g),(decide ((g.length:Int)>0))))else((gc a0.eC).bind fun r=>(eo r).bind fun u=>(yF .i64 1 a0.fc).bind fun C=>(eo C).bind fun f=>some ((bD.mk u f),true)))
def iq(a0:bD):Option (Bool):=
  (md a0.cg).bind fun f=>if f=true then((md a0.b9).bind fun g=>if g=true then(some (decide ((a0.b9.length:Int)>0)))else(some false))else(some false)
def qw(a0:bD)(a1:bD):Option (bD×Int):=
  (iq a0).bind fun j=>if(!j)=true then(some ((bD.mk [] []),1))else((iq a1).bind fun k=>if(!k)=true then(some ((bD.mk [] []),1))else((lk a0.cg a1.cg).bind fun q=>(kK q).bind fun f=>(lk a0.b9 a1.b9).bind fun r=>(kK r).bind fun g=>if(f.2 != 0)=true then(some ((bD.mk [] []),8))else(if(g.2 != 0)=true then(some ((bD.mk [] []),8))else(some ((bD.mk f.1 g.1),0)))))
def mN(a0:bv)(a1:Int)(a2:Int):(Int×(List Int)×(List Int))->Option (gB (Int×(List Int)×(List Int)) (((List Int)×(List Int))⊕(bD×Int))):=fun(j,q,r)=>
  if(decide (j<(a0.cV.length:Int)))=true then((oc a0.cV j).bind fun k=>(nu k a1 a2).bind fun g=>if(!g.2)=true then(some (.stop (.inr ((bD.mk [] []),11))))else((qw (bD.mk q r) g.1).bind fun f=>if(f.2 != 0)=true then(some (.stop (.inr ((bD.mk [] []),f.2))))else(some (.next ((Fb .i64 (j+1)),f.1.cg,f.1.b9)))))else(some (.stop (.inl (q,r))))
def nq(a0:bv)(a1:Int)(a2:Int):Option (bD×Int):=
  (kU a0).bind fun k=>if(!k)=true then(some ((bD.mk [] []),1))else((cU a1 0 65536).bind fun q=>if(!q)=true then(some ((bD.mk [] []),2))else((cU a2 1 65536).bind fun r=>if(!r)=true then(some ((bD.mk [] []),2))else((cI (mN a0 a1 a2) (0,[1],[1])).bind fun g=>match g with| .inl f=>(some ((bD.mk f.1 f.2),0))| .inr j=>(some j))))
def fB(a0:Int)(g:Int)(f:Int):Option (Int):=
  some (Fb .i64 ((Fb .i64 (256*a0))+f))
def fC(a0:Int)(f:Int)(g:Int):Option (Int):=
  if(decide ((sl .i64 (Fb .i64 (f*f)) 30)>=2147483648))=true then((tI .i64 (sl .i64 (Fb .i64 (f*f)) 30) 2).bind fun j=>fB a0 j (Fb .i64 ((Fb .i64 (g*2))+1)))else(fB a0 (sl .i64 (Fb .i64 (f*f)) 30) (Fb .i64 (g*2)))
def fD(a0:Int)(f:Int)(g:Int):Option (Int):=
  if(decide ((sl .i64 (Fb .i64 (f*f)) 30)>=2147483648))=true then((tI .i64 (sl .i64 (Fb .i64 (f*f)) 30) 2).bind fun j=>fC a0 j (Fb .i64 ((Fb .i64 (g*2))+1)))else(fC a0 (sl .i64 (Fb .i64 (f*f)) 30) (Fb .i64 (g*2)))
def fF(a0:Int)(f:Int)(g:Int):Option (Int):=
  if(decide ((sl .i64 (Fb .i64 (f*f)) 30)>=2147483648))=true then((tI .i64 (sl .i64 (Fb .i64 (f*f)) 30) 2).bind fun j=>fD a0 j (Fb .i64 ((Fb .i64 (g*2))+1)))else(fD a0 (sl .i64 (Fb .i64 (f*f)) 30) (Fb .i64 (g*2)))
def fG(a0:Int)(f:Int)(j:Int):Option (Int):=
  if(decide ((sl .i64 (Fb .i64 (f*f)) 30)>=2147483648))=true then((tI .i64 (sl .i64 (Fb .i64 (f*f)) 30) 2).bind fun g=>fF a0 g (Fb .i64 ((Fb .i64 (j*2))+1)))else(fF a0 (sl .i64 (Fb .i64 (f*f)) 30) (Fb .i64 (j*2)))
def fH(a0:Int)(f:Int)(j:Int):Option (Int):=
  if(decide ((sl .i64 (Fb .i64 (f*f)) 30)>=2147483648))=true then((tI .i64 (sl .i64 (Fb .i64 (f*f)) 30) 2).bind fun g=>fG a0 g (Fb .i64 ((Fb .i64 (j*2))+1)))else(fG a0 (sl .i64 (Fb .i64 (f*f)) 30) (Fb .i64 (j*2)))
def fI(a0:Int)(f:Int)(j:Int):Option (Int):=
  if(decide ((sl .i64 (Fb .i64 (f*f)) 30)>=2147483648))=true then((tI .i64 (sl .i64 (Fb .i64 (f*f)) 30) 2).bind fun g=>fH a0 g (Fb .i64 ((Fb .i64 (j*2))+1)))else(fH a0 (sl .i64 (Fb .i64 (f*f)) 30) (Fb .i64 (j*2)))
def fJ(a0:Int)(f:Int)(j:Int):Option (Int):=
  if(decide ((sl .i64 (Fb .i64 (f*f)) 30)>=2147483648))=true then((tI .i64 (sl .i64 (Fb .i64 (f*f)) 30) 2).bind fun g=>fI a0 g (Fb .i64 ((Fb .i64 (j*2))+1)))else(fI a0 (sl .i64 (Fb .i64 (f*f)) 30) (Fb .i64 (j*2)))
def gw(a0:Int)(a1:Int):Option (Int):=
  if(decide ((sl .i64 (Fb .i64 (a1*a1)) 30)>=2147483648))=true then((tI .i64 (sl .i64 (Fb .i64 (a1*a1)) 30) 2).bind fun f=>fJ a0 f 1)else(fJ a0 (sl .i64 (Fb .i64 (a1*a1)) 30) 0)
def jT(a0:Int):Option (Int×Int):=
  if(decide (a0<1))=true then(some (0,2))else((ia (Fb .u64 a0)).bind fun f=>if(decide ((Fb .i64 (f-1))<=30))=true then((yF .i64 a0 (Fb .i64 (30-(Fb .i64 (f-1))))).bind fun g=>(gw (Fb .i64 (f-1)) g).bind fun j=>some (j,0))else((shrO .i64 a0 (Fb .i64 ((Fb .i64 (f-1))-30))).bind fun k=>(gw (Fb .i64 (f-1)) k).bind fun q=>some (q,0)))
def iU(a0:(List Int)):Option (Int×Int):=
  (md a0).bind fun j=>if(!j)=true then(some (0,1))else(if(decide ((Fb .i64 ((a0.length:Int)-1))<0))=true then(some (0,2))else(if((Fb .i64 ((a0.length:Int)-1))==0)=true then((oc a0 0).bind fun k=>(jT k).bind fun f=>some (f.1,f.2))else((oc a0 (Fb .i64 ((a0.length:Int)-1))).bind fun q=>(oc a0 (Fb .i64 ((Fb .i64 ((a0.length:Int)-1))-1))).bind fun r=>(jT (orI .i64 (shlI .i64 q 30) r)).bind fun g=>some ((Fb .i64 (g.1+(Fb .i64 (7680*(Fb .i64 ((Fb .i64 ((a0.length:Int)-1))-1)))))),g.2))))
def lf(a0:bS)(a1:bv)(a2:Int):Option (Int×Int):=
  (nq a1 a0.cg a0.b9).bind fun f=>if(f.2 != 0)=true then(some (0,f.2))else((iU f.1.cg).bind fun j=>if(j.2 != 0)=true then(some (0,24))else((iU f.1.b9).bind fun g=>if(g.2 != 0)=true then(some (0,g.2))else((jT a2).bind fun k=>some ((Fb .i64 ((Fb .i64 ((Fb .i64 (2*k.1))+g.1))-j.1)),k.2))))
def kG(a0:Int):Option (Int):=
  some (sl .i64 a0 1)
def m5(a0:Int):Option (Int×Bool):=
  if(decide (a0>=(-16777216)))=true then(some ((Fb .i64 (a0*30103)),(decide (a0<=16777216))))else(some ((Fb .i64 (a0*30103)),false))
def jI(a0:Int):Option (Int):=
  (m5 a0).bind fun f=>if(!f.2)=true then(some 0)else((tI .i64 f.1 256000).bind fun g=>(w5 f.1 256000).bind fun j=>if(decide (j<0))=true then(some (Fb .i64 (g-1)))else(some g))
def mF(a0:Int):Option (Int):=
  (jI (Fb .i64 (0-a0))).bind fun f=>some (Fb .i64 (0-f))
def im(a0:bS)(a1:bv)(a2:Int)(a3:Int)(a4:Int):Option (bp×Int):=
  (dK a0).bind fun r=>if(!r)=true then(some ((bp.mk 0 0),27))else(if(decide (a2<1))=true then(some ((bp.mk 0 0),2))else(if(decide (a2>1073741823))=true then(some ((bp.mk 0 0),2))else((lf a0 a1 a2).bind fun f=>if(f.2 != 0)=true then(some ((bp.mk 0 0),f.2))else((dp a0.bB a3 a4).bind fun g=>if(g.2.2 != 0)=true then(some ((bp.mk 0 0),g.2.2))else((kG (Fb .i64 (f.1-2))).bind fun u=>(jI u).bind fun j=>(kG (Fb .i64 ((Fb .i64 (0-f.1))-6))).bind fun k=>(mF (Fb .i64 (0-k))).bind fun q=>some ((bp.mk (Fb .i64 (j+g.1)) (Fb .i64 (q+g.2.1))),0))))))
def dQ(a0:bF)(a2:al)(a1:ah):(Int×(List bp))->Option (gB (Int×(List bp)) ((List bp))):=fun(s1,s2)=>
  if(decide (s1<(a0.fu.length:Int)))=true then((oc a0.fu s1).bind fun k=>(oc a0.kl s1).bind fun q=>(oc a0.gN s1).bind fun r=>(gh a2 k.bw).bind fun u=>(jr a2 k.bw).bind fun g=>(im a1.bK q.bW r.bH u g).bind fun f=>if(f.2==0)=true then((rR s2 [f.1] 16).bind fun j=>some (.next ((Fb .i64 (s1+1)),j)))else(some (.next ((Fb .i64 (s1+1)),s2))))else(some (.stop s2))
def dL(a0:bF)(a1:ah)(a2:al):Option ((List bp)):=
  (cI (dQ a0 a2 a1) (0,([]:(List bp)))).bind fun f=>some f
def ju(a0:bp):Option (Bool):=
  some (decide (a0.bt>a0.bd))
def dz(a0:(List bp)):Int->Option (gB (Int) ((Unit)⊕(Int))):=fun s1=>
  if(decide (s1<(a0.length:Int)))=true then((oc a0 s1).bind fun f=>(ju f).bind fun g=>if g=true then(some (.stop (.inr s1)))else(some (.next (Fb .i64 (s1+1)))))else(some (.stop (.inl ())))
def fm(a0:(List bp)):Option (Int):=
  (cI (dz a0) 0).bind fun g=>match g with| .inl _=>(some (-1))| .inr f=>(some f)
def dy(a0:(List bp)):Option (Bool):=
  (fm a0).bind fun f=>some (decide (f>=0))
def jv(a0:bp):Option (Int):=
  some a0.bt
def ix(a0:(List bp)):(Int×(List Int))->Option (gB (Int×(List Int)) ((List Int))):=fun(s1,s2)=>
  if(decide (s1<(a0.length:Int)))=true then((oc a0 s1).bind fun f=>(jv f).bind fun g=>(rR s2 [g] 8).bind fun j=>some (.next ((Fb .i64 (s1+1)),j)))else(some (.stop s2))
def gJ(a0:(List bp)):Option (Int):=
  (cI (ix a0) (0,([]:(List Int)))).bind fun j=>(ud j).bind fun f=>(tI .i64 (Fb .i64 ((f.length:Int)-1)) 2).bind fun g=>(inO f g).bind fun _=>(oc f g).bind fun k=>some k
def jw(a0:bp):Option (Int):=
  some a0.bd
def iy(a0:(List bp)):(Int×(List Int))->Option (gB (Int×(List Int)) ((List Int))):=fun(s1,s2)=>
  if(decide (s1<(a0.length:Int)))=true then((oc a0 s1).bind fun f=>(jw f).bind fun g=>(rR s2 [g] 8).bind fun j=>some (.next ((Fb .i64 (s1+1)),j)))else(some (.stop s2))
def gK(a0:(List bp)):Option (Int):=
  (cI (iy a0) (0,([]:(List Int)))).bind fun j=>(ud j).bind fun f=>(tI .i64 (Fb .i64 ((f.length:Int)-1)) 2).bind fun g=>(inO f g).bind fun _=>(oc f g).bind fun k=>some k
def il(a0:(List bp)):Option (bp×Int):=
  if((a0.length:Int)==0)=true then(some ((bp.mk 0 0),24))else((dy a0).bind fun f=>if f=true then(some ((bp.mk 0 0),1))else((gJ a0).bind fun g=>(gK a0).bind fun j=>some ((bp.mk g j),0)))
def ji(a0:ah)(a1:ae)(a2:(List aa)):Option (bJ×Int):=
  (jN a0 a1 a2).bind fun f=>if(f.2 != 0)=true then(some ((bJ.mk [] (ap.mk (ag.mk 0 0 0) 0 0 0 (al.mk (ag.mk 0 0 0) (ag.mk 0 0 0))) (bp.mk 0 0) 0),f.2))else((lg f.1 a0).bind fun j=>if(j.2 != 0)=true then(some ((bJ.mk [] (ap.mk (ag.mk 0 0 0) 0 0 0 (al.mk (ag.mk 0 0 0) (ag.mk 0 0 0))) (bp.mk 0 0) 0),j.2))else((dO j.1 a0.bA).bind fun g=>if(g.2 != 0)=true then(some ((bJ.mk [] (ap.mk (ag.mk 0 0 0) 0 0 0 (al.mk (ag.mk 0 0 0) (ag.mk 0 0 0))) (bp.mk 0 0) 0),g.2))else((dL f.1 a0 g.1.cp).bind fun k=>if(decide ((k.length:Int)>0))=true then((il k).bind fun q=>if(q.2 != 0)=true then(some ((bJ.mk [] (ap.mk (ag.mk 0 0 0) 0 0 0 (al.mk (ag.mk 0 0 0) (ag.mk 0 0 0))) (bp.mk 0 0) 0),q.2))else(some ((bJ.mk f.1.gN g.1 q.1 (k.length:Int)),0)))else(some ((bJ.mk f.1.gN g.1 (bp.mk 0 0) 0),0)))))
def jQ(a0:aa)(a1:aa):Option (Int):=
  (cj a0.bT a1.bT).bind fun f=>(cS a0 a1).bind fun g=>(dI [f,g]).bind fun j=>some j
def dc(a0:(List aa)):(Int×(List UInt8)×(List UInt8)×(List UInt8)×(List UInt8)×Int×Int×Int×Int×Int)->Option (gB (Int×(List UInt8)×(List UInt8)×(List UInt8)×(List UInt8)×Int×Int×Int×Int×Int) ((List UInt8)×(List UInt8)×(List UInt8)×(List UInt8)×Int×Int×Int×Int×Int)):=fun(q,r,u,C,D,E,F,g,j,k)=>
  if(decide (q<(a0.length:Int)))=true then((oc a0 q).bind fun G=>(jQ G (aa.mk (bn.mk r u C D) E F g j k)).bind fun H=>if(decide (H<0))=true then((oc a0 q).bind fun f=>some (.next ((Fb .i64 (q+1)),f.a7.bI,f.a7.bw,f.a7.bc,f.a7.bL,f.bT,f.bu,f.co,f.bH,f.bN)))else(some (.next ((Fb .i64 (q+1)),r,u,C,D,E,F,g,j,k))))else(some (.stop (r,u,C,D,E,F,g,j,k)))
def eD(a0:(List aa)):Option (aa):=
  if(decide ((a0.length:Int)<1))=true then(none)else((oc a0 0).bind fun g=>(cI (dc a0) (1,g.a7.bI,g.a7.bw,g.a7.bc,g.a7.bL,g.bT,g.bu,g.co,g.bH,g.bN)).bind fun f=>some (aa.mk (bn.mk f.1 f.2.1 f.2.2.1 f.2.2.2.1) f.2.2.2.2.1 f.2.2.2.2.2.1 f.2.2.2.2.2.2.1 f.2.2.2.2.2.2.2.1 f.2.2.2.2.2.2.2.2))
def pr(a0:(List aa)):Option (aa):=
  if((a0.length:Int)==0)=true then(some (aa.mk (bn.mk [] [] [] []) 0 0 0 0 0))else((eD a0).bind fun f=>some f)
def lI(a0:eE)(a1:aq)(a2:aq):Option (Int):=
  (jQ a1.dl a2.dl).bind fun f=>some f
def iB(a1:Int)(s1:Int):(Int×(List aq))->Option (gB (Int×(List aq)) (Int×(List aq))):=fun(f,g)=>
  if(decide (f>a1))=true then((inO g f).bind fun _=>(oc g f).bind fun k=>(inO g (Fb .i64 (f-1))).bind fun _=>(oc g (Fb .i64 (f-1))).bind fun q=>(lI (eE.mk ) k q).bind fun r=>if(decide (r<0))=true then((inO g (Fb .i64 (f-1))).bind fun _=>(oc g (Fb .i64 (f-1))).bind fun u=>(inO g f).bind fun _=>(oc g f).bind fun C=>(inO g f).bind fun _=>(tO g f u).bind fun j=>(inO j (Fb .i64 (f-1))).bind fun _=>(tO j (Fb .i64 (f-1)) C).bind fun D=>some (.next ((Fb .i64 (f-1)),D)))else(some (.stop (s1,g))))else(some (.stop (s1,g)))
def iC(a2:Int)(a1:Int):(Int×(List aq))->Option (gB (Int×(List aq)) ((List aq))):=fun(s1,s2)=>
  if(decide (s1<a2))=true then((cI (iB a1 s1) (s1,s2)).bind fun f=>some (.next ((Fb .i64 (f.1+1)),f.2)))else((some s2).bind fun z33=>some (.stop z33))
def dw(a1:Int)(a2:Int)(d0:(List aq)):Option ((List aq)):=
  (cI (iC a2 a1) ((Fb .i64 (a1+1)),d0)).bind fun f=>some f
def cy(a2:Int)(a1:Int)(d0:(List aq))(a3:Int):Unit->Option (gB (Unit) ((List aq))):=fun _=>
  if(decide ((Fb .i64 (a2-a1))<=12))=true then((dw a1 a2 d0).bind fun f=>some (.stop f))else(if(a3==0)=true then(none)else(none))
def f7:Nat->Int->Int->Int->(List aq)->Option ((List aq))
  |0,_,_,_,_=>none
  |nfu+1,a1,a2,a3,d0=>
  (cI (cy a2 a1 d0 a3) ()).bind fun f=>some f
def cK(a1:Int)(a2:Int)(a3:Int)(d0:(List aq)):Option ((List aq)):=recO fun n=>f7 n a1 a2 a3 d0
def ef(d0:(List aq)):Option ((List aq)):=
  (ia (Fb .u64 (d0.length:Int))).bind fun f=>(cK 0 (d0.length:Int) f d0).bind fun g=>some g
def mu(j:bC)(D:(List aa)×(List aw)×Int)(u:Int)(C:(List aq)):(Int×(List aa))->Option (gB (Int×(List aa)) (Int×(List aq)×(List aa))):=fun(f,g)=>
  if(decide (f<(j.dj.length:Int)))=true then((oc j.dj f).bind fun k=>(oc D.1 k).bind fun q=>(rR g [q] 104).bind fun r=>some (.next ((Fb .i64 (f+1)),r)))else(some (.stop (u,C,g)))
def mw(C:(List bC)×(List Int)×Int)(D:(List aa)×(List aw)×Int)(a0:ah)(a1:ae):(Int×(List aq))->Option (gB (Int×(List aq)) (((List aq))⊕((List aq)×(List aa)×Int))):=fun(j,u)=>
  if(decide (j<(C.1.length:Int)))=true then((oc C.1 j).bind fun k=>(cI (mu k D j u) (0,([]:(List aa)))).bind fun g=>(ji a0 a1 g.2.2).bind fun f=>if(f.2 != 0)=true then(some (.stop (.inr (([]:(List aq)),([]:(List aa)),f.2))))else((pr f.1.da).bind fun q=>(rR g.2.1 [(aq.mk q f.1)] 248).bind fun r=>some (.next ((Fb .i64 (g.1+1)),r))))else(some (.stop (.inl u)))
def my(r:(List bC)×(List Int)×Int)(u:(List aa)×(List aw)×Int):(Int×(List aa))->Option (gB (Int×(List aa)) ((List aa))):=fun(f,g)=>
  if(decide (f<(r.2.1.length:Int)))=true then((oc r.2.1 f).bind fun j=>(oc u.1 j).bind fun k=>(rR g [k] 104).bind fun q=>some (.next ((Fb .i64 (f+1)),q)))else(some (.stop g))
def kz(a0:ah)(a1:ae)(a2:(List aa)):Option ((List aq)×(List aa)×Int):=
  (nP a0 a1 a2).bind fun f=>if(f.2.2 != 0)=true then(some (([]:(List aq)),([]:(List aa)),f.2.2))else((iD a0.ac f.2.1).bind fun g=>if(g.2.2 != 0)=true then(some (([]:(List aq)),([]:(List aa)),g.2.2))else((cI (mw g f a0 a1) (0,([]:(List aq)))).bind fun j=>match j with| .inl u=>((ef u).bind fun r=>(cI (my g f) (0,([]:(List aa)))).bind fun k=>some (r,k,0))| .inr q=>(some q)))
def jd(a0:ah)(a1:ae)(a2:(List aa)):Option (bq×Int):=
  (kz a0 a1 a2).bind fun f=>if(f.2.2 != 0)=true then(some ((bq.mk [] [] []),f.2.2))else((sg 104 a2).bind fun g=>some ((bq.mk g f.1 f.2.1),0))
def mK(q:(List (List aa))×Int)(a0:ah)(a1:ae):(Int×(List bq))->Option (gB (Int×(List bq)) (((List bq))⊕(av×Int))):=fun(g,k)=>
  if(decide (g<(q.1.length:Int)))=true then((oc q.1 g).bind fun r=>(jd a0 a1 r).bind fun f=>if(f.2 != 0)=true then(some (.stop (.inr ((av.mk (ah.mk (bi.mk (al.mk (ag.mk 0 0 0) (ag.mk 0 0 0)) (bg.mk 0 [] []) 0 0 0 0 0) (bS.mk (bg.mk 0 [] []) 0 0) 0) (ae.mk []) []),f.2))))else((rR k [f.1] 72).bind fun j=>some (.next ((Fb .i64 (g+1)),j))))else(some (.stop (.inl k)))
def fw(a0:ah)(a1:ae)(a2:(List aa)):Option (av×Int):=
  (gW a0 a1 a2).bind fun j=>if(j.2 != 0)=true then(some ((av.mk (ah.mk (bi.mk (al.mk (ag.mk 0 0 0) (ag.mk 0 0 0)) (bg.mk 0 [] []) 0 0 0 0 0) (bS.mk (bg.mk 0 [] []) 0 0) 0) (ae.mk []) []),j.2))else((fk a0 a1).bind fun q=>(cI (mK j a0 a1) (0,([]:(List bq)))).bind fun f=>match f with| .inl k=>(some ((av.mk q.ba q.cm k),0))| .inr g=>(some g))
def nB(a0:bq):Option ((List aa)):=
  some a0.da
def fx(a0:av):(Int×(List aa))->Option (gB (Int×(List aa)) ((List aa))):=fun(s1,s2)=>
  if(decide (s1<(a0.bU.length:Int)))=true then((oc a0.bU s1).bind fun f=>(nB f).bind fun g=>(rR s2 g 104).bind fun j=>some (.next ((Fb .i64 (s1+1)),j)))else(some (.stop s2))
def kd(a0:av):Option ((List aa)):=
  (cI (fx a0) (0,([]:(List aa)))).bind fun f=>(de f).bind fun g=>some g
def gV(a0:av):Option ((List aa)):=
  (kd a0).bind fun f=>some f
def eV(a0:(List Int))(a1:(List Int)):Int->Option (gB (Int) ((Unit)⊕(Bool))):=fun s2=>
  if(decide (s2<(a0.length:Int)))=true then((oc a0 s2).bind fun f=>(oc a1 s2).bind fun g=>if(f != g)=true then(some (.stop (.inr false)))else(some (.next (Fb .i64 (s2+1)))))else(some (.stop (.inl ())))
def lq(a0:(List Int))(a1:(List Int)):Option (Bool):=
  if((a0.length:Int) != (a1.length:Int))=true then(some false)else((cI (eV a0 a1) 0).bind fun g=>match g with| .inl _=>(some true)| .inr f=>(some f))
def jC(a0:bh)(a1:bh):Option (Bool):=
  if(a0.kk==a1.kk)=true then(if((a0.cg.a0==a1.cg.a0)&&((a0.cg.a1==a1.cg.a1)&&((a0.cg.a2==a1.cg.a2)&&true)))=true then(if((a0.b9.a0==a1.b9.a0)&&((a0.b9.a1==a1.b9.a1)&&((a0.b9.a2==a1.b9.a2)&&true)))=true then((lq a0.eC a1.eC).bind fun f=>if f=true then(if(a0.eJ==a1.eJ)=true then(some (a0.fc==a1.fc))else(some false))else(some false))else(some false))else(some false))else(some false)
def cM(a0:(List bh))(a1:(List bh)):Int->Option (gB (Int) ((Unit)⊕(Bool))):=fun s2=>
  if(decide (s2<(a0.length:Int)))=true then((oc a0 s2).bind fun f=>(oc a1 s2).bind fun g=>(jC f g).bind fun j=>if(!j)=true then(some (.stop (.inr false)))else(some (.next (Fb .i64 (s2+1)))))else(some (.stop (.inl ())))
def gd(a0:(List bh))(a1:(List bh)):Option (Bool):=
  if((a0.length:Int) != (a1.length:Int))=true then(some false)else((cI (cM a0 a1) 0).bind fun f=>match f with| .inl _=>(some true)| .inr g=>(some g))
def nr(a0:bv)(a1:bv):Option (Bool):=
  (gd a0.cV a1.cV).bind fun f=>some f
def jo(a0:ae)(a1:ae)(a2:aa):Option (Bool):=
  (la a0 a2.a7 a2.bT).bind fun f=>(la a1 a2.a7 a2.bT).bind fun g=>if(f.2 != 0)=true then(some (!((f.2==0)==(g.2==0))))else(if(g.2 != 0)=true then(some (!((f.2==0)==(g.2==0))))else(if(!((f.1.bV.fX==g.1.bV.fX)&&((f.1.bV.fY==g.1.bV.fY)&&((f.1.bV.fZ==g.1.bV.fZ)&&true))))=true then(some true)else((nr f.1.bW g.1.bW).bind fun j=>some (!j))))
def gG(a0:aa)(d1:Int)(d2:ae)(d3:ae)(d4:(List (aa×Int))):Option (Bool):=
  if((u6 oS a0 0 d4) != d1)=true then(some true)else((jo d2 d3 a0).bind fun f=>some f)
def cN(a0:(List aa))(d1:Int)(d2:ae)(d3:ae)(d4:(List (aa×Int))):Int->Option (gB (Int) ((Unit)⊕(Int))):=fun s1=>
  if(decide (s1<(a0.length:Int)))=true then((oc a0 s1).bind fun f=>(gG f d1 d2 d3 d4).bind fun g=>if g=true then(some (.stop (.inr s1)))else(some (.next (Fb .i64 (s1+1)))))else(some (.stop (.inl ())))
def ge(a0:(List aa))(d1:Int)(d2:ae)(d3:ae)(d4:(List (aa×Int))):Option (Int):=
  (cI (cN a0 d1 d2 d3 d4) 0).bind fun g=>match g with| .inl _=>(some (-1))| .inr f=>(some f)
def dR(a0:(List aa))(d1:Int)(d2:ae)(d3:ae)(d4:(List (aa×Int))):Option (Bool):=
  (ge a0 d1 d2 d3 d4).bind fun f=>some (decide (f>=0))
def kw(k:(List aa))(g:Int):(Int×(List (aa×Int)))->Option (gB (Int×(List (aa×Int))) (Int×(List (aa×Int)))):=fun(f,j)=>
  if(decide (f<(k.length:Int)))=true then((oc k f).bind fun q=>some (.next ((Fb .i64 (f+1)),(yC oS q (Fb .i64 (g+1)) j))))else(some (.stop (g,j)))
def kx(k:(List (List aa))):(Int×(List (aa×Int)))->Option (gB (Int×(List (aa×Int))) ((List (aa×Int)))):=fun(f,j)=>
  if(decide (f<(k.length:Int)))=true then((oc k f).bind fun q=>(cI (kw q f) (0,j)).bind fun g=>some (.next ((Fb .i64 (g.1+1)),g.2)))else(some (.stop j))
def ky(r:(List (List aa)))(j:(List (aa×Int)))(u:(List (List aa)))(a3:ae)(a4:ae):(Int×(List Int))->Option (gB (Int×(List Int)) ((List Int))):=fun(f,g)=>
  if(decide (f<(r.length:Int)))=true then((oc r f).bind fun k=>(oc k 0).bind fun q=>if((u6 oS q 0 j)==0)=true then((rR g [f] 8).bind fun C=>some (.next ((Fb .i64 (f+1)),C)))else((oc u (Fb .i64 ((u6 oS q 0 j)-1))).bind fun D=>if((D.length:Int) != (k.length:Int))=true then((rR g [f] 8).bind fun E=>some (.next ((Fb .i64 (f+1)),E)))else((dR k (u6 oS q 0 j) a3 a4 j).bind fun F=>if F=true then((rR g [f] 8).bind fun G=>some (.next ((Fb .i64 (f+1)),G)))else(some (.next ((Fb .i64 (f+1)),g))))))else(some (.stop g))
def gr(a0:Int)(a1:(List aa))(a2:(List aa))(a3:ae)(a4:ae):Option ((List Int)×Int):=
  if(decide (a0<0))=true then(some (([]:(List Int)),2))else(if(decide (a0>1099511627776))=true then(some (([]:(List Int)),2))else((gt a1).bind fun q=>if(!q)=true then(some (([]:(List Int)),1))else((gt a2).bind fun r=>if(!r)=true then(some (([]:(List Int)),1))else((cO a3).bind fun u=>if(!u)=true then(some (([]:(List Int)),1))else((cO a4).bind fun C=>if(!C)=true then(some (([]:(List Int)),1))else((bZ a0 a1).bind fun f=>(cI (kx f) (0,([]:List (aa×Int)))).bind fun g=>(bZ a0 a2).bind fun k=>(cI (ky k g f a3 a4) (0,([]:(List Int)))).bind fun j=>some (j,0)))))))
def pY(p:aa):List UInt8:=Go.Lib.join [p.a7.bI,p.a7.bw,p.a7.bc,p.a7.bL] [46]++([p.bT,p.bu,p.co,p.bH,p.bN].flatMap fun n=>32::Go.Lib.itoa n)++[10]
def smallP(p:aa):Bool:=decide (p.a7.bI.length<=1000∧p.a7.bw.length<=1000∧p.a7.bc.length<=1000∧p.a7.bL.length<=1000)&& [p.bT,p.bu,p.co,p.bH,p.bN].all fun n=>decide (-9223372036854775808<=n∧n<=9223372036854775807)
def keyO(l:List aa):Option (List UInt8):=if l.length<=1000∧l.all smallP=true then some (l.flatMap pY)else none
def eW(a0:(List Int))(a1:Int):Int->Option (gB (Int) ((Unit)⊕(Int))):=fun s1=>
  if(decide (s1<(a0.length:Int)))=true then((oc a0 s1).bind fun f=>if(a1==f)=true then(some (.stop (.inr s1)))else(some (.next (Fb .i64 (s1+1)))))else(some (.stop (.inl ())))
def ng(a0:(List Int))(a1:Int):Option (Int):=
  (cI (eW a0 a1) 0).bind fun f=>match f with| .inl _=>(some (-1))| .inr g=>(some g)
def iL(a0:(List Int))(a1:Int):Option (Bool):=
  (ng a0 a1).bind fun f=>some (decide (f>=0))
def iu(u:(List aq)):(Int×(List aq))->Option (gB (Int×(List aq)) ((List aq))):=fun(g,j)=>
  if(decide (g<(u.length:Int)))=true then((inO j g).bind fun _=>(oc j g).bind fun k=>(sg 104 k.b7.da).bind fun q=>(inO j g).bind fun _=>(xL j g (fun(f:aq)=>(aq.mk f.dl (bJ.mk q f.b7.bc f.b7.fh f.b7.qN)))).bind fun r=>some (.next ((Fb .i64 (g+1)),r)))else(some (.stop j))
def jc(a0:bq):Option (bq):=
  (sg 104 a0.da).bind fun j=>(sg 104 a0.pL).bind fun k=>(sg 248 a0.gH).bind fun g=>(cI (iu g) (0,g)).bind fun f=>some (bq.mk j f k)
def kR(a0:av):(Int×(List ((List UInt8)×bq)))->Option (gB (Int×(List ((List UInt8)×bq))) ((List ((List UInt8)×bq)))):=fun(g,k)=>
  if(decide (g<(a0.bU.length:Int)))=true then((oc a0.bU g).bind fun f=>(keyO f.da).bind fun j=>some (.next ((Fb .i64 (g+1)),(yC (fun a b=>a==b) j f k))))else(some (.stop k))
def kT(F:(List (List aa))×Int)(G:(List Int)×Int)(q:(List ((List UInt8)×bq)))(a0:av)(a1:ae):(Int×(List bq))->Option (gB (Int×(List bq)) (((List bq))⊕(av×(List Int)×Int))):=fun(f,g)=>
  if(decide (f<(F.1.length:Int)))=true then((oc F.1 f).bind fun k=>(iL G.1 f).bind fun r=>if(!r)=true then((keyO k).bind fun u=>(jc (u6 (fun a b=>a==b) u (bq.mk [] [] []) q)).bind fun C=>(rR g [C] 72).bind fun D=>some (.next ((Fb .i64 (f+1)),D)))else((jd a0.ba a1 k).bind fun j=>if(j.2 != 0)=true then(some (.stop (.inr ((av.mk (ah.mk (bi.mk (al.mk (ag.mk 0 0 0) (ag.mk 0 0 0)) (bg.mk 0 [] []) 0 0 0 0 0) (bS.mk (bg.mk 0 [] []) 0 0) 0) (ae.mk []) []),([]:(List Int)),j.2))))else((rR g [j.1] 72).bind fun E=>some (.next ((Fb .i64 (f+1)),E)))))else(some (.stop (.inl g)))
def dm(a0:av)(a1:ae)(a2:(List aa)):Option (av×(List Int)×Int):=
  (gW a0.ba a1 a2).bind fun r=>if(r.2 != 0)=true then(some ((av.mk (ah.mk (bi.mk (al.mk (ag.mk 0 0 0) (ag.mk 0 0 0)) (bg.mk 0 [] []) 0 0 0 0 0) (bS.mk (bg.mk 0 [] []) 0 0) 0) (ae.mk []) []),([]:(List Int)),r.2))else((gV a0).bind fun C=>(gr a0.ba.ac.ch C a2 a0.cm a1).bind fun g=>if(g.2 != 0)=true then(some ((av.mk (ah.mk (bi.mk (al.mk (ag.mk 0 0 0) (ag.mk 0 0 0)) (bg.mk 0 [] []) 0 0 0 0 0) (bS.mk (bg.mk 0 [] []) 0 0) 0) (ae.mk []) []),([]:(List Int)),g.2))else((cI (kR a0) (0,([]:List ((List UInt8)×bq)))).bind fun j=>(fk a0.ba a1).bind fun f=>(cI (kT r g j a0 a1) (0,([]:(List bq)))).bind fun k=>match k with| .inl u=>(some ((av.mk f.ba f.cm u),g.1,0))| .inr q=>(some q)))
def rr(a0:(List Int))(a1:(List Int)):Int->Option (gB (Int) ((Unit)⊕(Bool))):=fun s2=>
  if(decide (s2<(a0.length:Int)))=true then((oc a0 s2).bind fun f=>(oc a1 s2).bind fun g=>if(f != g)=true then(some (.stop (.inr false)))else(some (.next (Fb .i64 (s2+1)))))else(some (.stop (.inl ())))
def keep_Ints(a0:(List Int))(a1:(List Int)):Option (Bool):=
  if((a0.length:Int) != (a1.length:Int))=true then(some false)else((cI (rr a0 a1) 0).bind fun g=>match g with| .inl _=>(some true)| .inr f=>(some f))
def ff(a0:aq)(a1:aq):Option (Int):=
  (jQ a0.dl a1.dl).bind fun f=>some f
def jF(a1:Int)(s1:Int):(Int×(List aq))->Option (gB (Int×(List aq)) (Int×(List aq))):=fun(f,g)=>
  if(decide (f>a1))=true then((inO g f).bind fun _=>(oc g f).bind fun k=>(inO g (Fb .i64 (f-1))).bind fun _=>(oc g (Fb .i64 (f-1))).bind fun q=>(ff k q).bind fun r=>if(decide (r<0))=true then((inO g (Fb .i64 (f-1))).bind fun _=>(oc g (Fb .i64 (f-1))).bind fun u=>(inO g f).bind fun _=>(oc g f).bind fun C=>(inO g f).bind fun _=>(tO g f u).bind fun j=>(inO j (Fb .i64 (f-1))).bind fun _=>(tO j (Fb .i64 (f-1)) C).bind fun D=>some (.next ((Fb .i64 (f-1)),D)))else(some (.stop (s1,g))))else(some (.stop (s1,g)))
def jG(a2:Int)(a1:Int):(Int×(List aq))->Option (gB (Int×(List aq)) ((List aq))):=fun(s1,s2)=>
  if(decide (s1<a2))=true then((cI (jF a1 s1) (s1,s2)).bind fun f=>some (.next ((Fb .i64 (f.1+1)),f.2)))else((some s2).bind fun z33=>some (.stop z33))
def dN(a1:Int)(a2:Int)(d0:(List aq)):Option ((List aq)):=
  (cI (jG a2 a1) ((Fb .i64 (a1+1)),d0)).bind fun f=>some f
def cL(a2:Int)(a1:Int)(d0:(List aq))(a3:Int):Unit->Option (gB (Unit) ((List aq))):=fun _=>
  if(decide ((Fb .i64 (a2-a1))<=12))=true then((dN a1 a2 d0).bind fun f=>some (.stop f))else(if(a3==0)=true then(none)else(none))
def gL:Nat->Int->Int->Int->(List aq)->Option ((List aq))
  |0,_,_,_,_=>none
  |nfu+1,a1,a2,a3,d0=>
  (cI (cL a2 a1 d0 a3) ()).bind fun f=>some f
def cW(a1:Int)(a2:Int)(a3:Int)(d0:(List aq)):Option ((List aq)):=recO fun n=>gL n a1 a2 a3 d0
def eK(d0:(List aq)):Option ((List aq)):=
  (ia (Fb .u64 (d0.length:Int))).bind fun f=>(cW 0 (d0.length:Int) f d0).bind fun g=>some g
def iI(a0:av):(Int×(List aq))->Option (gB (Int×(List aq)) ((List aq))):=fun(s1,s2)=>
  if(decide (s1<(a0.bU.length:Int)))=true then((oc a0.bU s1).bind fun f=>(jc f).bind fun g=>(rR s2 g.gH 248).bind fun j=>some (.next ((Fb .i64 (s1+1)),j)))else(some (.stop s2))
def gx(a0:av):Option ((List aq)):=
  (cI (iI a0) (0,([]:(List aq)))).bind fun f=>(eK f).bind fun g=>some g
def eQ(a0:bh)(a1:bh):Int->Option (gB (Int) ((Unit)⊕(Bool))):=fun f=>
  if(decide (f<(a0.eC.length:Int)))=true then((oc a0.eC f).bind fun g=>(oc a1.eC f).bind fun j=>if(g != j)=true then(some (.stop (.inr false)))else(some (.next (Fb .i64 (f+1)))))else(some (.stop (.inl ())))
def lR(a0:bh)(a1:bh):Option (Bool):=
  if(a0.kk != a1.kk)=true then(some false)else(if(!((a0.cg.a0==a1.cg.a0)&&((a0.cg.a1==a1.cg.a1)&&((a0.cg.a2==a1.cg.a2)&&true))))=true then(some false)else(if(!((a0.b9.a0==a1.b9.a0)&&((a0.b9.a1==a1.b9.a1)&&((a0.b9.a2==a1.b9.a2)&&true))))=true then(some false)else(if(a0.eJ != a1.eJ)=true then(some false)else(if(a0.fc != a1.fc)=true then(some false)else(if((a0.eC.length:Int) != (a1.eC.length:Int))=true then(some false)else((cI (eQ a0 a1) 0).bind fun f=>match f with| .inl _=>(some true)| .inr g=>(some g)))))))
def jW(a0:bv)(a1:bv):Int->Option (gB (Int) ((Unit)⊕(Bool))):=fun s2=>
  if(decide (s2<(a0.cV.length:Int)))=true then((oc a0.cV s2).bind fun f=>(oc a1.cV s2).bind fun g=>(lR f g).bind fun j=>if(!j)=true then(some (.stop (.inr false)))else(some (.next (Fb .i64 (s2+1)))))else(some (.stop (.inl ())))
def pD(a0:bv)(a1:bv):Option (Bool):=
  if((a0.cV.length:Int) != (a1.cV.length:Int))=true then(some false)else((cI (jW a0 a1) 0).bind fun f=>match f with| .inl _=>(some true)| .inr g=>(some g))
def lT(a0:az)(a1:az):Option (Bool):=
  if(a0.ca==a1.ca)=true then(if(a0.fTo==a1.fTo)=true then(if((a0.nA.cg==a1.nA.cg)&&((a0.nA.b9==a1.nA.b9)&&true))=true then(if((a0.bV.fX==a1.bV.fX)&&((a0.bV.fY==a1.bV.fY)&&((a0.bV.fZ==a1.bV.fZ)&&true)))=true then((pD a0.bW a1.bW).bind fun f=>some f)else(some false))else(some false))else(some false))else(some false)
def mI(q:aj)(r:aj)(s2:Int):Int->Option (gB (Int) ((Int)⊕(Bool))):=fun f=>
  if(decide (f<(q.ct.length:Int)))=true then((oc q.ct f).bind fun g=>(oc r.ct f).bind fun j=>(lT g j).bind fun k=>if(!k)=true then(some (.stop (.inr false)))else(some (.next (Fb .i64 (f+1)))))else(some (.stop (.inl s2)))
def iX(a0:ae)(a1:ae):Int->Option (gB (Int) ((Unit)⊕(Bool))):=fun s2=>
  if(decide (s2<(a0.a8.length:Int)))=true then((oc a0.a8 s2).bind fun f=>(oc a1.a8 s2).bind fun g=>if(!((f.a7.bI==g.a7.bI)&&((f.a7.bw==g.a7.bw)&&((f.a7.bc==g.a7.bc)&&((f.a7.bL==g.a7.bL)&&true)))))=true then(some (.stop (.inr false)))else(if((f.ct.length:Int) != (g.ct.length:Int))=true then(some (.stop (.inr false)))else((cI (mI f g s2) 0).bind fun j=>match j with| .inl q=>(some (.next (Fb .i64 (q+1))))| .inr k=>(some (.stop (.inr k))))))else(some (.stop (.inl ())))
def om(a0:ae)(a1:ae):Option (Bool):=
  if((a0.a8.length:Int) != (a1.a8.length:Int))=true then(some false)else((cI (iX a0 a1) 0).bind fun f=>match f with| .inl _=>(some true)| .inr g=>(some g))
def jZ(a0:(List Int))(a1:(List Int)):Int->Option (gB (Int) ((Unit)⊕(Bool))):=fun s2=>
  if(decide (s2<(a0.length:Int)))=true then((oc a0 s2).bind fun f=>(oc a1 s2).bind fun g=>if(f != g)=true then(some (.stop (.inr false)))else(some (.next (Fb .i64 (s2+1)))))else(some (.stop (.inl ())))
def oq(a0:(List Int))(a1:(List Int)):Option (Bool):=
  if((a0.length:Int) != (a1.length:Int))=true then(some false)else((cI (jZ a0 a1) 0).bind fun g=>match g with| .inl _=>(some true)| .inr f=>(some f))
def jL(a0:bg)(a1:bg):Option (Bool):=
  if(a0.bQ==a1.bQ)=true then((oq a0.bt a1.bt).bind fun f=>if f=true then((oq a0.bd a1.bd).bind fun g=>some g)else(some false))else(some false)
def gC(a0:ah)(a1:ah):Option (Bool):=
  if(((a0.ac.bj.bt.fX==a1.ac.bj.bt.fX)&&((a0.ac.bj.bt.fY==a1.ac.bj.bt.fY)&&((a0.ac.bj.bt.fZ==a1.ac.bj.bt.fZ)&&true)))&&(((a0.ac.bj.bd.fX==a1.ac.bj.bd.fX)&&((a0.ac.bj.bd.fY==a1.ac.bj.bd.fY)&&((a0.ac.bj.bd.fZ==a1.ac.bj.bd.fZ)&&true)))&&true))=true then((jL a0.ac.bG a1.ac.bG).bind fun f=>if f=true then(if(a0.ac.dv==a1.ac.dv)=true then(if(a0.ac.bA==a1.ac.bA)=true then(if(a0.ac.ch==a1.ac.ch)=true then(if(a0.ac.dJ==a1.ac.dJ)=true then(if(a0.ac.cn==a1.ac.cn)=true then((jL a0.bK.bB a1.bK.bB).bind fun g=>if g=true then(if(a0.bK.cg==a1.bK.cg)=true then(if(a0.bK.b9==a1.bK.b9)=true then(some (a0.bA==a1.bA))else(some false))else(some false))else(some false))else(some false))else(some false))else(some false))else(some false))else(some false))else(some false))else(some false)
def lZ(a0:(List aa))(a1:(List aa)):Int->Option (gB (Int) ((Unit)⊕(Bool))):=fun s2=>
  if(decide (s2<(a0.length:Int)))=true then((oc a0 s2).bind fun f=>(oc a1 s2).bind fun g=>if(!(((f.a7.bI==g.a7.bI)&&((f.a7.bw==g.a7.bw)&&((f.a7.bc==g.a7.bc)&&((f.a7.bL==g.a7.bL)&&true))))&&((f.bT==g.bT)&&((f.bu==g.bu)&&((f.co==g.co)&&((f.bH==g.bH)&&((f.bN==g.bN)&&true)))))))=true then(some (.stop (.inr false)))else(some (.next (Fb .i64 (s2+1)))))else(some (.stop (.inl ())))
def dg(a0:(List aa))(a1:(List aa)):Option (Bool):=
  if((a0.length:Int) != (a1.length:Int))=true then(some false)else((cI (lZ a0 a1) 0).bind fun g=>match g with| .inl _=>(some true)| .inr f=>(some f))
def pG(a0:bJ)(a1:bJ):Option (Bool):=
  (dg a0.da a1.da).bind fun f=>if f=true then(if(((a0.bc.bO.fX==a1.bc.bO.fX)&&((a0.bc.bO.fY==a1.bc.bO.fY)&&((a0.bc.bO.fZ==a1.bc.bO.fZ)&&true)))&&((a0.bc.bT==a1.bc.bT)&&((a0.bc.cb==a1.bc.cb)&&((a0.bc.mz==a1.bc.mz)&&((((a0.bc.cp.bt.fX==a1.bc.cp.bt.fX)&&((a0.bc.cp.bt.fY==a1.bc.cp.bt.fY)&&((a0.bc.cp.bt.fZ==a1.bc.cp.bt.fZ)&&true)))&&(((a0.bc.cp.bd.fX==a1.bc.cp.bd.fX)&&((a0.bc.cp.bd.fY==a1.bc.cp.bd.fY)&&((a0.bc.cp.bd.fZ==a1.bc.cp.bd.fZ)&&true)))&&true))&&true)))))=true then(if((a0.fh.bt==a1.fh.bt)&&((a0.fh.bd==a1.fh.bd)&&true))=true then(some (a0.qN==a1.qN))else(some false))else(some false))else(some false)
def iZ(a0:(List aq))(a1:(List aq)):Int->Option (gB (Int) ((Unit)⊕(Bool))):=fun s2=>
  if(decide (s2<(a0.length:Int)))=true then((oc a0 s2).bind fun f=>(oc a1 s2).bind fun g=>if(!(((f.dl.a7.bI==g.dl.a7.bI)&&((f.dl.a7.bw==g.dl.a7.bw)&&((f.dl.a7.bc==g.dl.a7.bc)&&((f.dl.a7.bL==g.dl.a7.bL)&&true))))&&((f.dl.bT==g.dl.bT)&&((f.dl.bu==g.dl.bu)&&((f.dl.co==g.dl.co)&&((f.dl.bH==g.dl.bH)&&((f.dl.bN==g.dl.bN)&&true)))))))=true then(some (.stop (.inr false)))else((oc a0 s2).bind fun k=>(oc a1 s2).bind fun q=>(pG k.b7 q.b7).bind fun j=>if(!j)=true then(some (.stop (.inr false)))else(some (.next (Fb .i64 (s2+1))))))else(some (.stop (.inl ())))
def l5(a0:(List aq))(a1:(List aq)):Option (Bool):=
  if((a0.length:Int) != (a1.length:Int))=true then(some false)else((cI (iZ a0 a1) 0).bind fun f=>match f with| .inl _=>(some true)| .inr g=>(some g))
def ja(a0:av)(a1:av):Int->Option (gB (Int) ((Unit)⊕(Bool))):=fun g=>
  if(decide (g<(a0.bU.length:Int)))=true then((oc a0.bU g).bind fun r=>(oc a1.bU g).bind fun f=>(dg r.da f.da).bind fun j=>if(!j)=true then(some (.stop (.inr false)))else((dg r.pL f.pL).bind fun k=>if(!k)=true then(some (.stop (.inr false)))else((l5 r.gH f.gH).bind fun q=>if(!q)=true then(some (.stop (.inr false)))else(some (.next (Fb .i64 (g+1)))))))else(some (.stop (.inl ())))
def na(a0:av)(a1:av):Option (Bool):=
  if((a0.bU.length:Int) != (a1.bU.length:Int))=true then(some false)else((om a0.cm a1.cm).bind fun j=>if(!j)=true then(some false)else((gC a0.ba a1.ba).bind fun k=>if(!k)=true then(some false)else((cI (ja a0 a1) 0).bind fun f=>match f with| .inl _=>(some true)| .inr g=>(some g))))
def mc:Option (Bool):=
  (kB []).bind fun u=>(dP 2 u).bind fun q=>(gP 3 q.2).bind fun r=>(gj 1).bind fun f=>(fw q.1 r.1 [(aa.mk f 2500 2500 2500 10 0),(aa.mk f 2500 2500 2500 11 0)]).bind fun g=>(dm g.1 r.1 [(aa.mk f 2500 2500 2500 11 0),(aa.mk f 2500 2500 2500 10 0)]).bind fun k=>if(g.2==0)=true then((gx g.1).bind fun C=>if((C.length:Int)==1)=true then(if(k.2.2==0)=true then(if((k.2.1.length:Int)==0)=true then((na g.1 k.1).bind fun j=>some j)else(some false))else(some false))else(some false))else(some false)
def mX(a1:(List aa)):(Int×(List Int)×Int×(List aa))->Option (gB (Int×(List Int)×Int×(List aa)) ((List Int)×Int×(List aa))):=fun(s1,s2,q,g)=>
  if(decide (s1<(a1.length:Int)))=true then((du 5 (ai.mk s2 q)).bind fun f=>if(decide (f.1>0))=true then((oc a1 s1).bind fun j=>(rR g [j] 104).bind fun k=>some (.next ((Fb .i64 (s1+1)),f.2.fL,f.2.fAt,k)))else(some (.next ((Fb .i64 (s1+1)),f.2.fL,f.2.fAt,g))))else(some (.stop (s2,q,g)))
def mm(a1:(List aa))(a2:(List aa))(d0:ai):Option ((List aa)×ai):=
  (cI (mX a1) (0,d0.fL,d0.fAt,([]:(List aa)))).bind fun f=>(du 2 (ai.mk f.1 f.2.1)).bind fun g=>if(g.1==0)=true then(if(decide ((a2.length:Int)>0))=true then((du (a2.length:Int) g.2).bind fun j=>(oc a2 j.1).bind fun k=>(rR f.2.2 [k] 104).bind fun q=>some (q,j.2))else(some (f.2.2,g.2)))else(some (f.2.2,g.2))
def ml(a1:ae):(Int×(List Int)×Int×(List aj))->Option (gB (Int×(List Int)×Int×(List aj)) ((List Int)×Int×(List aj))):=fun(s1,s2,W,r)=>
  if(decide (s1<(a1.a8.length:Int)))=true then((oc a1.a8 s1).bind fun k=>(rR ([]:List az) k.ct 80).bind fun f=>(du (f.length:Int) (ai.mk s2 W)).bind fun j=>(du 10 j.2).bind fun g=>if(g.1==0)=true then((mW 60 g.2).bind fun u=>(inO f j.1).bind fun _=>(xL f j.1 (fun(q:az)=>(az.mk q.ca q.fTo q.nA u.1 q.bW))).bind fun H=>(rR r [(aj.mk k.a7 H)] 88).bind fun I=>some (.next ((Fb .i64 (s1+1)),u.2.fL,u.2.fAt,I)))else(if(g.1==1)=true then((gZ g.2).bind fun C=>(inO f j.1).bind fun _=>(xL f j.1 (fun(z26:az)=>(az.mk z26.ca z26.fTo z26.nA z26.bV C.1))).bind fun J=>(rR r [(aj.mk k.a7 J)] 88).bind fun K=>some (.next ((Fb .i64 (s1+1)),C.2.fL,C.2.fAt,K)))else(if(g.1==2)=true then((inO f (Fb .i64 ((f.length:Int)-1))).bind fun _=>(oc f (Fb .i64 ((f.length:Int)-1))).bind fun L=>(du 4000 g.2).bind fun F=>(ei [1,1000] F.2).bind fun D=>(inO f (Fb .i64 ((f.length:Int)-1))).bind fun _=>(xL f (Fb .i64 ((f.length:Int)-1)) (fun(z37:az)=>(az.mk z37.ca (Fb .i64 ((Fb .i64 (L.ca+1))+(Fb .i64 (F.1*D.1)))) z37.nA z37.bV z37.bW))).bind fun N=>(rR r [(aj.mk k.a7 N)] 88).bind fun O=>some (.next ((Fb .i64 (s1+1)),D.2.fL,D.2.fAt,O)))else(if(g.1==3)=true then(some (.next ((Fb .i64 (s1+1)),g.2.fL,g.2.fAt,r)))else(if(g.1==4)=true then((du 2 g.2).bind fun E=>(inO f j.1).bind fun _=>(xL f j.1 (fun(z45:az)=>(az.mk z45.ca z45.fTo (cG.mk (Fb .i64 (50+E.1)) z45.nA.b9) z45.bV z45.bW))).bind fun G=>(inO G j.1).bind fun _=>(xL G j.1 (fun(z49:az)=>(az.mk z49.ca z49.fTo (cG.mk z49.nA.cg 1) z49.bV z49.bW))).bind fun Q=>(rR r [(aj.mk k.a7 Q)] 88).bind fun T=>some (.next ((Fb .i64 (s1+1)),E.2.fL,E.2.fAt,T)))else((rR r [(aj.mk k.a7 f)] 88).bind fun U=>some (.next ((Fb .i64 (s1+1)),g.2.fL,g.2.fAt,U))))))))else(some (.stop (s2,W,r)))
def lA(a1:ae)(d0:ai):Option (ae×ai):=
  (cI (ml a1) (0,d0.fL,d0.fAt,([]:(List aj)))).bind fun f=>some ((ae.mk f.2.2),(ai.mk f.1 f.2.1))
def nK(a0:bq):Option ((List aa)):=
  some a0.pL
def fe(a0:av):(Int×(List aa))->Option (gB (Int×(List aa)) ((List aa))):=fun(s1,s2)=>
  if(decide (s1<(a0.bU.length:Int)))=true then((oc a0.bU s1).bind fun f=>(nK f).bind fun g=>(rR s2 g 104).bind fun j=>some (.next ((Fb .i64 (s1+1)),j)))else(some (.stop s2))
def jx(a0:av):Option ((List aa)):=
  (cI (fe a0) (0,([]:(List aa)))).bind fun f=>(de f).bind fun g=>some g
def kN(a0:av):Option ((List aa)):=
  (jx a0).bind fun f=>some f
def iz(a0:(List UInt8))(a1:(List UInt8)):Option (Int):=
  if(Op.bytesLess a0 a1)=true then(some (-1))else(if(!(Op.bytesLess a0 a1||a0==a1))=true then(some 1)else(some 0))
def nn(a0:bn)(a1:bn):Option (Int):=
  (iz a0.bI a1.bI).bind fun f=>(iz a0.bw a1.bw).bind fun g=>(iz a0.bc a1.bc).bind fun j=>(iz a0.bL a1.bL).bind fun k=>if(f != 0)=true then(some f)else(if(g != 0)=true then(some g)else(if(j != 0)=true then(some j)else(if(k != 0)=true then(some k)else(some 0))))
def np(a0:aa)(a1:aa):Option (Int):=
  (nn a0.a7 a1.a7).bind fun f=>if(f != 0)=true then(some f)else(if(decide (a0.bT<a1.bT))=true then(some (-1))else(if(decide (a0.bT>a1.bT))=true then(some 1)else(if(decide (a0.bu<a1.bu))=true then(some (-1))else(if(decide (a0.bu>a1.bu))=true then(some 1)else(if(decide (a0.co<a1.co))=true then(some (-1))else(if(decide (a0.co>a1.co))=true then(some 1)else(if(decide (a0.bH<a1.bH))=true then(some (-1))else(if(decide (a0.bH>a1.bH))=true then(some 1)else(if(decide (a0.bN<a1.bN))=true then(some (-1))else(if(decide (a0.bN>a1.bN))=true then(some 1)else(some 0)))))))))))
def mJ(s2:(List aa))(a0:(List aa))(s1:Int):Int->Option (gB (Int) (Int×Int×(List aa))):=fun f=>
  if(decide (f>0))=true then((inO s2 (Fb .i64 (f-1))).bind fun _=>(oc s2 (Fb .i64 (f-1))).bind fun g=>(oc a0 s1).bind fun j=>(np g j).bind fun k=>if(decide (k>0))=true then(some (.next (Fb .i64 (f-1))))else(some (.stop (s1,f,s2))))else(some (.stop (s1,f,s2)))
def iY(a0:(List aa))(f:Int×Int×(List aa)):Option (gB (Int×(List aa)) ((List aa))):=
  (oc a0 f.1).bind fun k=>(rR f.2.2 [k] 104).bind fun g=>(vB g.length (Fb .i64 (f.2.1+1)) (g.length:Int)).bind fun _=>(vB g.length f.2.1 (g.length:Int)).bind fun _=>(zI g.length (0+((Fb .i64 (f.2.1+1)):Int).toNat) (0+((g.length:Int):Int).toNat)).bind fun _=>(zB g (0+(f.2.1:Int).toNat) (0+((g.length:Int):Int).toNat)).bind fun j=>(oc a0 f.1).bind fun q=>(inO (yu g (0+((Fb .i64 (f.2.1+1)):Int).toNat) ((0+((g.length:Int):Int).toNat)-(0+((Fb .i64 (f.2.1+1)):Int).toNat)) j) f.2.1).bind fun _=>(tO (yu g (0+((Fb .i64 (f.2.1+1)):Int).toNat) ((0+((g.length:Int):Int).toNat)-(0+((Fb .i64 (f.2.1+1)):Int).toNat)) j) f.2.1 q).bind fun r=>some (.next ((Fb .i64 (f.1+1)),r))
def oo(a0:(List aa)):(Int×(List aa))->Option (gB (Int×(List aa)) ((List aa))):=fun(s1,s2)=>
  if(decide (s1<(a0.length:Int)))=true then((cI (mJ s2 a0 s1) (s2.length:Int)).bind fun f=>if(decide (f.2.1>0))=true then((inO f.2.2 (Fb .i64 (f.2.1-1))).bind fun _=>(oc f.2.2 (Fb .i64 (f.2.1-1))).bind fun g=>(oc a0 f.1).bind fun j=>if(((g.a7.bI==j.a7.bI)&&((g.a7.bw==j.a7.bw)&&((g.a7.bc==j.a7.bc)&&((g.a7.bL==j.a7.bL)&&true))))&&((g.bT==j.bT)&&((g.bu==j.bu)&&((g.co==j.co)&&((g.bH==j.bH)&&((g.bN==j.bN)&&true))))))=true then(some (.next ((Fb .i64 (f.1+1)),f.2.2)))else(iY a0 f))else(iY a0 f))else(some (.stop s2))
def pE(a0:(List aa)):Option ((List aa)):=
  (cI (oo a0) (0,([]:(List aa)))).bind fun f=>some f
def ek(r:Int)(u:Int)(C:Int)(D:Int)(E:Int)(F:Int)(G:Int)(H:(List Int))(I:(List Int))(J:Int)(K:Int)(L:Int)(N:Int)(O:Int)(Q:Int)(T:(List Int))(U:(List Int))(W:Int)(X:Int)(Y:Int)(a5:(List aj))(a6:(List bq))(s8:Int)(g:(List aa))(k:(List Int))(q:Int)(j:(List aj)):Option (gB ((List aa)×Int×(List Int)×Int×(List aj)×Int×Int×Int×Int×Int×Int×Int×(List Int)×(List Int)×Int×Int×Int×Int×Int×Int×(List Int)×(List Int)×Int×Int×Int×(List aj)×(List bq)) (((List aa)×(List aj)×Int×Int×Int×Int×Int×Int×Int×(List Int)×(List Int)×Int×Int×Int×Int×Int×Int×(List Int)×(List Int)×Int×Int×Int×(List aj)×(List bq))⊕(Bool))):=
  (dm (av.mk (ah.mk (bi.mk (al.mk (ag.mk r u C) (ag.mk D E F)) (bg.mk G H I) J K L N O) (bS.mk (bg.mk Q T U) W X) Y) (ae.mk a5) a6) (ae.mk j) g).bind fun f=>if(f.2.2 != 0)=true then(some (.stop (.inr false)))else(some (.next (g,(Fb .i64 (s8+1)),k,q,j,f.1.ba.ac.bj.bt.fX,f.1.ba.ac.bj.bt.fY,f.1.ba.ac.bj.bt.fZ,f.1.ba.ac.bj.bd.fX,f.1.ba.ac.bj.bd.fY,f.1.ba.ac.bj.bd.fZ,f.1.ba.ac.bG.bQ,f.1.ba.ac.bG.bt,f.1.ba.ac.bG.bd,f.1.ba.ac.dv,f.1.ba.ac.bA,f.1.ba.ac.ch,f.1.ba.ac.dJ,f.1.ba.ac.cn,f.1.ba.bK.bB.bQ,f.1.ba.bK.bB.bt,f.1.ba.bK.bB.bd,f.1.ba.bK.cg,f.1.ba.bK.b9,f.1.ba.bA,f.1.cm.a8,f.1.bU)))
def lH(x2:ah×ai):((List aa)×Int×(List Int)×Int×(List aj)×Int×Int×Int×Int×Int×Int×Int×(List Int)×(List Int)×Int×Int×Int×Int×Int×Int×(List Int)×(List Int)×Int×Int×Int×(List aj)×(List bq))->Option (gB ((List aa)×Int×(List Int)×Int×(List aj)×Int×Int×Int×Int×Int×Int×Int×(List Int)×(List Int)×Int×Int×Int×Int×Int×Int×(List Int)×(List Int)×Int×Int×Int×(List aj)×(List bq)) (((List aa)×(List aj)×Int×Int×Int×Int×Int×Int×Int×(List Int)×(List Int)×Int×Int×Int×Int×Int×Int×(List Int)×(List Int)×Int×Int×Int×(List aj)×(List bq))⊕(Bool))):=fun(s7,s8,s9,a9,f,g,j,k,q,r,u,C,D,E,F,G,H,I,J,K,L,N,O,Q,T,U,W)=>
  if(decide (s8<3))=true then((du 2 (ai.mk s9 a9)).bind fun X=>if(X.1==0)=true then((lA (ae.mk f) X.2).bind fun Y=>ek g j k q r u C D E F G H I J K L N O Q T U W s8 s7 Y.2.fL Y.2.fAt Y.1.a8)else((k6 x2.1 (ae.mk f) 4 X.2).bind fun a6=>(mm s7 a6.1 a6.2).bind fun a5=>ek g j k q r u C D E F G H I J K L N O Q T U W s8 a5.1 a5.2.fL a5.2.fAt f))else(some (.stop (.inl (s7,f,g,j,k,q,r,u,C,D,E,F,G,H,I,J,K,L,N,O,Q,T,U,W))))
def kD(a0:(List Int)):Option (Bool):=
  (kB a0).bind fun O=>(dP 3 O).bind fun k=>(gP 6 k.2).bind fun r=>(k6 k.1 r.1 8 r.2).bind fun u=>(fw k.1 r.1 u.1).bind fun g=>if(g.2 != 0)=true then(some false)else((cI (lH k) (u.1,0,u.2.fL,u.2.fAt,r.1.a8,g.1.ba.ac.bj.bt.fX,g.1.ba.ac.bj.bt.fY,g.1.ba.ac.bj.bt.fZ,g.1.ba.ac.bj.bd.fX,g.1.ba.ac.bj.bd.fY,g.1.ba.ac.bj.bd.fZ,g.1.ba.ac.bG.bQ,g.1.ba.ac.bG.bt,g.1.ba.ac.bG.bd,g.1.ba.ac.dv,g.1.ba.ac.bA,g.1.ba.ac.ch,g.1.ba.ac.dJ,g.1.ba.ac.cn,g.1.ba.bK.bB.bQ,g.1.ba.bK.bB.bt,g.1.ba.bK.bB.bd,g.1.ba.bK.cg,g.1.ba.bK.b9,g.1.ba.bA,g.1.cm.a8,g.1.bU)).bind fun C=>match C with| .inl f=>((fw k.1 (ae.mk f.2.1) f.1).bind fun q=>(kz k.1 (ae.mk f.2.1) f.1).bind fun j=>if(q.2==0)=true then(if(j.2.2==0)=true then((na (av.mk (ah.mk (bi.mk (al.mk (ag.mk f.2.2.1 f.2.2.2.1 f.2.2.2.2.1) (ag.mk f.2.2.2.2.2.1 f.2.2.2.2.2.2.1 f.2.2.2.2.2.2.2.1)) (bg.mk f.2.2.2.2.2.2.2.2.1 f.2.2.2.2.2.2.2.2.2.1 f.2.2.2.2.2.2.2.2.2.2.1) f.2.2.2.2.2.2.2.2.2.2.2.1 f.2.2.2.2.2.2.2.2.2.2.2.2.1 f.2.2.2.2.2.2.2.2.2.2.2.2.2.1 f.2.2.2.2.2.2.2.2.2.2.2.2.2.2.1 f.2.2.2.2.2.2.2.2.2.2.2.2.2.2.2.1) (bS.mk (bg.mk f.2.2.2.2.2.2.2.2.2.2.2.2.2.2.2.2.1 f.2.2.2.2.2.2.2.2.2.2.2.2.2.2.2.2.2.1 f.2.2.2.2.2.2.2.2.2.2.2.2.2.2.2.2.2.2.1) f.2.2.2.2.2.2.2.2.2.2.2.2.2.2.2.2.2.2.2.1 f.2.2.2.2.2.2.2.2.2.2.2.2.2.2.2.2.2.2.2.2.1) f.2.2.2.2.2.2.2.2.2.2.2.2.2.2.2.2.2.2.2.2.2.1) (ae.mk f.2.2.2.2.2.2.2.2.2.2.2.2.2.2.2.2.2.2.2.2.2.2.1) f.2.2.2.2.2.2.2.2.2.2.2.2.2.2.2.2.2.2.2.2.2.2.2) q.1).bind fun E=>if E=true then((gx (av.mk (ah.mk (bi.mk (al.mk (ag.mk f.2.2.1 f.2.2.2.1 f.2.2.2.2.1) (ag.mk f.2.2.2.2.2.1 f.2.2.2.2.2.2.1 f.2.2.2.2.2.2.2.1)) (bg.mk f.2.2.2.2.2.2.2.2.1 f.2.2.2.2.2.2.2.2.2.1 f.2.2.2.2.2.2.2.2.2.2.1) f.2.2.2.2.2.2.2.2.2.2.2.1 f.2.2.2.2.2.2.2.2.2.2.2.2.1 f.2.2.2.2.2.2.2.2.2.2.2.2.2.1 f.2.2.2.2.2.2.2.2.2.2.2.2.2.2.1 f.2.2.2.2.2.2.2.2.2.2.2.2.2.2.2.1) (bS.mk (bg.mk f.2.2.2.2.2.2.2.2.2.2.2.2.2.2.2.2.1 f.2.2.2.2.2.2.2.2.2.2.2.2.2.2.2.2.2.1 f.2.2.2.2.2.2.2.2.2.2.2.2.2.2.2.2.2.2.1) f.2.2.2.2.2.2.2.2.2.2.2.2.2.2.2.2.2.2.2.1 f.2.2.2.2.2.2.2.2.2.2.2.2.2.2.2.2.2.2.2.2.1) f.2.2.2.2.2.2.2.2.2.2.2.2.2.2.2.2.2.2.2.2.2.1) (ae.mk f.2.2.2.2.2.2.2.2.2.2.2.2.2.2.2.2.2.2.2.2.2.2.1) f.2.2.2.2.2.2.2.2.2.2.2.2.2.2.2.2.2.2.2.2.2.2.2)).bind fun F=>(l5 F j.1).bind fun G=>if G=true then((kN (av.mk (ah.mk (bi.mk (al.mk (ag.mk f.2.2.1 f.2.2.2.1 f.2.2.2.2.1) (ag.mk f.2.2.2.2.2.1 f.2.2.2.2.2.2.1 f.2.2.2.2.2.2.2.1)) (bg.mk f.2.2.2.2.2.2.2.2.1 f.2.2.2.2.2.2.2.2.2.1 f.2.2.2.2.2.2.2.2.2.2.1) f.2.2.2.2.2.2.2.2.2.2.2.1 f.2.2.2.2.2.2.2.2.2.2.2.2.1 f.2.2.2.2.2.2.2.2.2.2.2.2.2.1 f.2.2.2.2.2.2.2.2.2.2.2.2.2.2.1 f.2.2.2.2.2.2.2.2.2.2.2.2.2.2.2.1) (bS.mk (bg.mk f.2.2.2.2.2.2.2.2.2.2.2.2.2.2.2.2.1 f.2.2.2.2.2.2.2.2.2.2.2.2.2.2.2.2.2.1 f.2.2.2.2.2.2.2.2.2.2.2.2.2.2.2.2.2.2.1) f.2.2.2.2.2.2.2.2.2.2.2.2.2.2.2.2.2.2.2.1 f.2.2.2.2.2.2.2.2.2.2.2.2.2.2.2.2.2.2.2.2.1) f.2.2.2.2.2.2.2.2.2.2.2.2.2.2.2.2.2.2.2.2.2.1) (ae.mk f.2.2.2.2.2.2.2.2.2.2.2.2.2.2.2.2.2.2.2.2.2.2.1) f.2.2.2.2.2.2.2.2.2.2.2.2.2.2.2.2.2.2.2.2.2.2.2)).bind fun H=>(dg H j.2.1).bind fun I=>if I=true then((gV (av.mk (ah.mk (bi.mk (al.mk (ag.mk f.2.2.1 f.2.2.2.1 f.2.2.2.2.1) (ag.mk f.2.2.2.2.2.1 f.2.2.2.2.2.2.1 f.2.2.2.2.2.2.2.1)) (bg.mk f.2.2.2.2.2.2.2.2.1 f.2.2.2.2.2.2.2.2.2.1 f.2.2.2.2.2.2.2.2.2.2.1) f.2.2.2.2.2.2.2.2.2.2.2.1 f.2.2.2.2.2.2.2.2.2.2.2.2.1 f.2.2.2.2.2.2.2.2.2.2.2.2.2.1 f.2.2.2.2.2.2.2.2.2.2.2.2.2.2.1 f.2.2.2.2.2.2.2.2.2.2.2.2.2.2.2.1) (bS.mk (bg.mk f.2.2.2.2.2.2.2.2.2.2.2.2.2.2.2.2.1 f.2.2.2.2.2.2.2.2.2.2.2.2.2.2.2.2.2.1 f.2.2.2.2.2.2.2.2.2.2.2.2.2.2.2.2.2.2.1) f.2.2.2.2.2.2.2.2.2.2.2.2.2.2.2.2.2.2.2.1 f.2.2.2.2.2.2.2.2.2.2.2.2.2.2.2.2.2.2.2.2.1) f.2.2.2.2.2.2.2.2.2.2.2.2.2.2.2.2.2.2.2.2.2.1) (ae.mk f.2.2.2.2.2.2.2.2.2.2.2.2.2.2.2.2.2.2.2.2.2.2.1) f.2.2.2.2.2.2.2.2.2.2.2.2.2.2.2.2.2.2.2.2.2.2.2)).bind fun J=>(pE f.1).bind fun K=>(dg J K).bind fun L=>if L=true then((mc ).bind fun N=>some N)else(some false))else(some false))else(some false))else(some false))else(some false))else(some false))| .inr D=>(some D))
end
end Go.Dw.Re
