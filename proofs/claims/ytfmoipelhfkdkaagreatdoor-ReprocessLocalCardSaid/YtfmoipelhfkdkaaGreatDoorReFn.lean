
import Derived.Test.YtfmoipelhfkdkaaGreatDoorDwHole
import Derived.Test.YtfmoipelhfkdkaaGreatDoorDwSortIP
import Derived.Test.YtfmoipelhfkdkaaGreatDoorDwSort
import Derived.Lib.Join
import Derived.Lib.ItoaNum
open Go.IntKind renaming wrap->FM
open Int renaming toNat->FR

namespace Go.Dw.Re
open Go.Dw
noncomputable section
structure ai where
  fL:(List Int)
  fAt:Int
  deriving DecidableEq
def ai.pd(x:ai):PD:= .agg [.lst (x.fL.map (PD.int .i64)),.int .i64 x.fAt]
structure ag where
  fX:Int
  fY:Int
  fZ:Int
  deriving DecidableEq
def ag.pd(x:ag):PD:= .agg [.int .i64 x.fX,.int .i64 x.fY,.int .i64 x.fZ]
structure al where
  bu:ag
  bd:ag
  deriving DecidableEq
def al.pd(x:al):PD:= .agg [.int .i64 x.bu.fX,.int .i64 x.bu.fY,.int .i64 x.bu.fZ,.int .i64 x.bd.fX,.int .i64 x.bd.fY,.int .i64 x.bd.fZ]
structure bc where
  bR:Int
  bu:(List Int)
  bd:(List Int)
  deriving DecidableEq
def bc.pd(x:bc):PD:= .agg [.int .i64 x.bR,.lst (x.bu.map (PD.int .i64)),.lst (x.bd.map (PD.int .i64))]
structure bh where
  bn:al
  bJ:bc
  dw:Int
  bA:Int
  cw:Int
  dT:Int
  cq:Int
  deriving DecidableEq
def bh.pd(x:bh):PD:= .agg [.int .i64 x.bn.bu.fX,.int .i64 x.bn.bu.fY,.int .i64 x.bn.bu.fZ,.int .i64 x.bn.bd.fX,.int .i64 x.bn.bd.fY,.int .i64 x.bn.bd.fZ,.int .i64 x.bJ.bR,.lst (x.bJ.bu.map (PD.int .i64)),.lst (x.bJ.bd.map (PD.int .i64)),.int .i64 x.dw,.int .i64 x.bA,.int .i64 x.cw,.int .i64 x.dT,.int .i64 x.cq]
structure bP where
  bF:bc
  cf:Int
  bZ:Int
  deriving DecidableEq
def bP.pd(x:bP):PD:= .agg [.int .i64 x.bF.bR,.lst (x.bF.bu.map (PD.int .i64)),.lst (x.bF.bd.map (PD.int .i64)),.int .i64 x.cf,.int .i64 x.bZ]
structure ah where
  ac:bh
  bQ:bP
  bA:Int
  deriving DecidableEq
def ah.pd(x:ah):PD:= .agg [.int .i64 x.ac.bn.bu.fX,.int .i64 x.ac.bn.bu.fY,.int .i64 x.ac.bn.bu.fZ,.int .i64 x.ac.bn.bd.fX,.int .i64 x.ac.bn.bd.fY,.int .i64 x.ac.bn.bd.fZ,.int .i64 x.ac.bJ.bR,.lst (x.ac.bJ.bu.map (PD.int .i64)),.lst (x.ac.bJ.bd.map (PD.int .i64)),.int .i64 x.ac.dw,.int .i64 x.ac.bA,.int .i64 x.ac.cw,.int .i64 x.ac.dT,.int .i64 x.ac.cq,.int .i64 x.bQ.bF.bR,.lst (x.bQ.bF.bu.map (PD.int .i64)),.lst (x.bQ.bF.bd.map (PD.int .i64)),.int .i64 x.bQ.cf,.int .i64 x.bQ.bZ,.int .i64 x.bA]
structure bi where
  bI:(List UInt8)
  bw:(List UInt8)
  ba:(List UInt8)
  bM:(List UInt8)
  deriving DecidableEq
def bi.pd(x:bi):PD:= .agg [.str x.bI,.str x.bw,.str x.ba,.str x.bM]
structure cA where
  cf:Int
  bZ:Int
  deriving DecidableEq
def cA.pd(x:cA):PD:= .agg [.int .i64 x.cf,.int .i64 x.bZ]
structure bO where
  a0:Int
  a1:Int
  a2:Int
  deriving DecidableEq
def bO.pd(x:bO):PD:= .agg [.int .i64 x.a0,.int .i64 x.a1,.int .i64 x.a2]
structure bg where
  kb:Int
  cf:bO
  bZ:bO
  et:(List Int)
  eH:Int
  eW:Int
  deriving DecidableEq
def bg.pd(x:bg):PD:= .agg [.int .i64 x.kb,.int .i64 x.cf.a0,.int .i64 x.cf.a1,.int .i64 x.cf.a2,.int .i64 x.bZ.a0,.int .i64 x.bZ.a1,.int .i64 x.bZ.a2,.lst (x.et.map (PD.int .i64)),.int .i64 x.eH,.int .i64 x.eW]
structure bv where
  cS:(List bg)
  deriving DecidableEq
def bv.pd(x:bv):PD:= .agg [.lst (x.cS.map bg.pd)]
structure az where
  b7:Int
  fTo:Int
  np:cA
  bV:ag
  bW:bv
  deriving DecidableEq
def az.pd(x:az):PD:= .agg [.int .i64 x.b7,.int .i64 x.fTo,.int .i64 x.np.cf,.int .i64 x.np.bZ,.int .i64 x.bV.fX,.int .i64 x.bV.fY,.int .i64 x.bV.fZ,.lst (x.bW.cS.map bg.pd)]
structure aj where
  a7:bi
  cn:(List az)
  deriving DecidableEq
def aj.pd(x:aj):PD:= .agg [.str x.a7.bI,.str x.a7.bw,.str x.a7.ba,.str x.a7.bM,.lst (x.cn.map az.pd)]
structure ae where
  a8:(List aj)
  deriving DecidableEq
def ae.pd(x:ae):PD:= .agg [.lst (x.a8.map aj.pd)]
structure aa where
  a7:bi
  bS:Int
  bt:Int
  cg:Int
  bG:Int
  bU:Int
  deriving DecidableEq
def aa.pd(x:aa):PD:= .agg [.str x.a7.bI,.str x.a7.bw,.str x.a7.ba,.str x.a7.bM,.int .i64 x.bS,.int .i64 x.bt,.int .i64 x.cg,.int .i64 x.bG,.int .i64 x.bU]
structure ap where
  bN:ag
  bS:Int
  b8:Int
  mp:Int
  ch:al
  deriving DecidableEq
def ap.pd(x:ap):PD:= .agg [.int .i64 x.bN.fX,.int .i64 x.bN.fY,.int .i64 x.bN.fZ,.int .i64 x.bS,.int .i64 x.b8,.int .i64 x.mp,.int .i64 x.ch.bu.fX,.int .i64 x.ch.bu.fY,.int .i64 x.ch.bu.fZ,.int .i64 x.ch.bd.fX,.int .i64 x.ch.bd.fY,.int .i64 x.ch.bd.fZ]
structure bo where
  bu:Int
  bd:Int
  deriving DecidableEq
def bo.pd(x:bo):PD:= .agg [.int .i64 x.bu,.int .i64 x.bd]
structure bH where
  ex:(List aa)
  ba:ap
  fd:bo
  qH:Int
  deriving DecidableEq
def bH.pd(x:bH):PD:= .agg [.lst (x.ex.map aa.pd),.int .i64 x.ba.bN.fX,.int .i64 x.ba.bN.fY,.int .i64 x.ba.bN.fZ,.int .i64 x.ba.bS,.int .i64 x.ba.b8,.int .i64 x.ba.mp,.int .i64 x.ba.ch.bu.fX,.int .i64 x.ba.ch.bu.fY,.int .i64 x.ba.ch.bu.fZ,.int .i64 x.ba.ch.bd.fX,.int .i64 x.ba.ch.bd.fY,.int .i64 x.ba.ch.bd.fZ,.int .i64 x.fd.bu,.int .i64 x.fd.bd,.int .i64 x.qH]
structure ar where
  eV:aa
  cV:bH
  deriving DecidableEq
def ar.pd(x:ar):PD:= .agg [.str x.eV.a7.bI,.str x.eV.a7.bw,.str x.eV.a7.ba,.str x.eV.a7.bM,.int .i64 x.eV.bS,.int .i64 x.eV.bt,.int .i64 x.eV.cg,.int .i64 x.eV.bG,.int .i64 x.eV.bU,.lst (x.cV.ex.map aa.pd),.int .i64 x.cV.ba.bN.fX,.int .i64 x.cV.ba.bN.fY,.int .i64 x.cV.ba.bN.fZ,.int .i64 x.cV.ba.bS,.int .i64 x.cV.ba.b8,.int .i64 x.cV.ba.mp,.int .i64 x.cV.ba.ch.bu.fX,.int .i64 x.cV.ba.ch.bu.fY,.int .i64 x.cV.ba.ch.bu.fZ,.int .i64 x.cV.ba.ch.bd.fX,.int .i64 x.cV.ba.ch.bd.fY,.int .i64 x.cV.ba.ch.bd.fZ,.int .i64 x.cV.fd.bu,.int .i64 x.cV.fd.bd,.int .i64 x.cV.qH]
structure bq where
  ex:(List aa)
  gz:(List ar)
  pr:(List aa)
  deriving DecidableEq
def bq.pd(x:bq):PD:= .agg [.lst (x.ex.map aa.pd),.lst (x.gz.map ar.pd),.lst (x.pr.map aa.pd)]
structure av where
  bp:ah
  co:ae
  bL:(List bq)
  deriving DecidableEq
def av.pd(x:av):PD:= .agg [.int .i64 x.bp.ac.bn.bu.fX,.int .i64 x.bp.ac.bn.bu.fY,.int .i64 x.bp.ac.bn.bu.fZ,.int .i64 x.bp.ac.bn.bd.fX,.int .i64 x.bp.ac.bn.bd.fY,.int .i64 x.bp.ac.bn.bd.fZ,.int .i64 x.bp.ac.bJ.bR,.lst (x.bp.ac.bJ.bu.map (PD.int .i64)),.lst (x.bp.ac.bJ.bd.map (PD.int .i64)),.int .i64 x.bp.ac.dw,.int .i64 x.bp.ac.bA,.int .i64 x.bp.ac.cw,.int .i64 x.bp.ac.dT,.int .i64 x.bp.ac.cq,.int .i64 x.bp.bQ.bF.bR,.lst (x.bp.bQ.bF.bu.map (PD.int .i64)),.lst (x.bp.bQ.bF.bd.map (PD.int .i64)),.int .i64 x.bp.bQ.cf,.int .i64 x.bp.bQ.bZ,.int .i64 x.bp.bA,.lst (x.co.a8.map aj.pd),.lst (x.bL.map bq.pd)]
structure aw where
  bw:ag
  bt:Int
  cg:Int
  cz:Int
  deriving DecidableEq
def aw.pd(x:aw):PD:= .agg [.int .i64 x.bw.fX,.int .i64 x.bw.fY,.int .i64 x.bw.fZ,.int .i64 x.bt,.int .i64 x.cg,.int .i64 x.cz]
structure bz where
  b7:Int
  fTo:Int
  deriving DecidableEq
def bz.pd(x:bz):PD:= .agg [.int .i64 x.b7,.int .i64 x.fTo]
structure bB where
  dg:(List Int)
  bN:ag
  bS:Int
  deriving DecidableEq
def bB.pd(x:bB):PD:= .agg [.lst (x.dg.map (PD.int .i64)),.int .i64 x.bN.fX,.int .i64 x.bN.fY,.int .i64 x.bN.fZ,.int .i64 x.bS]
structure cx where
  fnext:(List Int)
  fback:(List Int)
  deriving DecidableEq
def cx.pd(x:cx):PD:= .agg [.lst (x.fnext.map (PD.int .i64)),.lst (x.fback.map (PD.int .i64))]
structure ak where
  bn:al
  bJ:bc
  bK:(List aw)
  dw:Int
  deriving DecidableEq
def ak.pd(x:ak):PD:= .agg [.int .i64 x.bn.bu.fX,.int .i64 x.bn.bu.fY,.int .i64 x.bn.bu.fZ,.int .i64 x.bn.bd.fX,.int .i64 x.bn.bd.fY,.int .i64 x.bn.bd.fZ,.int .i64 x.bJ.bR,.lst (x.bJ.bu.map (PD.int .i64)),.lst (x.bJ.bd.map (PD.int .i64)),.lst (x.bK.map aw.pd),.int .i64 x.dw]
structure aq where
  mN:al
  dx:Int
  mq:Int
  deriving DecidableEq
def aq.pd(x:aq):PD:= .agg [.int .i64 x.mN.bu.fX,.int .i64 x.mN.bu.fY,.int .i64 x.mN.bu.fZ,.int .i64 x.mN.bd.fX,.int .i64 x.mN.bd.fY,.int .i64 x.mN.bd.fZ,.int .i64 x.dx,.int .i64 x.mq]
structure cm where
  fp:ak
  mr:(List aq)
  mq:Int
  ftaken:Int
  ffound:Bool
  cu:ap
  deriving DecidableEq
def cm.pd(x:cm):PD:= .agg [.int .i64 x.fp.bn.bu.fX,.int .i64 x.fp.bn.bu.fY,.int .i64 x.fp.bn.bu.fZ,.int .i64 x.fp.bn.bd.fX,.int .i64 x.fp.bn.bd.fY,.int .i64 x.fp.bn.bd.fZ,.int .i64 x.fp.bJ.bR,.lst (x.fp.bJ.bu.map (PD.int .i64)),.lst (x.fp.bJ.bd.map (PD.int .i64)),.lst (x.fp.bK.map aw.pd),.int .i64 x.fp.dw,.lst (x.mr.map aq.pd),.int .i64 x.mq,.int .i64 x.ftaken,.bool x.ffound,.int .i64 x.cu.bN.fX,.int .i64 x.cu.bN.fY,.int .i64 x.cu.bN.fZ,.int .i64 x.cu.bS,.int .i64 x.cu.b8,.int .i64 x.cu.mp,.int .i64 x.cu.ch.bu.fX,.int .i64 x.cu.ch.bu.fY,.int .i64 x.cu.ch.bu.fZ,.int .i64 x.cu.ch.bd.fX,.int .i64 x.cu.ch.bd.fY,.int .i64 x.cu.ch.bd.fZ]
structure bD where
  gH:(List aa)
  fk:(List aw)
  kc:(List az)
  deriving DecidableEq
def bD.pd(x:bD):PD:= .agg [.lst (x.gH.map aa.pd),.lst (x.fk.map aw.pd),.lst (x.kc.map az.pd)]
structure bC where
  cf:(List Int)
  bZ:(List Int)
  deriving DecidableEq
def bC.pd(x:bC):PD:= .agg [.lst (x.cf.map (PD.int .i64)),.lst (x.bZ.map (PD.int .i64))]
structure ey where
  deriving DecidableEq
def ey.pd(x:ey):PD:= .agg []
structure A4_Int where
  a0:Int
  a1:Int
  a2:Int
  a3:Int
  deriving DecidableEq
def A4_Int.pd(x:A4_Int):PD:= .agg [.int .i64 x.a0,.int .i64 x.a1,.int .i64 x.a2,.int .i64 x.a3]
structure oM where
  a0:Int
  a1:Int
  deriving DecidableEq
def oM.pd(x:oM):PD:= .agg [.int .i64 x.a0,.int .i64 x.a1]
structure qe where
  a0:oM
  a1:oM
  a2:oM
  a3:oM
  a4:oM
  deriving DecidableEq
def qe.pd(x:qe):PD:= .agg [.int .i64 x.a0.a0,.int .i64 x.a0.a1,.int .i64 x.a1.a0,.int .i64 x.a1.a1,.int .i64 x.a2.a0,.int .i64 x.a2.a1,.int .i64 x.a3.a0,.int .i64 x.a3.a1,.int .i64 x.a4.a0,.int .i64 x.a4.a1]
def oD(a b:aa):Bool:=(((a.a7.bI==b.a7.bI)&&((a.a7.bw==b.a7.bw)&&((a.a7.ba==b.a7.ba)&&((a.a7.bM==b.a7.bM)&&true))))&&((a.bS==b.bS)&&((a.bt==b.bt)&&((a.cg==b.cg)&&((a.bG==b.bG)&&((a.bU==b.bU)&&true))))))
def kq(a0:(List Int)):Option (ai):=
  (zo a0 0 (if 2000<(a0.length:Int)then 2000 else(a0.length:Int))).bind fun f=>some (ai.mk f 0)
def Src_Raw(d0:ai):Option (Int×ai):=
  if(decide (d0.fAt>=(d0.fL.length:Int)))=true then(some (0,d0))else((dF d0.fL (FM .i64 ((FM .i64 (d0.fAt+1))-1))).bind fun f=>some (f,(ai.mk d0.fL (FM .i64 (d0.fAt+1)))))
def pH(a0:Int)(a1:Int):Option (Int):=
  if(decide (a1<1))=true then(some 0)else((wP a0 a1).bind fun f=>if(decide (f<0))=true then(some (FM .i64 (f+a1)))else(some f))
def dm(a1:Int)(d0:ai):Option (Int×ai):=
  (Src_Raw d0).bind fun f=>(pH f.1 a1).bind fun g=>some (g,f.2)
def mQ(a1:Int)(d0:ai):Option (ag×ai):=
  (dm (FM .i64 ((FM .i64 (2*a1))+1)) d0).bind fun f=>(dm (FM .i64 ((FM .i64 (2*a1))+1)) f.2).bind fun g=>(dm (FM .i64 (a1+1)) g.2).bind fun j=>some ((ag.mk (FM .i64 (f.1-a1)) (FM .i64 (g.1-a1)) j.1),j.2)
def oP(a1:Int)(a2:Int)(d0:ai):Option (al×ai):=
  (mQ a1 d0).bind fun f=>(dm (FM .i64 (a2+1)) f.2).bind fun g=>(dm (FM .i64 (a2+1)) g.2).bind fun j=>(dm (FM .i64 (a2+1)) j.2).bind fun k=>some ((al.mk f.1 (ag.mk (FM .i64 (f.1.fX+g.1)) (FM .i64 (f.1.fY+j.1)) (FM .i64 (f.1.fZ+k.1)))),k.2)
def ec(a1:(List Int))(d0:ai):Option (Int×ai):=
  (dm (a1.length:Int) d0).bind fun f=>(dF a1 f.1).bind fun g=>some (g,f.2)
def lu(G:Int×ai):(Int×Int×Int×(List Int)×Int×(List Int)×(List Int))->Option (dE (Int×Int×Int×(List Int)×Int×(List Int)×(List Int)) ((List Int)×Int×(List Int)×(List Int))):=fun(q,r,D,H,I,E,F)=>
  (tn .i64 400 G.1).bind fun u=>(dm 3 (ai.mk H I)).bind fun f=>if(decide (D<=(FM .i64 (u+f.1))))=true then((rD E [q] 8).bind fun B=>(rD F [r] 8).bind fun C=>(ec [0,10,20,35] f.2).bind fun g=>(tn .i64 G.1 4).bind fun j=>(ec [0,0,5,30] g.2).bind fun k=>some (.next ((FM .i64 (q+(FM .i64 (g.1+j)))),(FM .i64 ((if(FM .i64 (q+(FM .i64 (g.1+j))))>r then(FM .i64 (q+(FM .i64 (g.1+j))))else r)+k.1)),(FM .i64 (D+1)),k.2.fL,k.2.fAt,B,C)))else(some (.stop (f.2.fL,f.2.fAt,E,F)))
def kR(d0:ai):Option (bc×ai):=
  (ec [20,25,40,100] d0).bind fun g=>(dm 3 g.2).bind fun j=>(cI (lu g) (0,j.1,0,j.2.fL,j.2.fAt,([]:(List Int)),([]:(List Int)))).bind fun f=>some ((bc.mk g.1 f.2.2.1 f.2.2.2),(ai.mk f.1 f.2.1))
def eT(a1:Int)(d0:ai):Option (bh×ai):=
  (oP 20 a1 d0).bind fun f=>(kR f.2).bind fun g=>(ec [10,50,200] g.2).bind fun j=>(ec [0,0,10,40] j.2).bind fun k=>(ec [0,50,200,400] k.2).bind fun q=>(ec [0,5,20] q.2).bind fun r=>(dm 2 r.2).bind fun u=>some ((bh.mk f.1 g.1 j.1 k.1 q.1 r.1 (FM .i64 (2+u.1))),u.2)
def lq(D:bc×ai):(Int×(List Int)×(List Int))->Option (dE (Int×(List Int)×(List Int)) ((List Int)×(List Int))):=fun(f,g,j)=>
  if(decide (f<(D.1.bu.length:Int)))=true then((inO g f).bind fun _=>(dF g f).bind fun k=>(tn .i64 k 3).bind fun q=>(inO j f).bind fun _=>(dF j f).bind fun r=>(tn .i64 r 3).bind fun u=>(inO g f).bind fun _=>(tC g f q).bind fun B=>(inO j f).bind fun _=>(tC j f u).bind fun C=>some (.next ((FM .i64 (f+1)),B,C)))else(some (.stop (g,j)))
def lV(d0:ai):Option (bP×ai):=
  (kR d0).bind fun g=>(dm 20 g.2).bind fun j=>(dm 9 j.2).bind fun k=>(cI (lq g) (0,g.1.bu,g.1.bd)).bind fun f=>some ((bP.mk (bc.mk g.1.bR f.1 f.2) j.1 (FM .i64 (1+k.1))),k.2)
def dL(a1:Int)(d0:ai):Option (ah×ai):=
  (eT a1 d0).bind fun f=>(lV f.2).bind fun g=>(ec [0,0,10,40] g.2).bind fun j=>some ((ah.mk f.1 g.1 j.1),j.2)
def kN:(Int×(List Int)×Int×(List bg))->Option (dE (Int×(List Int)×Int×(List bg)) ((List Int)×Int×(List bg))):=fun(s2,J,K,F)=>
  if(decide (s2>0))=true then((dm 3 (ai.mk J K)).bind fun f=>if(f.1==0)=true then((ec [0,1,9,99,1048575] f.2).bind fun q=>(ec [0,0,2,9,999] q.2).bind fun g=>(rD F [(bg.mk f.1 (bO.mk (FM .i64 (1+q.1)) 0 0) (bO.mk (FM .i64 (1+g.1)) 0 0) [] 0 0)] 96).bind fun G=>some (.next ((FM .i64 (s2-1)),g.2.fL,g.2.fAt,G)))else(if(f.1==1)=true then((dm 5 f.2).bind fun r=>(dm 7 r.2).bind fun u=>(dm 3 u.2).bind fun B=>(dm 5 B.2).bind fun C=>(dm 7 C.2).bind fun D=>(dm 3 D.2).bind fun j=>(rD F [(bg.mk f.1 (bO.mk r.1 (FM .i64 (u.1-3)) (FM .i64 (B.1-1))) (bO.mk (FM .i64 (1+C.1)) D.1 j.1) [] 0 0)] 96).bind fun H=>some (.next ((FM .i64 (s2-1)),j.2.fL,j.2.fAt,H)))else((dm 3 f.2).bind fun E=>(dm 4 E.2).bind fun k=>(rD F [(bg.mk f.1 (bO.mk 0 0 0) (bO.mk 0 0 0) [(FM .i64 (1+E.1)),2,1] 1 k.1)] 96).bind fun I=>some (.next ((FM .i64 (s2-1)),k.2.fL,k.2.fAt,I)))))else(some (.stop (J,K,F)))
def gP(d0:ai):Option (bv×ai):=
  (dm 4 d0).bind fun g=>(cI (kN) (g.1,g.2.fL,g.2.fAt,([]:(List bg)))).bind fun f=>some ((bv.mk f.2.2),(ai.mk f.1 f.2.1))
def ge(a0:Int):Option (bi):=
  (pH a0 6).bind fun f=>(dF [[83,49],[83,50],[83,51],[83,52],[83,53],[83,54]] f).bind fun g=>some (bi.mk [65,66] g [48,48] [66,72,90])
def lr(a1:Int):(Int×(List Int)×Int×(List aj))->Option (dE (Int×(List Int)×Int×(List aj)) ((List Int)×Int×(List aj))):=fun(s1,s2,E,C)=>
  if(decide (s1<a1))=true then(if(decide (s1<6))=true then((mQ 60 (ai.mk s2 E)).bind fun f=>(gP f.2).bind fun g=>(ge s1).bind fun q=>(dm 6 g.2).bind fun j=>if(j.1==0)=true then((dm 500 j.2).bind fun r=>(mQ 60 r.2).bind fun D=>(gP D.2).bind fun u=>(inO [(az.mk 0 100000 (cA.mk 100 1) f.1 g.1)] 0).bind fun _=>(xx [(az.mk 0 100000 (cA.mk 100 1) f.1 g.1)] 0 (fun(z22:az)=>(az.mk z22.b7 (FM .i64 (1500+r.1)) z22.np z22.bV z22.bW))).bind fun F=>(rD F [(az.mk (FM .i64 (1500+r.1)) 100000 (cA.mk 100 1) D.1 u.1)] 80).bind fun G=>(rD C [(aj.mk q G)] 88).bind fun H=>some (.next ((FM .i64 (s1+1)),u.2.fL,u.2.fAt,H)))else(if(j.1==1)=true then((dm 1500 j.2).bind fun B=>(inO [(az.mk 0 100000 (cA.mk 100 1) f.1 g.1)] 0).bind fun _=>(xx [(az.mk 0 100000 (cA.mk 100 1) f.1 g.1)] 0 (fun(k:az)=>(az.mk B.1 k.fTo k.np k.bV k.bW))).bind fun I=>(rD C [(aj.mk q I)] 88).bind fun J=>some (.next ((FM .i64 (s1+1)),B.2.fL,B.2.fAt,J)))else((rD C [(aj.mk q [(az.mk 0 100000 (cA.mk 100 1) f.1 g.1)])] 88).bind fun K=>some (.next ((FM .i64 (s1+1)),j.2.fL,j.2.fAt,K)))))else(some (.stop (s2,E,C))))else(some (.stop (s2,E,C)))
def gK(a1:Int)(d0:ai):Option (ae×ai):=
  (cI (lr a1) (0,d0.fL,d0.fAt,([]:(List aj)))).bind fun f=>some ((ae.mk f.2.2),(ai.mk f.1 f.2.1))
def nN(a1:Int)(a2:Int)(d0:ai):Option (Int×ai):=
  (dm (FM .i64 ((FM .i64 (a2-a1))+1)) d0).bind fun f=>some ((FM .i64 (a1+f.1)),f.2)
def oA(a1:al)(d0:ai):Option (ag×ai):=
  (nN a1.bu.fX a1.bd.fX d0).bind fun f=>(nN a1.bu.fY a1.bd.fY f.2).bind fun g=>(nN a1.bu.fZ a1.bd.fZ g.2).bind fun j=>some ((ag.mk f.1 g.1 j.1),j.2)
def nV(f:aj)(a1:bi)(a2:Int)(s1:Int):Int->Option (dE (Int) ((Int)⊕(ag×Bool))):=fun g=>
  if(decide (g<(f.cn.length:Int)))=true then((dF f.cn g).bind fun j=>if((f.a7.bI==a1.bI)&&((f.a7.bw==a1.bw)&&((f.a7.ba==a1.ba)&&((f.a7.bM==a1.bM)&&true))))=true then(if(decide (j.b7<=a2))=true then(if(decide (a2<j.fTo))=true then(some (.stop (.inr (j.bV,true))))else(some (.next (FM .i64 (g+1)))))else(some (.next (FM .i64 (g+1)))))else(some (.next (FM .i64 (g+1)))))else(some (.stop (.inl s1)))
def nW(a0:ae)(a1:bi)(a2:Int):Int->Option (dE (Int) ((Unit)⊕(ag×Bool))):=fun s1=>
  if(decide (s1<(a0.a8.length:Int)))=true then((dF a0.a8 s1).bind fun k=>(cI (nV k a1 a2 s1) 0).bind fun f=>match f with| .inl j=>(some (.next (FM .i64 (j+1))))| .inr g=>(some (.stop (.inr g))))else(some (.stop (.inl ())))
def oX(a0:ae)(a1:bi)(a2:Int):Option (ag×Bool):=
  (cI (nW a0 a1 a2) 0).bind fun f=>match f with| .inl _=>(some ((ag.mk 0 0 0),false))| .inr g=>(some g)
def qj(a0:Int):Option (Int):=
  some (FM .i64 (a0*a0))
def jH(F:bi)(G:Int×ai)(H:Int×ai)(k:Int)(q:Int)(r:(List Int))(u:Int)(B:(List aa))(C:Int)(D:Int)(E:Int)(f:Int):Option (dE (Int×Int×(List Int)×Int×(List aa)×Int×Int×Int) ((List aa)×(List Int)×Int)):=
  (dm 5 (ai.mk r u)).bind fun g=>(dm 5 g.2).bind fun j=>(rD B [(aa.mk F (FM .i64 (f+g.1)) f (FM .i64 ((FM .i64 (f+g.1))+j.1)) G.1 (FM .i64 (H.1-1)))] 104).bind fun I=>some (.next (k,(FM .i64 (q-1)),j.2.fL,j.2.fAt,I,C,D,E))
def m8(g:ag×Bool)(B:Int)(j:Int)(k:Int)(C:Int)(D:Int)(E:(List aa)):Int->Option (dE (Int) (Int×Int×Int×(List aa)×Int×Int×Int)):=fun f=>
  (qj (FM .i64 (g.1.fX-B))).bind fun q=>(qj (FM .i64 (g.1.fY-j))).bind fun r=>(qj (FM .i64 (g.1.fZ-k))).bind fun u=>if(decide ((FM .i64 (f*f))<(FM .i64 ((FM .i64 (q+r))+u))))=true then(some (.next (FM .i64 (f+1))))else(some (.stop (C,D,f,E,B,j,k)))
def oo(a1:ah)(a2:ae):(Int×Int×(List Int)×Int×(List aa)×Int×Int×Int)->Option (dE (Int×Int×(List Int)×Int×(List aa)×Int×Int×Int) ((List aa)×(List Int)×Int)):=fun(F,G,O,Q,H,L,B,C)=>
  if(decide (G>0))=true then((dm 6 (ai.mk O Q)).bind fun I=>(ge I.1).bind fun j=>(ec [0,1,50,1000,1048576] I.2).bind fun k=>(dm 3 k.2).bind fun q=>(dm 2000 q.2).bind fun r=>(dm 6 r.2).bind fun g=>if(g.1==0)=true then((oA a1.ac.bn g.2).bind fun u=>(dm 900 u.2).bind fun D=>jH j k q (FM .i64 (F+D.1)) G D.2.fL D.2.fAt H u.1.fX u.1.fY u.1.fZ (FM .i64 (1000+r.1)))else(if(g.1==1)=true then(jH j k q F G g.2.fL g.2.fAt H L B C (FM .i64 (1000+r.1)))else((oX a2 j F).bind fun J=>if J.2=true then((cI (m8 J L B C F G H) 0).bind fun f=>(tn .i64 f.2.2.1 a1.ac.bJ.bR).bind fun K=>(dF a1.ac.bJ.bu (if(FM .i64 ((a1.ac.bJ.bu.length:Int)-1))<K then(FM .i64 ((a1.ac.bJ.bu.length:Int)-1))else K)).bind fun N=>(dm 6 g.2).bind fun E=>jH j k q f.1 f.2.1 E.2.fL E.2.fAt f.2.2.2.1 f.2.2.2.2.1 f.2.2.2.2.2.1 f.2.2.2.2.2.2 (FM .i64 ((FM .i64 (f.1+N))+E.1)))else(jH j k q F G g.2.fL g.2.fAt H L B C (FM .i64 (1000+r.1))))))else(some (.stop (H,O,Q)))
def kM(a1:ah)(a2:ae)(a3:Int)(d0:ai):Option ((List aa)×ai):=
  (oA a1.ac.bn d0).bind fun g=>(dm 500 g.2).bind fun k=>(dm (FM .i64 (a3+1)) k.2).bind fun j=>(cI (oo a1 a2) ((FM .i64 (1000+k.1)),j.1,j.2.fL,j.2.fAt,([]:(List aa)),g.1.fX,g.1.fY,g.1.fZ)).bind fun f=>some (f.1,(ai.mk f.2.1 f.2.2))
def bY(a0:ag):Option (bO):=
  some (bO.mk a0.fX a0.fY a0.fZ)
def ed(a0:ag):Option (Bool):=
  (bY a0).bind fun f=>if(decide (f.a0<(-1048576)))=true then(some false)else(if(decide (f.a0>1048576))=true then(some false)else(if(decide (f.a1<(-1048576)))=true then(some false)else(if(decide (f.a1>1048576))=true then(some false)else(if(decide (f.a2<(-16384)))=true then(some false)else(if(decide (f.a2>1048576))=true then(some false)else(some true))))))
def cp(a0:al):Option (Bool):=
  (ed a0.bu).bind fun j=>if(!j)=true then(some false)else((ed a0.bd).bind fun k=>if(!k)=true then(some false)else((bY a0.bd).bind fun f=>(bY a0.bu).bind fun g=>if(decide (g.a0>f.a0))=true then(some false)else(if(decide (g.a1>f.a1))=true then(some false)else(if(decide (g.a2>f.a2))=true then(some false)else(some true)))))
def lm(a0:bc):(Int×Int×Int)->Option (dE (Int×Int×Int) ((Unit)⊕(Int))):=fun(C,D,f)=>
  if(decide (f<(a0.bu.length:Int)))=true then((dF a0.bu f).bind fun g=>if(decide (g<C))=true then(some (.stop (.inr 21)))else((dF a0.bd f).bind fun j=>if(decide (j<D))=true then(some (.stop (.inr 21)))else((dF a0.bu f).bind fun k=>(dF a0.bd f).bind fun q=>if(decide (k>q))=true then(some (.stop (.inr 21)))else((dF a0.bd f).bind fun r=>if(decide (r>1099511627776))=true then(some (.stop (.inr 21)))else((dF a0.bu f).bind fun u=>(dF a0.bd f).bind fun B=>some (.next (u,B,(FM .i64 (f+1)))))))))else(some (.stop (.inl ())))
def ei(a0:bc):Option (Int):=
  if(decide (a0.bR<1))=true then(some 21)else(if(decide (a0.bR>1048576))=true then(some 21)else(if((a0.bu.length:Int) != (a0.bd.length:Int))=true then(some 21)else(if(decide ((a0.bu.length:Int)<2))=true then(some 21)else(if(decide ((a0.bu.length:Int)>256))=true then(some 21)else((cI (lm a0) (0,0,0)).bind fun f=>match f with| .inl _=>(some 0)| .inr g=>(some g))))))
def fj(a0:Int)(a1:Int)(a2:Int):Option (Bool):=
  if(decide (a0>=a1))=true then(some (decide (a0<=a2)))else(some false)
def gg(a0:aw):Option (Bool):=
  (ed a0.bw).bind fun f=>if f=true then(if(decide (a0.bt>=0))=true then(if(decide (a0.bt<=a0.cg))=true then(if(decide (a0.cg<=18014398509481984))=true then(if(decide (a0.cz>=1))=true then(some (decide (a0.cz<=100)))else(some false))else(some false))else(some false))else(some false))else(some false)
def gj(a0:Int)(a1:Int)(a2:Int):Option (Int):=
  some (if 0>(if(FM .i64 (a0-a2))>(FM .i64 (a1-a0))then(FM .i64 (a0-a2))else(FM .i64 (a1-a0)))then 0 else(if(FM .i64 (a0-a2))>(FM .i64 (a1-a0))then(FM .i64 (a0-a2))else(FM .i64 (a1-a0))))
def jk(a0:al)(a1:ag):Option (Int):=
  (cp a0).bind fun u=>if(!u)=true then(some 0)else((ed a1).bind fun B=>if(!B)=true then(some 0)else((bY a0.bu).bind fun g=>(bY a0.bd).bind fun j=>(bY a1).bind fun k=>(gj k.a0 g.a0 j.a0).bind fun q=>(gj k.a1 g.a1 j.a1).bind fun r=>(gj k.a2 g.a2 j.a2).bind fun f=>some (FM .i64 ((FM .i64 ((FM .i64 (0+(FM .i64 (q*q))))+(FM .i64 (r*r))))+(FM .i64 (f*f))))))
def gc(a0:al)(a1:ag):Option (Int):=
  (jk a0 a1).bind fun f=>some f
def fJ(a0:Int)(a1:Int)(a2:Int):Option (Int):=
  some (if(FM .i64 (a0-a1))>(FM .i64 (a2-a0))then(FM .i64 (a0-a1))else(FM .i64 (a2-a0)))
def iI(a0:al)(a1:ag):Option (Int):=
  (cp a0).bind fun u=>if(!u)=true then(some 0)else((ed a1).bind fun B=>if(!B)=true then(some 0)else((bY a0.bu).bind fun g=>(bY a0.bd).bind fun j=>(bY a1).bind fun k=>(fJ k.a0 g.a0 j.a0).bind fun q=>(fJ k.a1 g.a1 j.a1).bind fun r=>(fJ k.a2 g.a2 j.a2).bind fun f=>some (FM .i64 ((FM .i64 ((FM .i64 (0+(FM .i64 (q*q))))+(FM .i64 (r*r))))+(FM .i64 (f*f))))))
def ji(a0:al)(a1:ag):Option (Int):=
  (iI a0 a1).bind fun f=>some f
def m9(a0:bc)(a1:al)(a2:ag):Option (bc×Int×Int):=
  (gc a1 a2).bind fun f=>(ji a1 a2).bind fun g=>some (a0,f,g)
def lv(f:Int)(g:Int):Option (Int):=
  if(decide (f>=256))=true then((wJ [0,1,2,2,3,3,3,3,4,4,4,4,4,4,4,4,5,5,5,5,5,5,5,5,5,5,5,5,5,5,5,5,6,6,6,6,6,6,6,6,6,6,6,6,6,6,6,6,6,6,6,6,6,6,6,6,6,6,6,6,6,6,6,6,7,7,7,7,7,7,7,7,7,7,7,7,7,7,7,7,7,7,7,7,7,7,7,7,7,7,7,7,7,7,7,7,7,7,7,7,7,7,7,7,7,7,7,7,7,7,7,7,7,7,7,7,7,7,7,7,7,7,7,7,7,7,7,7,8,8,8,8,8,8,8,8,8,8,8,8,8,8,8,8,8,8,8,8,8,8,8,8,8,8,8,8,8,8,8,8,8,8,8,8,8,8,8,8,8,8,8,8,8,8,8,8,8,8,8,8,8,8,8,8,8,8,8,8,8,8,8,8,8,8,8,8,8,8,8,8,8,8,8,8,8,8,8,8,8,8,8,8,8,8,8,8,8,8,8,8,8,8,8,8,8,8,8,8,8,8,8,8,8,8,8,8,8,8,8,8,8,8,8,8,8,8,8,8,8,8,8,8,8,8,8,8] (FM .u8 (sb .u64 f 8))).bind fun j=>some (FM .i64 ((FM .i64 (g+8))+(FM .i64 j))))else((wJ [0,1,2,2,3,3,3,3,4,4,4,4,4,4,4,4,5,5,5,5,5,5,5,5,5,5,5,5,5,5,5,5,6,6,6,6,6,6,6,6,6,6,6,6,6,6,6,6,6,6,6,6,6,6,6,6,6,6,6,6,6,6,6,6,7,7,7,7,7,7,7,7,7,7,7,7,7,7,7,7,7,7,7,7,7,7,7,7,7,7,7,7,7,7,7,7,7,7,7,7,7,7,7,7,7,7,7,7,7,7,7,7,7,7,7,7,7,7,7,7,7,7,7,7,7,7,7,7,8,8,8,8,8,8,8,8,8,8,8,8,8,8,8,8,8,8,8,8,8,8,8,8,8,8,8,8,8,8,8,8,8,8,8,8,8,8,8,8,8,8,8,8,8,8,8,8,8,8,8,8,8,8,8,8,8,8,8,8,8,8,8,8,8,8,8,8,8,8,8,8,8,8,8,8,8,8,8,8,8,8,8,8,8,8,8,8,8,8,8,8,8,8,8,8,8,8,8,8,8,8,8,8,8,8,8,8,8,8,8,8,8,8,8,8,8,8,8,8,8,8,8,8,8,8,8,8] (FM .u8 f)).bind fun k=>some (FM .i64 (g+(FM .i64 k))))
def kf(f:Int)(g:Int):Option (Int):=
  if(decide (f>=65536))=true then(lv (sb .u64 f 16) (FM .i64 (g+16)))else(lv f g)
def nS(a0:Int):Option (Int):=
  if(decide (a0>=4294967296))=true then(kf (sb .u64 a0 32) 32)else(kf a0 0)
def gR(a0:Int):Option (Int):=
  (nS a0).bind fun f=>some f
def jj(a0:Int):(Int×Int)->Option (dE (Int×Int) (Int)):=fun(g,f)=>
  if(decide (f>0))=true then((tn .i64 a0 (orI .i64 g f)).bind fun j=>if(decide ((orI .i64 g f)<=j))=true then(some (.next ((orI .i64 g f),(sb .i64 f 1))))else(some (.next (g,(sb .i64 f 1)))))else(some (.stop g))
def ko(a0:Int):Option (Int):=
  if(decide (a0<=0))=true then(some 0)else((gR (FM .u64 a0)).bind fun g=>(tn .i64 (FM .i64 (g-1)) 2).bind fun j=>(ym .i64 1 j).bind fun k=>(cI (jj a0) (0,k)).bind fun f=>some f)
def na(a0:Int):Option (Int):=
  (ko a0).bind fun f=>if(decide ((FM .i64 (f*f))<a0))=true then(some (FM .i64 (f+1)))else(some f)
def nL(a0:bc):Option (Int):=
  some (FM .i64 (a0.bR*(FM .i64 ((a0.bu.length:Int)-1))))
def iE(a0:Int)(d0:bc)(d1:Int):Option (Bool):=
  some (decide ((FM .i64 (a0*d0.bR))>=d1))
def iD(d0:bc)(d1:Int):(Int×Int)->Option (dE (Int×Int) (Int)):=fun(s1,s2)=>
  if(decide (s1<s2))=true then((iE (FM .i64 (sb .u64 (FM .u64 (FM .i64 (s1+s2))) 1)) d0 d1).bind fun f=>if(!f)=true then(some (.next ((FM .i64 ((FM .i64 (sb .u64 (FM .u64 (FM .i64 (s1+s2))) 1))+1)),s2)))else(some (.next (s1,(FM .i64 (sb .u64 (FM .u64 (FM .i64 (s1+s2))) 1))))))else(some (.stop s1))
def gm(a0:Int)(d0:bc)(d1:Int):Option (Int):=
  (cI (iD d0 d1) (0,a0)).bind fun f=>some f
def dh(a0:bc)(a1:Int)(a2:Int):Option (Int×Int×Int):=
  (ei a0).bind fun q=>if(q != 0)=true then(some (0,0,21))else(if(decide (a1<0))=true then(some (0,0,2))else(if(decide (a1>a2))=true then(some (0,0,2))else((na a2).bind fun k=>(nL a0).bind fun r=>if(decide (k>r))=true then(some (0,0,22))else((gm (a0.bd.length:Int) a0 k).bind fun u=>(ko a1).bind fun B=>(tn .i64 B a0.bR).bind fun f=>(dF a0.bu f).bind fun g=>(dF a0.bd u).bind fun j=>some (g,j,0)))))
def mh(a0:bc)(a1:al)(a2:ag):Option (Int×Int×Int):=
  (ei a0).bind fun j=>if(j != 0)=true then(some (0,0,j))else((cp a1).bind fun k=>if(!k)=true then(some (0,0,20))else((ed a2).bind fun q=>if(!q)=true then(some (0,0,20))else((m9 a0 a1 a2).bind fun f=>(dh f.1 f.2.1 f.2.2).bind fun g=>some (g.1,g.2.1,g.2.2))))
def eD(a0:bc)(a1:al)(a2:aw):Option (bz×Int):=
  (ei a0).bind fun g=>if(g != 0)=true then(some ((bz.mk 0 0),g))else((cp a1).bind fun j=>if(!j)=true then(some ((bz.mk 0 0),20))else((gg a2).bind fun k=>if(!k)=true then(some ((bz.mk 0 0),23))else((mh a0 a1 a2.bw).bind fun f=>if(f.2.2 != 0)=true then(some ((bz.mk 0 0),f.2.2))else(some ((bz.mk (FM .i64 (a2.bt-f.2.1)) (FM .i64 (a2.cg-f.1))),0)))))
def dl(a1:(List aw))(a0:bh):Int->Option (dE (Int) ((Unit)⊕(Int))):=fun f=>
  if(decide (f<(a1.length:Int)))=true then((dF a1 f).bind fun j=>(eD a0.bJ a0.bn j).bind fun g=>if(g.2 != 0)=true then(some (.stop (.inr g.2)))else(some (.next (FM .i64 (f+1)))))else(some (.stop (.inl ())))
def ej(a0:bh)(a1:(List aw)):Option (Int):=
  (cp a0.bn).bind fun q=>if(!q)=true then(some 27)else((ei a0.bJ).bind fun r=>if(r != 0)=true then(some 27)else((fj a0.dw 1 1099511627776).bind fun u=>if(!u)=true then(some 27)else((fj a0.bA 0 1099511627776).bind fun B=>if(!B)=true then(some 27)else((fj a0.dT 0 1099511627776).bind fun C=>if(!C)=true then(some 27)else((fj a0.cw 0 1099511627776).bind fun j=>if(!j)=true then(some 27)else((fj a0.cq 2 16).bind fun k=>if(!k)=true then(some 27)else(if(decide ((a1.length:Int)>256))=true then(some 8)else((cI (dl a1 a0) 0).bind fun f=>match f with| .inl _=>(some 0)| .inr g=>(some g)))))))))
def dG(a0:bP):Option (Bool):=
  (ei a0.bF).bind fun f=>if(f==0)=true then(if(decide (a0.cf>=0))=true then(if(decide (a0.cf<=65536))=true then(if(decide (a0.bZ>=1))=true then(some (decide (a0.bZ<=65536)))else(some false))else(some false))else(some false))else(some false)
def eJ(a0:ah):Option (Int):=
  (ej a0.ac []).bind fun f=>if(f != 0)=true then(some 27)else((dG a0.bQ).bind fun g=>if(!g)=true then(some 27)else(if(decide (a0.bA<0))=true then(some 27)else(if(decide (a0.bA>1099511627776))=true then(some 27)else(some 0))))
def nK(a0:Int):Option (Bool):=
  if(decide (a0>=65))=true then(if(decide (a0<=90))=true then(some true)else(if(decide (a0>=48))=true then(some (decide (a0<=57)))else(some false)))else(if(decide (a0>=48))=true then(some (decide (a0<=57)))else(some false))
def kL(a0:(List UInt8)):Int->Option (dE (Int) ((Unit)⊕(Bool))):=fun s1=>
  if(decide (s1<(a0.length:Int)))=true then((wJ a0 s1).bind fun f=>(nK f).bind fun g=>if(!g)=true then(some (.stop (.inr false)))else(some (.next (FM .i64 (s1+1)))))else(some (.stop (.inl ())))
def kK(a0:(List UInt8))(a1:Int)(a2:Int):Option (Bool):=
  (cI (kL a0) 0).bind fun g=>match g with| .inl _=>(if(decide ((a0.length:Int)>=a1))=true then(some (decide ((a0.length:Int)<=a2)))else(some false))| .inr f=>(some f)
def mJ(a0:bi):Option (Bool):=
  (kK a0.bI 1 2).bind fun f=>if f=true then((kK a0.bw 1 5).bind fun g=>if g=true then((kK a0.ba 0 2).bind fun j=>if j=true then(if((a0.ba.length:Int) != 1)=true then((kK a0.bM 3 3).bind fun k=>some k)else(some false))else(some false))else(some false))else(some false)
def rate_in(a0:Int)(a1:Int)(a2:Int):Option (Bool):=
  if(decide (a0>=a1))=true then(some (decide (a0<=a2)))else(some false)
def rate_gcd_l7:(Int×Int)->Option (dE (Int×Int) (Int)):=fun(s1,s2)=>
  if(s2 != 0)=true then((wP s1 s2).bind fun f=>some (.next (s2,f)))else(some (.stop s1))
def rate_gcd(a0:Int)(a1:Int):Option (Int):=
  (cI (rate_gcd_l7) (a0,a1)).bind fun f=>some f
def o0(a0:cA):Option (Bool):=
  (rate_in a0.cf 1 4096).bind fun f=>if f=true then((rate_in a0.bZ 1 4096).bind fun g=>if g=true then((rate_gcd a0.cf a0.bZ).bind fun j=>some (j==1))else(some false))else(some false)
def cQ(a0:Int)(a1:Int)(a2:Int):Option (Bool):=
  if(decide (a0>=a1))=true then(some (decide (a0<=a2)))else(some false)
def lj(a0:Int):Option (Bool):=
  (cQ a0 (-1048576) 1048576).bind fun f=>some (!f)
def eh(a0:(List Int)):Int->Option (dE (Int) ((Unit)⊕(Int))):=fun s1=>
  if(decide (s1<(a0.length:Int)))=true then((dF a0 s1).bind fun f=>(lj f).bind fun g=>if g=true then(some (.stop (.inr s1)))else(some (.next (FM .i64 (s1+1)))))else(some (.stop (.inl ())))
def gJ(a0:(List Int)):Option (Int):=
  (cI (eh a0) 0).bind fun g=>match g with| .inl _=>(some (-1))| .inr f=>(some f)
def fO(a0:(List Int)):Option (Bool):=
  (gJ a0).bind fun f=>some (decide (f>=0))
def dI(a0:(List Int)):Option (Bool):=
  (fO a0).bind fun f=>some (!f)
def ny(a0:(List Int)):(Int×Int)->Option (dE (Int×Int) (Int)):=fun(s1,s2)=>
  if(decide (s2<(a0.length:Int)))=true then((dF a0 s2).bind fun f=>some (.next ((FM .i64 (s1+f)),(FM .i64 (s2+1)))))else(some (.stop s1))
def fW(a0:(List Int)):Option (Int):=
  (cI (ny a0) (0,0)).bind fun f=>some f
def dU(a0:bg):Option (Bool):=
  if((a0.et.length:Int)==0)=true then(if(a0.eH==0)=true then(if(a0.kb==0)=true then(if(a0.eW==0)=true then(if((a0.cf.a0==a0.cf.a0)&&((a0.cf.a1==0)&&((a0.cf.a2==0)&&true)))=true then(if((a0.bZ.a0==a0.bZ.a0)&&((a0.bZ.a1==0)&&((a0.bZ.a2==0)&&true)))=true then((cQ a0.cf.a0 1 1048576).bind fun L=>if L=true then((cQ a0.bZ.a0 1 1048576).bind fun N=>some N)else(some false))else(some false))else(some false))else(some false))else(if(a0.kb==1)=true then(if(a0.eW==0)=true then((dI [a0.cf.a0,a0.cf.a1,a0.cf.a2]).bind fun f=>if f=true then((dI [a0.bZ.a0,a0.bZ.a1,a0.bZ.a2]).bind fun g=>if g=true then(some (a0.bZ.a0 != 0))else(some false))else(some false))else(some false))else(if(a0.kb==2)=true then(if((a0.cf.a0==0)&&((a0.cf.a1==0)&&((a0.cf.a2==0)&&true)))=true then(if((a0.bZ.a0==0)&&((a0.bZ.a1==0)&&((a0.bZ.a2==0)&&true)))=true then((cQ (a0.et.length:Int) 1 128).bind fun j=>if j=true then((dI a0.et).bind fun k=>if k=true then((fW a0.et).bind fun q=>if(q != 0)=true then((cQ a0.eH 1 64).bind fun r=>if r=true then((cQ a0.eW 0 40).bind fun u=>some u)else(some false))else(some false))else(some false))else(some false))else(some false))else(some false))else(some false))))else(if(a0.kb==0)=true then(some false)else(if(a0.kb==1)=true then(some false)else(if(a0.kb==2)=true then(if((a0.cf.a0==0)&&((a0.cf.a1==0)&&((a0.cf.a2==0)&&true)))=true then(if((a0.bZ.a0==0)&&((a0.bZ.a1==0)&&((a0.bZ.a2==0)&&true)))=true then((cQ (a0.et.length:Int) 1 128).bind fun B=>if B=true then((dI a0.et).bind fun C=>if C=true then((fW a0.et).bind fun D=>if(D != 0)=true then((cQ a0.eH 1 64).bind fun E=>if E=true then((cQ a0.eW 0 40).bind fun F=>some F)else(some false))else(some false))else(some false))else(some false))else(some false))else(some false))else(some false)))))else(if(a0.kb==0)=true then(some false)else(if(a0.kb==1)=true then(some false)else(if(a0.kb==2)=true then(if((a0.cf.a0==0)&&((a0.cf.a1==0)&&((a0.cf.a2==0)&&true)))=true then(if((a0.bZ.a0==0)&&((a0.bZ.a1==0)&&((a0.bZ.a2==0)&&true)))=true then((cQ (a0.et.length:Int) 1 128).bind fun G=>if G=true then((dI a0.et).bind fun H=>if H=true then((fW a0.et).bind fun I=>if(I != 0)=true then((cQ a0.eH 1 64).bind fun J=>if J=true then((cQ a0.eW 0 40).bind fun K=>some K)else(some false))else(some false))else(some false))else(some false))else(some false))else(some false))else(some false))))
def lg(a0:bg):Option (Bool):=
  (dU a0).bind fun f=>some (!f)
def dP(a0:(List bg)):Int->Option (dE (Int) ((Unit)⊕(Int))):=fun s1=>
  if(decide (s1<(a0.length:Int)))=true then((dF a0 s1).bind fun f=>(lg f).bind fun g=>if g=true then(some (.stop (.inr s1)))else(some (.next (FM .i64 (s1+1)))))else(some (.stop (.inl ())))
def f9(a0:(List bg)):Option (Int):=
  (cI (dP a0) 0).bind fun g=>match g with| .inl _=>(some (-1))| .inr f=>(some f)
def dO(a0:(List bg)):Option (Bool):=
  (f9 a0).bind fun f=>some (decide (f>=0))
def jv(a0:(List bg)):(Int×Int)->Option (dE (Int×Int) ((Int)⊕(Int))):=fun(s1,s2)=>
  if(decide (s2<(a0.length:Int)))=true then((dF a0 s2).bind fun f=>if(f.kb != 2)=true then(some (.next (s1,(FM .i64 (s2+1)))))else(if(decide ((FM .i64 (s1*f.eH))>64))=true then(some (.stop (.inr 0)))else(some (.next ((FM .i64 (s1*f.eH)),(FM .i64 (s2+1)))))))else(some (.stop (.inl s1)))
def lM(a0:(List bg)):Option (Int):=
  (cI (jv a0) (1,0)).bind fun f=>match f with| .inl j=>(some j)| .inr g=>(some g)
def kG(a0:bv):Option (Bool):=
  if(decide ((a0.cS.length:Int)>8))=true then(some false)else((dO a0.cS).bind fun f=>if f=true then(some false)else((lM a0.cS).bind fun g=>some (decide (g>0))))
def hC(a0:Int)(a1:Int)(a2:Int):Option (Bool):=
  if(decide (a0>=a1))=true then(some (decide (a0<=a2)))else(some false)
def gW(a0:az):Option (Bool):=
  if(decide (a0.b7>=0))=true then(if(decide (a0.b7<a0.fTo))=true then(if(decide (a0.fTo<=9007199254740992))=true then((o0 a0.np).bind fun j=>if j=true then((kG a0.bW).bind fun k=>if k=true then((hC a0.bV.fX (-1048576) 1048576).bind fun q=>if q=true then((hC a0.bV.fY (-1048576) 1048576).bind fun f=>if f=true then((hC a0.bV.fZ (-16384) 1048576).bind fun g=>some g)else(some false))else(some false))else(some false))else(some false))else(some false))else(some false))else(some false)
def gZ(a0:(List az)):Int->Option (dE (Int) ((Unit)⊕(Bool))):=fun s1=>
  if(decide (s1<(a0.length:Int)))=true then((dF a0 s1).bind fun f=>(gW f).bind fun g=>if(!g)=true then(some (.stop (.inr false)))else(if(decide (s1>0))=true then((dF a0 (FM .i64 (s1-1))).bind fun j=>if(decide (f.b7<j.fTo))=true then(some (.stop (.inr false)))else(some (.next (FM .i64 (s1+1)))))else(some (.next (FM .i64 (s1+1))))))else(some (.stop (.inl ())))
def kX(a0:(List az)):Option (Bool):=
  (cI (gZ a0) 0).bind fun f=>match f with| .inl _=>((hC (a0.length:Int) 1 32).bind fun j=>some j)| .inr g=>(some g)
def iF(a0:(List UInt8)):Option (Bool):=
  some (!(a0==a0))
def dz(a0:(List UInt8))(a1:(List UInt8)):Option (Int):=
  (iF a0).bind fun g=>(iF a1).bind fun f=>if g=true then(if f=true then(some 0)else(some (-1)))else(if f=true then(some 1)else(if(Op.bytesLess a0 a1)=true then(some (-1))else(if(!(Op.bytesLess a0 a1||a0==a1))=true then(some 1)else(some 0))))
def eB(a0:(List Int)):Int->Option (dE (Int) ((Unit)⊕(Int))):=fun s1=>
  if(decide (s1<(a0.length:Int)))=true then((dF a0 s1).bind fun f=>if(f != 0)=true then(some (.stop (.inr f)))else(some (.next (FM .i64 (s1+1)))))else(some (.stop (.inl ())))
def dC(a0:(List Int)):Option (Int):=
  (cI (eB a0) 0).bind fun f=>match f with| .inl _=>(some 0)| .inr g=>(some g)
def jc(a0:bi)(a1:bi):Option (Int):=
  (dz a0.bI a1.bI).bind fun f=>(dz a0.bw a1.bw).bind fun g=>(dz a0.ba a1.ba).bind fun j=>(dz a0.bM a1.bM).bind fun k=>(dC [f,g,j,k]).bind fun q=>some q
def iy(a0:ae):Int->Option (dE (Int) ((Unit)⊕(Bool))):=fun s1=>
  if(decide (s1<(a0.a8.length:Int)))=true then((dF a0.a8 s1).bind fun j=>(mJ j.a7).bind fun k=>if(!k)=true then(some (.stop (.inr false)))else((kX j.cn).bind fun q=>if(!q)=true then(some (.stop (.inr false)))else(if(decide (s1>0))=true then((dF a0.a8 (FM .i64 (s1-1))).bind fun f=>(jc f.a7 j.a7).bind fun g=>if(decide (g>=0))=true then(some (.stop (.inr false)))else(some (.next (FM .i64 (s1+1)))))else(some (.next (FM .i64 (s1+1)))))))else(some (.stop (.inl ())))
def cM(a0:ae):Option (Bool):=
  (cI (iy a0) 0).bind fun f=>match f with| .inl _=>(some (decide ((a0.a8.length:Int)<=128)))| .inr g=>(some g)
def mZ(a0:Int)(a1:Int)(a2:Int):Option (Bool):=
  if(decide (a0>=a1))=true then(some (decide (a0<=a2)))else(some false)
def iM(a0:aa):Option (Bool):=
  (mJ a0.a7).bind fun f=>if f=true then(if(decide (a0.bt>=0))=true then(if(decide (a0.bt<=a0.bS))=true then(if(decide (a0.bS<=a0.cg))=true then(if(decide (a0.cg<=18014398509481984))=true then((mZ a0.bG 0 1073741823).bind fun g=>if g=true then((mZ a0.bU (-1) 1).bind fun j=>some j)else(some false))else(some false))else(some false))else(some false))else(some false))else(some false)
def jP(a0:aa):Option (Bool):=
  (iM a0).bind fun f=>some (!f)
def dX(a0:(List aa)):Int->Option (dE (Int) ((Unit)⊕(Int))):=fun s1=>
  if(decide (s1<(a0.length:Int)))=true then((dF a0 s1).bind fun f=>(jP f).bind fun g=>if g=true then(some (.stop (.inr s1)))else(some (.next (FM .i64 (s1+1)))))else(some (.stop (.inl ())))
def gw(a0:(List aa)):Option (Int):=
  (cI (dX a0) 0).bind fun g=>match g with| .inl _=>(some (-1))| .inr f=>(some f)
def fF(a0:(List aa)):Option (Bool):=
  (gw a0).bind fun f=>some (decide (f>=0))
def gi(a0:(List aa)):Option (Bool):=
  (fF a0).bind fun f=>some (!f)
def lw(a0:Int):Option (Bool):=
  some (a0 != a0)
def cb(a0:Int)(a1:Int):Option (Int):=
  (lw a0).bind fun g=>(lw a1).bind fun f=>if g=true then(if f=true then(some 0)else(some (-1)))else(if f=true then(some 1)else(if(decide (a0<a1))=true then(some (-1))else(if(decide (a0>a1))=true then(some 1)else(some 0))))
def cO(a0:aa)(a1:aa):Option (Int):=
  (jc a0.a7 a1.a7).bind fun f=>(cb a0.bS a1.bS).bind fun g=>(cb a0.bt a1.bt).bind fun j=>(cb a0.cg a1.cg).bind fun k=>(cb a0.bG a1.bG).bind fun q=>(cb a0.bU a1.bU).bind fun r=>(dC [f,g,j,k,q,r]).bind fun u=>some u
def iY(s2:Int)(d0:(List aa)):(Int×Int×(List aa))->Option (dE (Int×Int×(List aa)) (Int×(List aa))):=fun(q,g,f)=>
  (lenV f.length (0+(s2:Int).toNat) (0+((d0.length:Int):Int).toNat)).bind fun r=>if(decide (g<r))=true then((inV f.length (0+(s2:Int).toNat) (0+((d0.length:Int):Int).toNat) g).bind fun _=>(dF f (((0+(s2:Int).toNat)+(g:Int).toNat:Nat):Int)).bind fun j=>(inV f.length (0+(s2:Int).toNat) (0+((d0.length:Int):Int).toNat) (FM .i64 (g-1))).bind fun _=>(dF f (((0+(s2:Int).toNat)+((FM .i64 (g-1)):Int).toNat:Nat):Int)).bind fun k=>if(!(((j.a7.bI==k.a7.bI)&&((j.a7.bw==k.a7.bw)&&((j.a7.ba==k.a7.ba)&&((j.a7.bM==k.a7.bM)&&true))))&&((j.bS==k.bS)&&((j.bt==k.bt)&&((j.cg==k.cg)&&((j.bG==k.bG)&&((j.bU==k.bU)&&true)))))))=true then((inV f.length (0+(s2:Int).toNat) (0+((d0.length:Int):Int).toNat) g).bind fun _=>(dF f (((0+(s2:Int).toNat)+(g:Int).toNat:Nat):Int)).bind fun u=>(inO f q).bind fun _=>(tC f q u).bind fun B=>some (.next ((FM .i64 (q+1)),(FM .i64 (g+1)),B)))else(some (.next (q,(FM .i64 (g+1)),f))))else(some (.stop (q,f)))
def iZ(d0:(List aa)):Int->Option (dE (Int) ((Unit)⊕((List aa)))):=fun s2=>
  if(decide (s2<(d0.length:Int)))=true then((inO d0 s2).bind fun _=>(dF d0 s2).bind fun j=>(inO d0 (FM .i64 (s2-1))).bind fun _=>(dF d0 (FM .i64 (s2-1))).bind fun g=>if(((j.a7.bI==g.a7.bI)&&((j.a7.bw==g.a7.bw)&&((j.a7.ba==g.a7.ba)&&((j.a7.bM==g.a7.bM)&&true))))&&((j.bS==g.bS)&&((j.bt==g.bt)&&((j.cg==g.cg)&&((j.bG==g.bG)&&((j.bU==g.bU)&&true))))))=true then((vB d0.length s2 (d0.length:Int)).bind fun _=>(cI (iY s2 d0) (s2,1,d0)).bind fun f=>(vB f.2.length f.1 (f.2.length:Int)).bind fun _=>(Az f.2.length (0+(f.1:Int).toNat) (0+((f.2.length:Int):Int).toNat)).bind fun _=>(vB (vj f.2 (0+(f.1:Int).toNat) ((0+((f.2.length:Int):Int).toNat)-(0+(f.1:Int).toNat)) (aa.mk (bi.mk [] [] [] []) 0 0 0 0 0)).length 0 f.1).bind fun _=>some (.stop (.inr ((vj f.2 (0+(f.1:Int).toNat) ((0+((f.2.length:Int):Int).toNat)-(0+(f.1:Int).toNat)) (aa.mk (bi.mk [] [] [] []) 0 0 0 0 0)).take (f.1:Int).toNat))))else(some (.next (FM .i64 (s2+1)))))else(some (.stop (.inl ())))
def eP(d0:(List aa)):Option ((List aa)):=
  if(decide ((d0.length:Int)<2))=true then(some d0)else((cI (iZ d0) 1).bind fun f=>match f with| .inl _=>(some d0)| .inr g=>(some g))
def da(a0:(List aa)):Option ((List aa)):=
  (rU 104 a0).bind fun f=>(wN cO f).bind fun g=>(eP g).bind fun j=>some j
def fI(a0:aa)(a1:aa):Option (Int):=
  (cb a0.bt a1.bt).bind fun f=>some f
def dq(a1:Int)(s1:Int):(Int×(List aa))->Option (dE (Int×(List aa)) (Int×(List aa))):=fun(f,g)=>
  if(decide (f>a1))=true then((inO g f).bind fun _=>(dF g f).bind fun k=>(inO g (FM .i64 (f-1))).bind fun _=>(dF g (FM .i64 (f-1))).bind fun q=>(fI k q).bind fun r=>if(decide (r<0))=true then((inO g (FM .i64 (f-1))).bind fun _=>(dF g (FM .i64 (f-1))).bind fun u=>(inO g f).bind fun _=>(dF g f).bind fun B=>(inO g f).bind fun _=>(tC g f u).bind fun j=>(inO j (FM .i64 (f-1))).bind fun _=>(tC j (FM .i64 (f-1)) B).bind fun C=>some (.next ((FM .i64 (f-1)),C)))else(some (.stop (s1,g))))else(some (.stop (s1,g)))
def cN(a2:Int)(a1:Int):(Int×(List aa))->Option (dE (Int×(List aa)) ((List aa))):=fun(s1,s2)=>
  if(decide (s1<a2))=true then((cI (dq a1 s1) (s1,s2)).bind fun f=>some (.next ((FM .i64 (f.1+1)),f.2)))else((some s2).bind fun z33=>some (.stop z33))
def bX(a1:Int)(a2:Int)(d0:(List aa)):Option ((List aa)):=
  (cI (cN a2 a1) ((FM .i64 (a1+1)),d0)).bind fun f=>some f
def cj(a1:Int):(Int×Int×(List aa))->Option (dE (Int×Int×(List aa)) (Int×(List aa))):=fun(s1,s2,f)=>
  if(decide (s2<=a1))=true then((bX s1 s2 f).bind fun g=>some (.next (s2,(FM .i64 (s2+20)),g)))else(some (.stop (s1,f)))
def lU(f:Int)(a1:Int):Unit->Option (dE (Unit) (Int)):=fun _=>
  if(decide ((FM .i64 (2*f))<=a1))=true then(none)else(some (.stop f))
def eo(a1:Int)(j:(List aa)):Int->Option (dE (Int) ((List aa))):=fun g=>
  if(decide (g<a1))=true then((cI (lU g a1) ()).bind fun f=>if(decide ((FM .i64 (0+f))<a1))=true then(none)else(some (.next (FM .i64 (f*2)))))else((some j).bind fun z21=>some (.stop z21))
def dR(a1:Int)(d0:(List aa)):Option ((List aa)):=
  (cI (cj a1) (0,20,d0)).bind fun f=>(bX f.1 a1 f.2).bind fun j=>(cI (eo a1 j) 20).bind fun g=>some g
def dy(d0:(List aa)):Option ((List aa)):=
  (dR (d0.length:Int) d0).bind fun f=>some f
def eF(r:(List aa))(a0:Int):(Int×(List (List aa)))->Option (dE (Int×(List (List aa))) ((List (List aa)))):=fun(k,j)=>
  if(decide (k<(r.length:Int)))=true then((inO r k).bind fun _=>(dF r k).bind fun q=>if(k==0)=true then((rD j [[]] 24).bind fun f=>(zg f).bind fun u=>(inO f (FM .i64 ((f.length:Int)-1))).bind fun _=>(atO (FM .i64 ((f.length:Int)-1)) (f.length-1)).bind fun _=>(rD u [q] 104).bind fun B=>(inO f (FM .i64 ((f.length:Int)-1))).bind fun _=>(stO f.length (FM .i64 ((f.length:Int)-1)) (f.length-1)).bind fun _=>some (.next ((FM .i64 (k+1)),(f.set (f.length-1) B))))else((inO r (FM .i64 (k-1))).bind fun _=>(dF r (FM .i64 (k-1))).bind fun C=>if(decide ((FM .i64 (q.bt-C.bt))>a0))=true then((rD j [[]] 24).bind fun g=>(zg g).bind fun D=>(inO g (FM .i64 ((g.length:Int)-1))).bind fun _=>(atO (FM .i64 ((g.length:Int)-1)) (g.length-1)).bind fun _=>(rD D [q] 104).bind fun E=>(inO g (FM .i64 ((g.length:Int)-1))).bind fun _=>(stO g.length (FM .i64 ((g.length:Int)-1)) (g.length-1)).bind fun _=>some (.next ((FM .i64 (k+1)),(g.set (g.length-1) E))))else((zg j).bind fun F=>(inO j (FM .i64 ((j.length:Int)-1))).bind fun _=>(atO (FM .i64 ((j.length:Int)-1)) (j.length-1)).bind fun _=>(rD F [q] 104).bind fun G=>(inO j (FM .i64 ((j.length:Int)-1))).bind fun _=>(stO j.length (FM .i64 ((j.length:Int)-1)) (j.length-1)).bind fun _=>some (.next ((FM .i64 (k+1)),(j.set (j.length-1) G))))))else(some (.stop j))
def jh(j:(List (List aa))):(Int×(List (List aa)))->Option (dE (Int×(List (List aa))) ((List (List aa)))):=fun(f,g)=>
  if(decide (f<(j.length:Int)))=true then((dF g f).bind fun k=>(inO g f).bind fun _=>(atO f (FR f)).bind fun _=>(wN cO k).bind fun q=>some (.next ((FM .i64 (f+1)),(g.set (FR f) q))))else(some (.stop g))
def bT(a0:Int)(a1:(List aa)):Option ((List (List aa))):=
  (da a1).bind fun j=>(dy j).bind fun k=>(cI (eF k a0) (0,([]:(List (List aa))))).bind fun f=>(cI (jh f) (0,f)).bind fun g=>some g
def gr(a0:Int)(a1:(List aa)):Option ((List (List aa))×Int):=
  if(decide (a0<0))=true then(some (([]:(List (List aa))),2))else(if(decide (a0>1099511627776))=true then(some (([]:(List (List aa))),2))else((gi a1).bind fun f=>if(!f)=true then(some (([]:(List (List aa))),1))else((bT a0 a1).bind fun g=>some (g,0))))
def gN(a0:ah)(a1:ae)(a2:(List aa)):Option ((List (List aa))×Int):=
  (eJ a0).bind fun g=>if(g != 0)=true then(some (([]:(List (List aa))),27))else((cM a1).bind fun j=>if(!j)=true then(some (([]:(List (List aa))),1))else((gr a0.ac.cw a2).bind fun f=>some (f.1,f.2)))
def jr(B:(List bg))(u:(List az))(k:Int)(q:Int)(r:(List aj)):(Int×(List bg))->Option (dE (Int×(List bg)) (Int×Int×(List aj)×(List bg))):=fun(f,g)=>
  if(decide (f<(B.length:Int)))=true then((inO g f).bind fun _=>(dF g f).bind fun C=>(dF g f).bind fun _=>(inO u k).bind fun _=>(atO k (FR k)).bind fun _=>(rU 8 C.et).bind fun D=>(inO g f).bind fun _=>(atO f (FR f)).bind fun _=>some (.next ((FM .i64 (f+1)),(setF g (FR f) (fun(j:bg)=>(bg.mk j.kb j.cf j.bZ D j.eH j.eW))))))else(some (.stop (q,k,r,g)))
def js(u:(List az)):(Int×Int×(List aj)×(List az))->Option (dE (Int×Int×(List aj)×(List az)) (Int×(List aj)×(List az))):=fun(k,f,q,g)=>
  if(decide (f<(u.length:Int)))=true then((dF g f).bind fun B=>(inO g f).bind fun _=>(atO f (FR f)).bind fun _=>(rU 96 B.bW.cS).bind fun r=>(inO g f).bind fun _=>(atO f (FR f)).bind fun _=>(inO g f).bind fun _=>(atO f (FR f)).bind fun _=>(cI (jr r g f k q) (0,r)).bind fun j=>some (.next (j.1,(FM .i64 (j.2.1+1)),j.2.2.1,(setF g (FR f) (fun(z55:az)=>(az.mk z55.b7 z55.fTo z55.np z55.bV (bv.mk j.2.2.2)))))))else(some (.stop (k,q,g)))
def jt(a1:ae):(Int×(List aj))->Option (dE (Int×(List aj)) ((List aj))):=fun(k,r)=>
  if(decide (k<(a1.a8.length:Int)))=true then((dF a1.a8 k).bind fun g=>(rU 80 g.cn).bind fun j=>(cI (js j) (k,0,r,j)).bind fun f=>(rD f.2.1 [(aj.mk g.a7 f.2.2)] 88).bind fun q=>some (.next ((FM .i64 (f.1+1)),q)))else(some (.stop r))
def fg(a0:ah)(a1:ae):Option (av):=
  (rU 8 a0.ac.bJ.bu).bind fun g=>(rU 8 a0.ac.bJ.bd).bind fun j=>(rU 8 a0.bQ.bF.bu).bind fun k=>(rU 8 a0.bQ.bF.bd).bind fun q=>(cI (jt a1) (0,([]:(List aj)))).bind fun f=>some (av.mk (ah.mk (bh.mk a0.ac.bn (bc.mk a0.ac.bJ.bR g j) a0.ac.dw a0.ac.bA a0.ac.cw a0.ac.dT a0.ac.cq) (bP.mk (bc.mk a0.bQ.bF.bR k q) a0.bQ.cf a0.bQ.bZ) a0.bA) (ae.mk f) [])
def fK(q:(List bg)):(Int×(List bg))->Option (dE (Int×(List bg)) ((List bg))):=fun(s2,g)=>
  if(decide (s2<(q.length:Int)))=true then((inO g s2).bind fun _=>(dF g s2).bind fun r=>(rU 8 r.et).bind fun j=>(inO g s2).bind fun _=>(xx g s2 (fun(f:bg)=>(bg.mk f.kb f.cf f.bZ j f.eH f.eW))).bind fun k=>some (.next ((FM .i64 (s2+1)),k)))else(some (.stop g))
def ix(a0:az):Option (az):=
  (rU 96 a0.bW.cS).bind fun g=>(cI (fK g) (0,g)).bind fun f=>some (az.mk a0.b7 a0.fTo a0.np a0.bV (bv.mk f))
def gY(k:(List az)):(Int×(List az))->Option (dE (Int×(List az)) ((List az))):=fun(s2,f)=>
  if(decide (s2<(k.length:Int)))=true then((inO f s2).bind fun _=>(dF f s2).bind fun q=>(ix q).bind fun g=>(inO f s2).bind fun _=>(tC f s2 g).bind fun j=>some (.next ((FM .i64 (s2+1)),j)))else(some (.stop f))
def kV(a0:aj):Option (aj):=
  (rU 80 a0.cn).bind fun g=>(cI (gY g) (0,g)).bind fun f=>some (aj.mk a0.a7 f)
def kd(a0:ae)(a1:bi):Int->Option (dE (Int) ((Unit)⊕(aj×Bool))):=fun s1=>
  if(decide (s1<(a0.a8.length:Int)))=true then((dF a0.a8 s1).bind fun f=>if((f.a7.bI==a1.bI)&&((f.a7.bw==a1.bw)&&((f.a7.ba==a1.ba)&&((f.a7.bM==a1.bM)&&true))))=true then((kV f).bind fun g=>some (.stop (.inr (g,true))))else(some (.next (FM .i64 (s1+1)))))else(some (.stop (.inl ())))
def mu(a0:ae)(a1:bi):Option (aj×Bool):=
  (cI (kd a0 a1) 0).bind fun g=>match g with| .inl _=>(some ((aj.mk (bi.mk [] [] [] []) []),false))| .inr f=>(some f)
def lH(a0:aj)(a1:Int):Int->Option (dE (Int) ((Unit)⊕(az×Bool))):=fun s1=>
  if(decide (s1<(a0.cn.length:Int)))=true then((dF a0.cn s1).bind fun f=>if(decide (f.b7<=a1))=true then(if(decide (a1<f.fTo))=true then(some (.stop (.inr (f,true))))else(some (.next (FM .i64 (s1+1)))))else(some (.next (FM .i64 (s1+1)))))else(some (.stop (.inl ())))
def nH(a0:aj)(a1:Int):Option (az×Bool):=
  (cI (lH a0 a1) 0).bind fun g=>match g with| .inl _=>(some ((az.mk 0 0 (cA.mk 0 0) (ag.mk 0 0 0) (bv.mk [])),false))| .inr f=>(some f)
def kU(a0:ae)(a1:bi)(a2:Int):Option (az×Int):=
  (cM a0).bind fun g=>if(!g)=true then(some ((az.mk 0 0 (cA.mk 0 0) (ag.mk 0 0 0) (bv.mk [])),1))else((mu a0 a1).bind fun j=>(nH j.1 a2).bind fun f=>if(!f.2)=true then(some ((az.mk 0 0 (cA.mk 0 0) (ag.mk 0 0 0) (bv.mk [])),6))else(some (f.1,0)))
def eC(a0:ah)(a1:ae)(a2:aa):Option (aw×az×Bool):=
  (iM a2).bind fun g=>if(!g)=true then(some ((aw.mk (ag.mk 0 0 0) 0 0 0),(az.mk 0 0 (cA.mk 0 0) (ag.mk 0 0 0) (bv.mk [])),false))else((kU a1 a2.a7 a2.bS).bind fun f=>if(f.2 != 0)=true then(some ((aw.mk (ag.mk 0 0 0) 0 0 0),(az.mk 0 0 (cA.mk 0 0) (ag.mk 0 0 0) (bv.mk [])),false))else((eD a0.ac.bJ a0.ac.bn (aw.mk f.1.bV a2.bt a2.cg 1)).bind fun j=>if(j.2 != 0)=true then(some ((aw.mk (ag.mk 0 0 0) 0 0 0),(az.mk 0 0 (cA.mk 0 0) (ag.mk 0 0 0) (bv.mk [])),false))else(some ((aw.mk f.1.bV a2.bt a2.cg 1),f.1,true))))
def lN(a0:ah)(a1:ae)(a2:aa):Option (aw×Bool):=
  (eJ a0).bind fun g=>if(g != 0)=true then(some ((aw.mk (ag.mk 0 0 0) 0 0 0),false))else((cM a1).bind fun j=>if(!j)=true then(some ((aw.mk (ag.mk 0 0 0) 0 0 0),false))else((eC a0 a1 a2).bind fun f=>some (f.1,f.2.2)))
def kT(B:(List aa))(a0:ah)(a1:ae):(Int×(List aa)×(List aw))->Option (dE (Int×(List aa)×(List aw)) ((List aa)×(List aw))):=fun(f,k,q)=>
  if(decide (f<(B.length:Int)))=true then((inO B f).bind fun _=>(dF B f).bind fun g=>(lN a0 a1 g).bind fun j=>if j.2=true then((rD k [g] 104).bind fun r=>(rD q [j.1] 48).bind fun u=>some (.next ((FM .i64 (f+1)),r,u)))else(some (.next ((FM .i64 (f+1)),k,q))))else(some (.stop (k,q)))
def nF(a0:ah)(a1:ae)(a2:(List aa)):Option ((List aa)×(List aw)×Int):=
  (eJ a0).bind fun g=>if(g != 0)=true then(some (([]:(List aa)),([]:(List aw)),27))else((cM a1).bind fun j=>if(!j)=true then(some (([]:(List aa)),([]:(List aw)),1))else((da a2).bind fun k=>(cI (kT k a0 a1) (0,([]:(List aa)),([]:(List aw)))).bind fun f=>if(decide ((f.1.length:Int)>256))=true then(some (([]:(List aa)),([]:(List aw)),8))else(some (f.1,f.2,0))))
def fe(a0:ag)(a1:ag):Option (Int):=
  (cb a0.fX a1.fX).bind fun f=>(cb a0.fY a1.fY).bind fun g=>(cb a0.fZ a1.fZ).bind fun j=>(dC [f,g,j]).bind fun k=>some k
def jW(a0:aw)(a1:aw):Option (Int):=
  (cb a0.bt a1.bt).bind fun f=>(cb a0.cg a1.cg).bind fun g=>(fe a0.bw a1.bw).bind fun j=>(cb a0.cz a1.cz).bind fun k=>(dC [f,g,j,k]).bind fun q=>some q
def gQ(a0:Int)(a1:Int)(d0:(List aw)):Option (Int):=
  (dF d0 a0).bind fun f=>(dF d0 a1).bind fun g=>(jW f g).bind fun j=>some j
def jT(a0:Int)(d1:(List aw))(s1:Int):(Int×(List Int))->Option (dE (Int×(List Int)) (Int×(List Int))):=fun(f,g)=>
  if(decide (f>a0))=true then((inO g f).bind fun _=>(dF g f).bind fun k=>(inO g (FM .i64 (f-1))).bind fun _=>(dF g (FM .i64 (f-1))).bind fun q=>(gQ k q d1).bind fun r=>if(decide (r<0))=true then((inO g (FM .i64 (f-1))).bind fun _=>(dF g (FM .i64 (f-1))).bind fun u=>(inO g f).bind fun _=>(dF g f).bind fun B=>(inO g f).bind fun _=>(tC g f u).bind fun j=>(inO j (FM .i64 (f-1))).bind fun _=>(tC j (FM .i64 (f-1)) B).bind fun C=>some (.next ((FM .i64 (f-1)),C)))else(some (.stop (s1,g))))else(some (.stop (s1,g)))
def jU(a1:Int)(a0:Int)(d1:(List aw)):(Int×(List Int))->Option (dE (Int×(List Int)) ((List Int))):=fun(s1,s2)=>
  if(decide (s1<a1))=true then((cI (jT a0 d1 s1) (s1,s2)).bind fun f=>some (.next ((FM .i64 (f.1+1)),f.2)))else((some s2).bind fun z33=>some (.stop z33))
def db(a0:Int)(a1:Int)(d0:(List Int))(d1:(List aw)):Option ((List Int)):=
  (cI (jU a1 a0 d1) ((FM .i64 (a0+1)),d0)).bind fun f=>some f
def ik(a0:Int)(d1:(List aw)):(Int×Int×(List Int))->Option (dE (Int×Int×(List Int)) (Int×(List Int))):=fun(s1,s2,f)=>
  if(decide (s2<=a0))=true then((db s1 s2 f d1).bind fun g=>some (.next (s2,(FM .i64 (s2+20)),g)))else(some (.stop (s1,f)))
def mc(f:Int)(a0:Int):Unit->Option (dE (Unit) (Int)):=fun _=>
  if(decide ((FM .i64 (2*f))<=a0))=true then(none)else(some (.stop f))
def gG(a0:Int)(j:(List Int)):Int->Option (dE (Int) ((List Int))):=fun g=>
  if(decide (g<a0))=true then((cI (mc g a0) ()).bind fun f=>if(decide ((FM .i64 (0+f))<a0))=true then(none)else(some (.next (FM .i64 (f*2)))))else((some j).bind fun z21=>some (.stop z21))
def dZ(a0:Int)(d0:(List Int))(d1:(List aw)):Option ((List Int)):=
  (cI (ik a0 d1) (0,20,d0)).bind fun f=>(db f.1 a0 f.2 d1).bind fun j=>(cI (gG a0 j) 20).bind fun g=>some g
def dQ(d0:(List Int))(d1:(List aw)):Option ((List Int)):=
  (dZ (d0.length:Int) d0 d1).bind fun f=>some f
def ld(g:(List Int)):(Int×(List Int))->Option (dE (Int×(List Int)) ((List Int))):=fun(s2,f)=>
  if(decide (s2<(g.length:Int)))=true then((inO f s2).bind fun _=>(tC f s2 s2).bind fun j=>some (.next ((FM .i64 (s2+1)),j)))else(some (.stop f))
def lD(a0:(List aw)):Option ((List Int)):=
  (mkO (a0.length:Int) 0 8).bind fun j=>(cI (ld j) (0,j)).bind fun f=>(dQ f a0).bind fun g=>some g
def jf(a0:Int):(Int×(List Int)×(List Int))->Option (dE (Int×(List Int)×(List Int)) ((List Int)×(List Int))):=fun(f,j,k)=>
  if(decide (f<(FM .i64 (a0+1))))=true then((wP (FM .i64 (f+1)) (FM .i64 (a0+1))).bind fun g=>(wP (FM .i64 (f+1)) (FM .i64 (a0+1))).bind fun q=>(inO j f).bind fun _=>(tC j f q).bind fun r=>(inO k g).bind fun _=>(tC k g f).bind fun u=>some (.next ((FM .i64 (f+1)),r,u)))else(some (.stop (j,k)))
def je(a0:Int):Option (cx):=
  (mkO (FM .i64 (a0+1)) 0 8).bind fun g=>(mkO (FM .i64 (a0+1)) 0 8).bind fun j=>(cI (jf a0) (0,g,j)).bind fun f=>some (cx.mk f.1 f.2)
def mT(a0:cx):Option (Int):=
  some (FM .i64 ((a0.fnext.length:Int)-1))
def dv(d0:(List Int))(d1:(List Int))(a3:(List Int))(a2:(List aw))(C:Int)(a1:bh):(Int×(List Int))->Option (dE (Int×(List Int)) ((List Int))):=fun(f,g)=>
  (mT (cx.mk d0 d1)).bind fun D=>if(f != D)=true then(if(decide ((g.length:Int)<16))=true then((dF a3 f).bind fun j=>(dF a2 j).bind fun k=>(dF a3 C).bind fun q=>(dF a2 q).bind fun r=>if(decide ((FM .i64 (k.bt-r.bt))<=a1.cw))=true then((rD g [f] 8).bind fun u=>(inO d0 f).bind fun _=>(dF d0 f).bind fun B=>some (.next (B,u)))else(some (.stop g)))else(some (.stop g)))else(some (.stop g))
def nE(a1:bh)(a2:(List aw))(a3:(List Int))(d0:(List Int))(d1:(List Int)):Option ((List Int)×(List Int)×(List Int)):=
  (mT (cx.mk d0 d1)).bind fun g=>(inO d0 g).bind fun _=>(dF d0 g).bind fun j=>(cI (dv d0 d1 a3 a2 j a1) (j,([]:(List Int)))).bind fun f=>some (f,d0,d1)
def fH(a0:bh)(a1:(List aw)):Option (ak):=
  some (ak.mk a0.bn a0.bJ a1 a0.dw)
def lf(a0:ak):Int->Option (dE (Int) ((Unit)⊕(Int))):=fun g=>
  if(decide (g<(a0.bK.length:Int)))=true then((dF a0.bK g).bind fun j=>(eD a0.bJ a0.bn j).bind fun f=>if(f.2 != 0)=true then(some (.stop (.inr f.2)))else(some (.next (FM .i64 (g+1)))))else(some (.stop (.inl ())))
def jz(a0:ak):Option (Int):=
  (cp a0.bn).bind fun k=>if(!k)=true then(some 20)else((ei a0.bJ).bind fun j=>if(j != 0)=true then(some j)else(if((a0.bK.length:Int)==0)=true then(some 24)else(if(decide ((a0.bK.length:Int)>64))=true then(some 8)else(if(decide (a0.dw<1))=true then(some 2)else(if(decide (a0.dw>1099511627776))=true then(some 2)else((cI (lf a0) 0).bind fun f=>match f with| .inl _=>(some 0)| .inr g=>(some g)))))))
def gV(a0:al)(a1:ag):Option (Bool):=
  (cp a0).bind fun f=>if f=true then((ed a1).bind fun g=>if g=true then((gc a0 a1).bind fun j=>some (j==0))else(some false))else(some false)
def lG(a0:al)(a1:al):Option (Bool):=
  (cp a0).bind fun f=>if f=true then((gV a1 a0.bu).bind fun g=>if g=true then((gV a1 a0.bd).bind fun j=>some j)else(some false))else(some false)
def k6(a0:ak)(a1:al):(Int×(List bz))->Option (dE (Int×(List bz)) (((List bz))⊕((List bz)×Int))):=fun(s2,j)=>
  if(decide (s2<(a0.bK.length:Int)))=true then((dF a0.bK s2).bind fun k=>(eD a0.bJ a1 k).bind fun g=>if(g.2 != 0)=true then(some (.stop (.inr (([]:(List bz)),g.2))))else((rD j [g.1] 16).bind fun f=>some (.next ((FM .i64 (s2+1)),f))))else(some (.stop (.inl j)))
def nJ(a0:ak)(a1:al):Option ((List bz)×Int):=
  (Ak 0 (a0.bK.length:Int) (bz.mk 0 0) 16).bind fun k=>(cI (k6 a0 a1) (0,k)).bind fun f=>match f with| .inl j=>(some (j,0))| .inr g=>(some g)
def ic(a0:ak)(a1:al):Option ((List bz)×Int):=
  (jz a0).bind fun f=>if(f != 0)=true then(some (([]:(List bz)),f))else((lG a1 a0.bn).bind fun j=>if(!j)=true then(some (([]:(List bz)),20))else((nJ a0 a1).bind fun g=>some (g.1,g.2)))
def gM(a0:bz)(a1:Int):Option (Int):=
  some (if 0>(if(FM .i64 (a1-a0.fTo))>(FM .i64 (a0.b7-a1))then(FM .i64 (a1-a0.fTo))else(FM .i64 (a0.b7-a1)))then 0 else(if(FM .i64 (a1-a0.fTo))>(FM .i64 (a0.b7-a1))then(FM .i64 (a1-a0.fTo))else(FM .i64 (a0.b7-a1))))
def lJ(a0:ak)(a1:(List bz))(a2:Int):(Int×Int)->Option (dE (Int×Int) (Int)):=fun(s1,s2)=>
  if(decide (s2<(a0.bK.length:Int)))=true then((dF a0.bK s2).bind fun g=>if(decide (s2<(a1.length:Int)))=true then((dF a1 s2).bind fun j=>(gM j a2).bind fun f=>some (.next ((FM .i64 (s1+(FM .i64 (g.cz*(if f<a0.dw then f else a0.dw))))),(FM .i64 (s2+1)))))else(some (.next (s1,(FM .i64 (s2+1))))))else(some (.stop s1))
def ky(a0:ak)(a1:(List bz))(a2:Int):Option (Int):=
  (cI (lJ a0 a1 a2) (0,0)).bind fun f=>some f
def mA(a1:(List bz)):(Int×(List Int))->Option (dE (Int×(List Int)) ((List Int))):=fun(s2,f)=>
  if(decide (s2<(a1.length:Int)))=true then((dF a1 s2).bind fun g=>(rD f [g.b7,g.fTo] 8).bind fun j=>some (.next ((FM .i64 (s2+1)),j)))else(some (.stop f))
def lI(u:Int)(r:(List Int))(a0:ak)(a1:(List bz)):(Int×Int×Int)->Option (dE (Int×Int×Int) (Int×Int)):=fun(j,g,f)=>
  if(decide (f<u))=true then((inV r.length (0+(1:Int).toNat) (0+((r.length:Int):Int).toNat) f).bind fun _=>(dF r (((0+(1:Int).toNat)+(f:Int).toNat:Nat):Int)).bind fun k=>(ky a0 a1 k).bind fun q=>if(decide (q<g))=true then(some (.next (k,q,(FM .i64 (f+1)))))else(if(q==g)=true then(if(decide (k<j))=true then(some (.next (k,q,(FM .i64 (f+1)))))else(some (.next (j,g,(FM .i64 (f+1))))))else(some (.next (j,g,(FM .i64 (f+1)))))))else(some (.stop (j,g)))
def kx(a0:ak)(a1:(List bz)):Option (Int×Int):=
  (Ak 0 (FM .i64 (2*(a1.length:Int))) 0 8).bind fun u=>(cI (mA a1) (0,u)).bind fun f=>if((f.length:Int)==0)=true then(some (0,0))else((inO f 0).bind fun _=>(dF f 0).bind fun j=>(inO f 0).bind fun _=>(dF f 0).bind fun k=>(ky a0 a1 k).bind fun q=>(vB f.length 1 (f.length:Int)).bind fun _=>(lenV f.length (0+(1:Int).toNat) (0+((f.length:Int):Int).toNat)).bind fun r=>(cI (lI r f a0 a1) (j,q,0)).bind fun g=>some (g.1,g.2))
def fV(a0:ak)(a1:al):Option (Int×Int):=
  (ic a0 a1).bind fun f=>if(f.2 != 0)=true then(some (0,f.2))else((kx a0 f.1).bind fun g=>some (g.2,0))
def oZ(a0:aq)(g:ak)(e2:Int)(j:Int)(k:Bool)(q:ap):Option ((List aq)):=
  (rD ([]:List aq) [a0] 64).bind fun f=>some f
def jL(a0:(List aq)):Option (Int):=
  some (a0.length:Int)
def kA(a0:(List aq))(a1:Int)(a2:Int):Option (Bool):=
  (dF a0 a1).bind fun f=>(dF a0 a2).bind fun g=>(cb f.dx g.dx).bind fun j=>(dF a0 a1).bind fun k=>(dF a0 a2).bind fun q=>(cb k.mq q.mq).bind fun r=>(dC [j,r]).bind fun u=>some (decide (u<0))
def kB(a1:Int)(a2:Int)(d0:(List aq)):Option ((List aq)):=
  (inO d0 a2).bind fun _=>(dF d0 a2).bind fun j=>(inO d0 a1).bind fun _=>(dF d0 a1).bind fun k=>(inO d0 a1).bind fun _=>(tC d0 a1 j).bind fun g=>(inO g a2).bind fun _=>(tC g a2 k).bind fun f=>some f
def oi:(Int×(List aq))->Option (dE (Int×(List aq)) ((List aq))):=fun(s1,s2)=>
  (tn .i64 (FM .i64 (s1-1)) 2).bind fun f=>if(f==s1)=true then((some s2).bind fun k=>some (.stop k))else((kA s2 s1 f).bind fun j=>if(!j)=true then((some s2).bind fun z9=>some (.stop z9))else((kB f s1 s2).bind fun g=>some (.next (f,g))))
def oV(a0:Int)(g:ak)(e2:Int)(j:Int)(k:Bool)(q:ap)(d1:(List aq)):Option ((List aq)):=
  (cI (oi) (a0,d1)).bind fun f=>some f
def mU(a0:aq)(f:ak)(e2:Int)(g:Int)(j:Bool)(k:ap):Option ((List aq)):=
  (oZ a0 f e2 g j k).bind fun q=>(jL q).bind fun r=>(oV (FM .i64 (r-1)) f e2 g j k q).bind fun u=>some u
def nj(j:Int×Int)(f:Int)(g:(List aq)):Option (Int×(List aq)×Int):=
  some (j.2,g,f)
def m5(a0:al)(g:ak)(e2:Int)(j:Int)(k:Bool)(q:ap):Option (Int×(List aq)×Int):=
  (fV g a0).bind fun f=>if(f.2==0)=true then((mU (aq.mk a0 f.1 e2) g e2 j k q).bind fun r=>nj f (FM .i64 (e2+1)) r)else(nj f e2 ([]:List aq))
def k9(a0:Int)(k:ak)(e2:Int)(q:Int)(f:Bool)(g:ap)(d1:(List aq)):Option (Bool):=
  if((d1.length:Int)==0)=true then(some true)else(if f=true then((inO d1 0).bind fun _=>(dF d1 0).bind fun j=>some (decide ((FM .i64 (g.b8-j.dx))<=a0)))else(some false))
def gd(s2:(List aq))(s1:Int)(f:Int):Option (dE (Int×(List aq)) (Int×(List aq))):=
  (kA s2 f s1).bind fun j=>if(!j)=true then(some (.stop (s1,s2)))else((kB s1 f s2).bind fun g=>some (.next (f,g)))
def ov(a1:Int):(Int×(List aq))->Option (dE (Int×(List aq)) (Int×(List aq))):=fun(s1,s2)=>
  if(decide ((FM .i64 ((FM .i64 (2*s1))+1))>=a1))=true then(some (.stop (s1,s2)))else(if(decide ((FM .i64 ((FM .i64 (2*s1))+1))<0))=true then(some (.stop (s1,s2)))else(if(decide ((FM .i64 ((FM .i64 ((FM .i64 (2*s1))+1))+1))<a1))=true then((kA s2 (FM .i64 ((FM .i64 ((FM .i64 (2*s1))+1))+1)) (FM .i64 ((FM .i64 (2*s1))+1))).bind fun f=>if f=true then(gd s2 s1 (FM .i64 ((FM .i64 ((FM .i64 (2*s1))+1))+1)))else(gd s2 s1 (FM .i64 ((FM .i64 (2*s1))+1))))else(gd s2 s1 (FM .i64 ((FM .i64 (2*s1))+1)))))
def nO(a0:Int)(a1:Int)(e2:ak)(g:Int)(j:Int)(k:Bool)(q:ap)(d1:(List aq)):Option (Bool×(List aq)):=
  (cI (ov a1) (a0,d1)).bind fun f=>some ((decide (f.1>a0)),f.2)
def qm(g:ak)(j:Int)(e2:Int)(k:Bool)(q:ap)(d1:(List aq)):Option (aq×(List aq)):=
  (inO d1 (FM .i64 ((d1.length:Int)-1))).bind fun _=>(dF d1 (FM .i64 ((d1.length:Int)-1))).bind fun f=>(vB d1.length 0 (FM .i64 ((d1.length:Int)-1))).bind fun _=>some (f,(d1.take ((FM .i64 ((d1.length:Int)-1)):Int).toNat))
def nT(f:ak)(g:Int)(e2:Int)(j:Bool)(k:ap)(d1:(List aq)):Option (aq×(List aq)):=
  (jL d1).bind fun q=>(kB 0 (FM .i64 (q-1)) d1).bind fun u=>(nO 0 (FM .i64 (q-1)) f g e2 j k u).bind fun B=>(qm f g e2 j k B.2).bind fun r=>some (r.1,r.2)
def ct(a0:Int)(a1:Int):Option (Int):=
  (tn .i64 (FM .i64 (a1-a0)) 2).bind fun f=>some (FM .i64 (a0+f))
def b9(a0:bO):Option (ag):=
  some (ag.mk a0.a0 a0.a1 a0.a2)
def gL(a0:al):Option (ag):=
  (cp a0).bind fun j=>if(!j)=true then(some (ag.mk 0 0 0))else((bY a0.bu).bind fun f=>(bY a0.bd).bind fun g=>(ct f.a0 g.a0).bind fun k=>(ct f.a1 g.a1).bind fun q=>(ct f.a2 g.a2).bind fun r=>(b9 (bO.mk k q r)).bind fun u=>some u)
def jK(a0:ak)(a1:ag):Option (Int×Int×Int):=
  (ic a0 (al.mk a1 a1)).bind fun f=>if(f.2 != 0)=true then(some (0,0,f.2))else((kx a0 f.1).bind fun g=>some (g.1,g.2,0))
def l7(a0:al)(q:ak)(e2:Int)(u:Int)(k:Bool)(g:ap)(d1:(List aq)):Option (Int×Bool×ap):=
  (gL a0).bind fun j=>(jK q j).bind fun f=>if(f.2.2 != 0)=true then(some (f.2.2,k,g))else(if(!k)=true then(some (0,true,(ap.mk j f.1 f.2.1 0 (al.mk (ag.mk 0 0 0) (ag.mk 0 0 0)))))else(if(decide (f.2.1<g.b8))=true then(some (0,true,(ap.mk j f.1 f.2.1 0 (al.mk (ag.mk 0 0 0) (ag.mk 0 0 0)))))else(if(f.2.1==g.b8)=true then((fe j g.bN).bind fun r=>if(decide (r<0))=true then(some (0,true,(ap.mk j f.1 f.2.1 0 (al.mk (ag.mk 0 0 0) (ag.mk 0 0 0)))))else(some (0,k,g)))else(some (0,k,g)))))
def lF(a0:al):Option (Int):=
  (cp a0).bind fun j=>if(!j)=true then(some 0)else((bY a0.bd).bind fun f=>(bY a0.bu).bind fun g=>some (FM .i64 ((FM .i64 ((FM .i64 (1*(FM .i64 ((FM .i64 (f.a0-g.a0))+1))))*(FM .i64 ((FM .i64 (f.a1-g.a1))+1))))*(FM .i64 ((FM .i64 (f.a2-g.a2))+1)))))
def fr(a0:al):Option (al×al×Bool):=
  (lF a0).bind fun G=>if(decide (G<2))=true then(some ((al.mk (ag.mk 0 0 0) (ag.mk 0 0 0)),(al.mk (ag.mk 0 0 0) (ag.mk 0 0 0)),false))else((bY a0.bu).bind fun f=>(bY a0.bd).bind fun g=>if(decide ((FM .i64 (g.a1-f.a1))>(FM .i64 (g.a0-f.a0))))=true then(if(decide ((FM .i64 (g.a2-f.a2))>(FM .i64 (g.a1-f.a1))))=true then((ct f.a2 g.a2).bind fun F=>(b9 (bO.mk g.a0 g.a1 F)).bind fun H=>(b9 (bO.mk f.a0 f.a1 (FM .i64 (F+1)))).bind fun I=>some ((al.mk a0.bu H),(al.mk I a0.bd),true))else((ct f.a1 g.a1).bind fun j=>(b9 (bO.mk g.a0 j g.a2)).bind fun r=>(b9 (bO.mk f.a0 (FM .i64 (j+1)) f.a2)).bind fun u=>some ((al.mk a0.bu r),(al.mk u a0.bd),true)))else(if(decide ((FM .i64 (g.a2-f.a2))>(FM .i64 (g.a0-f.a0))))=true then((ct f.a2 g.a2).bind fun k=>(b9 (bO.mk g.a0 g.a1 k)).bind fun B=>(b9 (bO.mk f.a0 f.a1 (FM .i64 (k+1)))).bind fun C=>some ((al.mk a0.bu B),(al.mk C a0.bd),true))else((ct f.a0 g.a0).bind fun q=>(b9 (bO.mk q g.a1 g.a2)).bind fun D=>(b9 (bO.mk (FM .i64 (q+1)) f.a1 f.a2)).bind fun E=>some ((al.mk a0.bu D),(al.mk E a0.bd),true))))
def oj(a0:aq)(g:ak)(e2:Int)(j:Int)(k:Bool)(q:ap)(d1:(List aq)):Option ((List aq)):=
  (rD d1 [a0] 64).bind fun f=>some f
def lR(a0:aq)(f:ak)(e2:Int)(g:Int)(j:Bool)(k:ap)(d1:(List aq)):Option ((List aq)):=
  (oj a0 f e2 g j k d1).bind fun q=>(jL q).bind fun r=>(oV (FM .i64 (r-1)) f e2 g j k q).bind fun u=>some u
def mH(j:Int×Int)(f:Int)(g:(List aq)):Option (Int×Int×(List aq)):=
  some (j.2,f,g)
def kH(a0:al)(g:ak)(e2:Int)(j:Int)(k:Bool)(q:ap)(d1:(List aq)):Option (Int×Int×(List aq)):=
  (fV g a0).bind fun f=>if(f.2==0)=true then((lR (aq.mk a0 f.1 e2) g e2 j k q d1).bind fun r=>mH f (FM .i64 (e2+1)) r)else(mH f e2 d1)
def l8(q:ak)(k:Int)(e2:Int)(u:Bool)(B:ap)(d1:(List aq)):Option (Int×Int×Int×Bool×ap×(List aq)):=
  if(e2==3000)=true then(some (25,k,e2,u,B,d1))else((inO d1 0).bind fun _=>(dF d1 0).bind fun D=>(nT q k e2 u B d1).bind fun r=>(l7 D.mN q k (FM .i64 (e2+1)) u B r.2).bind fun f=>if(f.1 != 0)=true then(some (f.1,k,(FM .i64 (e2+1)),f.2.1,f.2.2,r.2))else((fr D.mN).bind fun C=>if(!C.2.2)=true then(some (0,k,(FM .i64 (e2+1)),f.2.1,f.2.2,r.2))else((kH C.1 q k (FM .i64 (e2+1)) f.2.1 f.2.2 r.2).bind fun g=>if(g.1 != 0)=true then(some (g.1,g.2.1,(FM .i64 (e2+1)),f.2.1,f.2.2,g.2.2))else((kH C.2.1 q g.2.1 (FM .i64 (e2+1)) f.2.1 f.2.2 g.2.2).bind fun j=>some (j.1,j.2.1,(FM .i64 (e2+1)),f.2.1,f.2.2,j.2.2)))))
def my(a1:Int)(a0:ak):(Int×Int×Bool×ap×(List aq))->Option (dE (Int×Int×Bool×ap×(List aq)) (((List aq)×Int×Int×Bool×ap)⊕((Option cm)×Int))):=fun(j,k,q,r,g)=>
  (k9 a1 a0 j k q r g).bind fun u=>if(!u)=true then((l8 a0 j k q r g).bind fun f=>if(f.1 != 0)=true then(some (.stop (.inr (none,f.1))))else(some (.next (f.2.1,f.2.2.1,f.2.2.2.1,f.2.2.2.2.1,f.2.2.2.2.2))))else(some (.stop (.inl (g,j,k,q,r))))
def ku(a0:ak)(a1:Int):Option ((Option cm)×Int):=
  (jz a0).bind fun q=>if(q != 0)=true then(some (none,q))else(if(decide (a1<0))=true then(some (none,2))else((m5 a0.bn a0 0 0 false (ap.mk (ag.mk 0 0 0) 0 0 0 (al.mk (ag.mk 0 0 0) (ag.mk 0 0 0)))).bind fun g=>if(g.1 != 0)=true then(some (none,g.1))else((cI (my a1 a0) (g.2.2,0,false,(ap.mk (ag.mk 0 0 0) 0 0 0 (al.mk (ag.mk 0 0 0) (ag.mk 0 0 0))),g.2.1)).bind fun j=>match j with| .inl f=>(some ((some (cm.mk a0 f.1 f.2.1 f.2.2.1 f.2.2.2.1 (ap.mk (ag.mk f.2.2.2.2.bN.fX f.2.2.2.2.bN.fY f.2.2.2.2.bN.fZ) f.2.2.2.2.bS f.2.2.2.2.b8 f.2.2.2.2.mp (al.mk (ag.mk f.2.2.2.2.ch.bu.fX f.2.2.2.2.ch.bu.fY f.2.2.2.2.ch.bu.fZ) (ag.mk f.2.2.2.2.ch.bd.fX f.2.2.2.2.ch.bd.fY f.2.2.2.2.ch.bd.fZ))))),0))| .inr k=>(some k))))
def nf(a0:al)(a1:al):Option (al):=
  (cp a0).bind fun r=>if(!r)=true then(some (al.mk (ag.mk 0 0 0) (ag.mk 0 0 0)))else((cp a1).bind fun u=>if(!u)=true then(some (al.mk (ag.mk 0 0 0) (ag.mk 0 0 0)))else((bY a0.bu).bind fun f=>(bY a0.bd).bind fun g=>(bY a1.bu).bind fun j=>(bY a1.bd).bind fun k=>(b9 (bO.mk (if j.a0<f.a0 then j.a0 else f.a0) (if j.a1<f.a1 then j.a1 else f.a1) (if j.a2<f.a2 then j.a2 else f.a2))).bind fun B=>(b9 (bO.mk (if k.a0>g.a0 then k.a0 else g.a0) (if k.a1>g.a1 then k.a1 else g.a1) (if k.a2>g.a2 then k.a2 else g.a2))).bind fun q=>some (al.mk B q)))
def mw(r:cm):(Int×Int×al)->Option (dE (Int×Int×al) (Int×al)):=fun(j,g,k)=>
  if(decide (j<(r.mr.length:Int)))=true then((dF r.mr j).bind fun f=>if(decide (f.dx<r.cu.b8))=true then((nf k f.mN).bind fun q=>some (.next ((FM .i64 (j+1)),(if f.dx<g then f.dx else g),q)))else(some (.next ((FM .i64 (j+1)),(if f.dx<g then f.dx else g),k))))else(some (.stop (g,k)))
def dK(a0:ak)(a1:Int):Option (ap×Int):=
  (ku a0 a1).bind fun j=>optC j.1 (if(j.2 != 0)=true then(some ((ap.mk (ag.mk 0 0 0) 0 0 0 (al.mk (ag.mk 0 0 0) (ag.mk 0 0 0))),j.2))else(none)) (fun g=>if(j.2 != 0)=true then(some ((ap.mk (ag.mk 0 0 0) 0 0 0 (al.mk (ag.mk 0 0 0) (ag.mk 0 0 0))),j.2))else((cI (mw g) (0,g.cu.b8,(al.mk g.cu.bN g.cu.bN))).bind fun f=>some ((ap.mk g.cu.bN g.cu.bS g.cu.b8 f.1 (al.mk (ag.mk f.2.bu.fX f.2.bu.fY f.2.bu.fZ) (ag.mk f.2.bd.fX f.2.bd.fY f.2.bd.fZ))),0)))
def ib(r:(List bz)×Int)(a2:Int):(Int×(List Int))->Option (dE (Int×(List Int)) ((List Int))):=fun(f,q)=>
  if(decide (f<(r.1.length:Int)))=true then((dF r.1 f).bind fun g=>(gM g a2).bind fun j=>(rD q [j] 8).bind fun k=>some (.next ((FM .i64 (f+1)),k)))else(some (.stop q))
def iL(a0:ak)(a1:ag)(a2:Int):Option ((List Int)×Int):=
  (ic a0 (al.mk a1 a1)).bind fun f=>if(f.2 != 0)=true then(some (([]:(List Int)),f.2))else(if(decide (a2<(-18014398509481984)))=true then(some (([]:(List Int)),2))else(if(decide (a2>18014398509481984))=true then(some (([]:(List Int)),2))else((Ak 0 (f.1.length:Int) 0 8).bind fun j=>(cI (ib f a2) (0,j)).bind fun g=>some (g,0))))
def mi(a1:Int)(d0:(List Int))(d1:(List Int)):Option ((List Int)×(List Int)):=
  (inO d1 a1).bind fun _=>(dF d1 a1).bind fun k=>(inO d0 a1).bind fun _=>(dF d0 a1).bind fun q=>(inO d0 a1).bind fun _=>(dF d0 a1).bind fun r=>(inO d1 a1).bind fun _=>(dF d1 a1).bind fun f=>(inO d0 k).bind fun _=>(tC d0 k r).bind fun g=>(inO d1 q).bind fun _=>(tC d1 q f).bind fun j=>some (g,j)
def dc(f:(List Int)×(List Int)×(List Int))(C:(List Int))(j:(List bB))(k:(List Int)):Option (dE ((List bB)×(List Int)×(List Int)×(List Int)) (((List bB)×(List Int))⊕((List bB)×(List Int)×Int))):=
  (dF f.1 0).bind fun q=>(dF C q).bind fun r=>(rD k [r] 8).bind fun u=>(dF f.1 0).bind fun B=>(mi B f.2.1 f.2.2).bind fun g=>some (.next (j,u,g.1,g.2))
def ep(j:(List Int)×(List Int)×(List Int))(D:(List Int))(a1:(List aw))(B:(List bB))(C:(List Int)):(Int×(List aw))->Option (dE (Int×(List aw)) ((List aw)×(List bB)×(List Int))):=fun(f,g)=>
  if(decide (f<(j.1.length:Int)))=true then((dF j.1 f).bind fun k=>(dF D k).bind fun q=>(dF a1 q).bind fun r=>(rD g [r] 48).bind fun u=>some (.next ((FM .i64 (f+1)),u)))else(some (.stop (g,B,C)))
def er(j:(List Int)×(List Int)×(List Int))(k:(List Int)×Int)(a0:bh):(Int×(List Int))->Option (dE (Int×(List Int)) ((List Int))):=fun(f,g)=>
  if(decide (f<(j.1.length:Int)))=true then((dF j.1 f).bind fun q=>(dF k.1 f).bind fun r=>if(decide (r<=a0.dT))=true then((rD g [q] 8).bind fun u=>some (.next ((FM .i64 (f+1)),u)))else(some (.next ((FM .i64 (f+1)),g))))else(some (.stop g))
def de(g:(List Int))(D:(List Int)):(Int×(List Int)×(List Int)×(List Int))->Option (dE (Int×(List Int)×(List Int)×(List Int)) ((List Int)×(List Int)×(List Int))):=fun(f,j,k,q)=>
  if(decide (f<(g.length:Int)))=true then((inO g f).bind fun _=>(dF g f).bind fun r=>(mi r j k).bind fun u=>(dF D r).bind fun B=>(rD q [B] 8).bind fun C=>some (.next ((FM .i64 (f+1)),u.1,u.2,C)))else(some (.stop (j,k,q)))
def cy(a0:bh)(a1:(List aw))(C:(List Int)):((List bB)×(List Int)×(List Int)×(List Int))->Option (dE ((List bB)×(List Int)×(List Int)×(List Int)) (((List bB)×(List Int))⊕((List bB)×(List Int)×Int))):=fun(D,E,u,F)=>
  (mT (cx.mk u F)).bind fun B=>(inO u B).bind fun _=>(dF u B).bind fun G=>(mT (cx.mk u F)).bind fun H=>if(G != H)=true then((nE a0 a1 C u F).bind fun f=>if(decide ((f.1.length:Int)>=a0.cq))=true then((cI (ep f C a1 D E) (0,([]:(List aw)))).bind fun g=>(fH a0 g.1).bind fun I=>(dK I a0.bA).bind fun j=>if(j.2 != 0)=true then(some (.stop (.inr (([]:(List bB)),([]:(List Int)),j.2))))else((fH a0 g.1).bind fun J=>(iL J j.1.bN j.1.bS).bind fun q=>if(q.2 != 0)=true then(some (.stop (.inr (([]:(List bB)),([]:(List Int)),q.2))))else((cI (er f q a0) (0,([]:(List Int)))).bind fun r=>if(decide ((r.length:Int)>=a0.cq))=true then((cI (de r C) (0,f.2.1,f.2.2,([]:(List Int)))).bind fun k=>(tQ k.2.2).bind fun K=>(rD g.2.1 [(bB.mk K j.1.bN j.1.bS)] 56).bind fun L=>some (.next (L,g.2.2,k.1,k.2.1)))else(dc f C g.2.1 g.2.2))))else(dc f C D E))else(some (.stop (.inl (D,E))))
def iw(a0:bh)(a1:(List aw)):Option ((List bB)×(List Int)×Int):=
  (ej a0 a1).bind fun q=>if(q != 0)=true then(some (([]:(List bB)),([]:(List Int)),q))else((lD a1).bind fun u=>(je (a1.length:Int)).bind fun r=>(cI (cy a0 a1 u) (([]:(List bB)),([]:(List Int)),r.fnext,r.fback)).bind fun g=>match g with| .inl f=>((tQ f.2).bind fun k=>some (f.1,k,0))| .inr j=>(some j))
def iC(D:(List aa))(a0:ah)(a1:ae):(Int×(List aa)×(List aw)×(List az))->Option (dE (Int×(List aa)×(List aw)×(List az)) ((List aa)×(List aw)×(List az))):=fun(g,k,q,r)=>
  if(decide (g<(D.length:Int)))=true then((inO D g).bind fun _=>(dF D g).bind fun j=>(eC a0 a1 j).bind fun f=>if f.2.2=true then((rD k [j] 104).bind fun u=>(rD q [f.1] 48).bind fun B=>(rD r [f.2.1] 80).bind fun C=>some (.next ((FM .i64 (g+1)),u,B,C)))else(some (.next ((FM .i64 (g+1)),k,q,r))))else(some (.stop (k,q,r)))
def jG(a0:ah)(a1:ae)(a2:(List aa)):Option (bD×Int):=
  (eJ a0).bind fun g=>if(g != 0)=true then(some ((bD.mk [] [] []),27))else((cM a1).bind fun j=>if(!j)=true then(some ((bD.mk [] [] []),1))else((da a2).bind fun k=>(cI (iC k a0 a1) (0,([]:(List aa)),([]:(List aw)),([]:(List az)))).bind fun f=>some ((bD.mk f.1 f.2.1 f.2.2),0)))
def kZ(a0:bD)(a1:ah):Option (ak×Int):=
  if((a0.fk.length:Int)==0)=true then(some ((ak.mk (al.mk (ag.mk 0 0 0) (ag.mk 0 0 0)) (bc.mk 0 [] []) [] 0),24))else(if(decide ((a0.fk.length:Int)>64))=true then(some ((ak.mk (al.mk (ag.mk 0 0 0) (ag.mk 0 0 0)) (bc.mk 0 [] []) [] 0),8))else((rU 8 a1.ac.bJ.bu).bind fun f=>(rU 8 a1.ac.bJ.bd).bind fun g=>some ((ak.mk a1.ac.bn (bc.mk a1.ac.bJ.bR f g) a0.fk a1.ac.dw),0)))
def pO:(Int×(List Int))->Option (dE (Int×(List Int)) ((List Int))):=fun(s2,f)=>
  if(decide (s2>0))=true then((wP s2 1073741824).bind fun g=>(rD f [g] 8).bind fun j=>some (.next ((sb .i64 s2 30),j)))else(some (.stop f))
def rk(a0:Int):Option ((List Int)×Int):=
  if(decide (a0<0))=true then(some (([]:(List Int)),2))else((cI (pO) (a0,([]:(List Int)))).bind fun f=>some (f,0))
def nY(a0:Int):Option (Bool):=
  if(decide (a0<0))=true then(some true)else(some (decide (a0>=1073741824)))
def fG(a0:(List Int)):Int->Option (dE (Int) ((Unit)⊕(Int))):=fun s1=>
  if(decide (s1<(a0.length:Int)))=true then((dF a0 s1).bind fun f=>(nY f).bind fun g=>if g=true then(some (.stop (.inr s1)))else(some (.next (FM .i64 (s1+1)))))else(some (.stop (.inl ())))
def gx(a0:(List Int)):Option (Int):=
  (cI (fG a0) 0).bind fun g=>match g with| .inl _=>(some (-1))| .inr f=>(some f)
def di(a0:(List Int)):Option (Bool):=
  (gx a0).bind fun f=>some (decide (f>=0))
def lZ(a0:(List Int)):Option (Bool):=
  if(decide ((a0.length:Int)>64))=true then(some false)else(if(decide ((a0.length:Int)>0))=true then((dF a0 (FM .i64 ((a0.length:Int)-1))).bind fun f=>if(f==0)=true then(some false)else((di a0).bind fun g=>some (!g)))else((di a0).bind fun j=>some (!j)))
def pP(a0:(List Int))(a1:(List Int)):Option (Bool):=
  (lZ a0).bind fun f=>if f=true then((lZ a1).bind fun g=>some g)else(some false)
def nQ(a0:(List Int))(a1:Int):Option (Int):=
  if(decide (a1>=(a0.length:Int)))=true then(some 0)else((dF a0 a1).bind fun f=>some f)
def pR:(List Int)->Option (dE ((List Int)) ((List Int))):=fun s1=>
  if(decide ((s1.length:Int)>0))=true then((dF s1 (FM .i64 ((s1.length:Int)-1))).bind fun f=>if(f==0)=true then((zo s1 0 (FM .i64 ((s1.length:Int)-1))).bind fun g=>some (.next g))else(some (.stop s1)))else(some (.stop s1))
def pQ(a0:(List Int)):Option ((List Int)):=
  (cI (pR) a0).bind fun f=>some f
def mW(a1:(List Int))(s2:Int)(B:Int):(Int×Int×(List Int))->Option (dE (Int×Int×(List Int)) (Int×(List Int))):=fun(q,g,f)=>
  if(decide (g<(FM .i64 ((a1.length:Int)+1))))=true then(if(decide ((FM .i64 (s2+g))<(f.length:Int)))=true then((inO f (FM .i64 (s2+g))).bind fun _=>(dF f (FM .i64 (s2+g))).bind fun j=>(nQ a1 g).bind fun k=>(wP (FM .i64 (q+(FM .i64 (j+(FM .i64 (B*k)))))) 1073741824).bind fun r=>(inO f (FM .i64 (s2+g))).bind fun _=>(tC f (FM .i64 (s2+g)) r).bind fun u=>some (.next ((sb .i64 (FM .i64 (q+(FM .i64 (j+(FM .i64 (B*k)))))) 30),(FM .i64 (g+1)),u)))else(some (.next (q,(FM .i64 (g+1)),f))))else(some (.stop (s2,f)))
def mX(a0:(List Int))(a1:(List Int)):(Int×(List Int))->Option (dE (Int×(List Int)) ((List Int))):=fun(s2,g)=>
  if(decide (s2<(a0.length:Int)))=true then((dF a0 s2).bind fun j=>(cI (mW a1 s2 j) (0,0,g)).bind fun f=>some (.next ((FM .i64 (f.1+1)),f.2)))else(some (.stop g))
def k7(a0:(List Int))(a1:(List Int)):Option ((List Int)):=
  (mkO (FM .i64 ((a0.length:Int)+(a1.length:Int))) 0 8).bind fun j=>(cI (mX a0 a1) (0,j)).bind fun f=>(pQ f).bind fun g=>some g
def kz(a0:(List Int)):Option ((List Int)×Int):=
  (pQ a0).bind fun f=>if(decide ((f.length:Int)>64))=true then(some (([]:(List Int)),8))else(some (f,0))
def nat_Mul(a0:(List Int))(a1:(List Int)):Option ((List Int)×Int):=
  (pP a0 a1).bind fun g=>if(!g)=true then(some (([]:(List Int)),1))else((k7 a0 a1).bind fun j=>(kz j).bind fun f=>some (f.1,f.2))
def ef(a0:Int):Option ((List Int)):=
  (rk (if(FM .i64 (0-a0))>a0 then(FM .i64 (0-a0))else a0)).bind fun f=>(nat_Mul f.1 f.1).bind fun g=>some g.1
def pN(a1:(List Int))(a0:(List Int)):(Int×Int×(List Int))->Option (dE (Int×Int×(List Int)) ((List Int))):=fun(q,g,r)=>
  if(decide (g<(FM .i64 ((if(a1.length:Int)>(a0.length:Int)then(a1.length:Int)else(a0.length:Int))+1))))=true then((nQ a0 g).bind fun u=>(nQ a1 g).bind fun f=>(wP (FM .i64 (q+(FM .i64 (u+f)))) 1073741824).bind fun j=>(rD r [j] 8).bind fun k=>some (.next ((sb .i64 (FM .i64 (q+(FM .i64 (u+f)))) 30),(FM .i64 (g+1)),k)))else(some (.stop r))
def nat_Add(a0:(List Int))(a1:(List Int)):Option ((List Int)×Int):=
  (pP a0 a1).bind fun j=>if(!j)=true then(some (([]:(List Int)),1))else((cI (pN a1 a0) (0,0,([]:(List Int)))).bind fun g=>(kz g).bind fun f=>some (f.1,f.2))
def iX(a0:bO)(a1:Int)(a2:Int):Option ((List Int)):=
  (ef (FM .i64 ((FM .i64 ((FM .i64 (a0.a0*a2))*a2))-(FM .i64 ((FM .i64 (a0.a2*a1))*a1))))).bind fun f=>(ef (FM .i64 ((FM .i64 (a0.a1*a1))*a2))).bind fun g=>(nat_Add f g).bind fun j=>some j.1
def ni(a0:bg)(a1:Int)(a2:Int):Option (bC×Bool):=
  if(a0.kb==0)=true then((ef a0.cf.a0).bind fun j=>(ef a0.bZ.a0).bind fun k=>some ((bC.mk j k),true))else(if(a0.kb==1)=true then((iX a0.cf a1 a2).bind fun q=>(iX a0.bZ a1 a2).bind fun g=>some ((bC.mk q g),(decide ((g.length:Int)>0))))else((fW a0.et).bind fun r=>(ef r).bind fun u=>(ym .i64 1 a0.eW).bind fun B=>(ef B).bind fun f=>some ((bC.mk u f),true)))
def ie(a0:bC):Option (Bool):=
  (lZ a0.cf).bind fun f=>if f=true then((lZ a0.bZ).bind fun g=>if g=true then(some (decide ((a0.bZ.length:Int)>0)))else(some false))else(some false)
def ql(a0:bC)(a1:bC):Option (bC×Int):=
  (ie a0).bind fun j=>if(!j)=true then(some ((bC.mk [] []),1))else((ie a1).bind fun k=>if(!k)=true then(some ((bC.mk [] []),1))else((k7 a0.cf a1.cf).bind fun q=>(kz q).bind fun f=>(k7 a0.bZ a1.bZ).bind fun r=>(kz r).bind fun g=>if(f.2 != 0)=true then(some ((bC.mk [] []),8))else(if(g.2 != 0)=true then(some ((bC.mk [] []),8))else(some ((bC.mk f.1 g.1),0)))))
def mG(a0:bv)(a1:Int)(a2:Int):(Int×(List Int)×(List Int))->Option (dE (Int×(List Int)×(List Int)) (((List Int)×(List Int))⊕(bC×Int))):=fun(j,q,r)=>
  if(decide (j<(a0.cS.length:Int)))=true then((dF a0.cS j).bind fun k=>(ni k a1 a2).bind fun g=>if(!g.2)=true then(some (.stop (.inr ((bC.mk [] []),11))))else((ql (bC.mk q r) g.1).bind fun f=>if(f.2 != 0)=true then(some (.stop (.inr ((bC.mk [] []),f.2))))else(some (.next ((FM .i64 (j+1)),f.1.cf,f.1.bZ)))))else(some (.stop (.inl (q,r))))
def ng(a0:bv)(a1:Int)(a2:Int):Option (bC×Int):=
  (kG a0).bind fun k=>if(!k)=true then(some ((bC.mk [] []),1))else((cQ a1 0 65536).bind fun q=>if(!q)=true then(some ((bC.mk [] []),2))else((cQ a2 1 65536).bind fun r=>if(!r)=true then(some ((bC.mk [] []),2))else((cI (mG a0 a1 a2) (0,[1],[1])).bind fun g=>match g with| .inl f=>(some ((bC.mk f.1 f.2),0))| .inr j=>(some j))))
def fu(a0:Int)(g:Int)(f:Int):Option (Int):=
  some (FM .i64 ((FM .i64 (256*a0))+f))
def fw(a0:Int)(f:Int)(g:Int):Option (Int):=
  if(decide ((sb .i64 (FM .i64 (f*f)) 30)>=2147483648))=true then((tn .i64 (sb .i64 (FM .i64 (f*f)) 30) 2).bind fun j=>fu a0 j (FM .i64 ((FM .i64 (g*2))+1)))else(fu a0 (sb .i64 (FM .i64 (f*f)) 30) (FM .i64 (g*2)))
def fx(a0:Int)(f:Int)(g:Int):Option (Int):=
  if(decide ((sb .i64 (FM .i64 (f*f)) 30)>=2147483648))=true then((tn .i64 (sb .i64 (FM .i64 (f*f)) 30) 2).bind fun j=>fw a0 j (FM .i64 ((FM .i64 (g*2))+1)))else(fw a0 (sb .i64 (FM .i64 (f*f)) 30) (FM .i64 (g*2)))
def fy(a0:Int)(f:Int)(g:Int):Option (Int):=
  if(decide ((sb .i64 (FM .i64 (f*f)) 30)>=2147483648))=true then((tn .i64 (sb .i64 (FM .i64 (f*f)) 30) 2).bind fun j=>fx a0 j (FM .i64 ((FM .i64 (g*2))+1)))else(fx a0 (sb .i64 (FM .i64 (f*f)) 30) (FM .i64 (g*2)))
def fA(a0:Int)(f:Int)(j:Int):Option (Int):=
  if(decide ((sb .i64 (FM .i64 (f*f)) 30)>=2147483648))=true then((tn .i64 (sb .i64 (FM .i64 (f*f)) 30) 2).bind fun g=>fy a0 g (FM .i64 ((FM .i64 (j*2))+1)))else(fy a0 (sb .i64 (FM .i64 (f*f)) 30) (FM .i64 (j*2)))
def fB(a0:Int)(f:Int)(j:Int):Option (Int):=
  if(decide ((sb .i64 (FM .i64 (f*f)) 30)>=2147483648))=true then((tn .i64 (sb .i64 (FM .i64 (f*f)) 30) 2).bind fun g=>fA a0 g (FM .i64 ((FM .i64 (j*2))+1)))else(fA a0 (sb .i64 (FM .i64 (f*f)) 30) (FM .i64 (j*2)))
def fC(a0:Int)(f:Int)(j:Int):Option (Int):=
  if(decide ((sb .i64 (FM .i64 (f*f)) 30)>=2147483648))=true then((tn .i64 (sb .i64 (FM .i64 (f*f)) 30) 2).bind fun g=>fB a0 g (FM .i64 ((FM .i64 (j*2))+1)))else(fB a0 (sb .i64 (FM .i64 (f*f)) 30) (FM .i64 (j*2)))
def fD(a0:Int)(f:Int)(j:Int):Option (Int):=
  if(decide ((sb .i64 (FM .i64 (f*f)) 30)>=2147483648))=true then((tn .i64 (sb .i64 (FM .i64 (f*f)) 30) 2).bind fun g=>fC a0 g (FM .i64 ((FM .i64 (j*2))+1)))else(fC a0 (sb .i64 (FM .i64 (f*f)) 30) (FM .i64 (j*2)))
def gl(a0:Int)(a1:Int):Option (Int):=
  if(decide ((sb .i64 (FM .i64 (a1*a1)) 30)>=2147483648))=true then((tn .i64 (sb .i64 (FM .i64 (a1*a1)) 30) 2).bind fun f=>fD a0 f 1)else(fD a0 (sb .i64 (FM .i64 (a1*a1)) 30) 0)
def jJ(a0:Int):Option (Int×Int):=
  if(decide (a0<1))=true then(some (0,2))else((gR (FM .u64 a0)).bind fun f=>if(decide ((FM .i64 (f-1))<=30))=true then((ym .i64 a0 (FM .i64 (30-(FM .i64 (f-1))))).bind fun g=>(gl (FM .i64 (f-1)) g).bind fun j=>some (j,0))else((shrO .i64 a0 (FM .i64 ((FM .i64 (f-1))-30))).bind fun k=>(gl (FM .i64 (f-1)) k).bind fun q=>some (q,0)))
def iJ(a0:(List Int)):Option (Int×Int):=
  (lZ a0).bind fun j=>if(!j)=true then(some (0,1))else(if(decide ((FM .i64 ((a0.length:Int)-1))<0))=true then(some (0,2))else(if((FM .i64 ((a0.length:Int)-1))==0)=true then((dF a0 0).bind fun k=>(jJ k).bind fun f=>some (f.1,f.2))else((dF a0 (FM .i64 ((a0.length:Int)-1))).bind fun q=>(dF a0 (FM .i64 ((FM .i64 ((a0.length:Int)-1))-1))).bind fun r=>(jJ (orI .i64 (shlI .i64 q 30) r)).bind fun g=>some ((FM .i64 (g.1+(FM .i64 (7680*(FM .i64 ((FM .i64 ((a0.length:Int)-1))-1)))))),g.2))))
def kY(a0:bP)(a1:bv)(a2:Int):Option (Int×Int):=
  (ng a1 a0.cf a0.bZ).bind fun f=>if(f.2 != 0)=true then(some (0,f.2))else((iJ f.1.cf).bind fun j=>if(j.2 != 0)=true then(some (0,24))else((iJ f.1.bZ).bind fun g=>if(g.2 != 0)=true then(some (0,g.2))else((jJ a2).bind fun k=>some ((FM .i64 ((FM .i64 ((FM .i64 (2*k.1))+g.1))-j.1)),k.2))))
def kw(a0:Int):Option (Int):=
  some (sb .i64 a0 1)
def mV(a0:Int):Option (Int×Bool):=
  if(decide (a0>=(-16777216)))=true then(some ((FM .i64 (a0*30103)),(decide (a0<=16777216))))else(some ((FM .i64 (a0*30103)),false))
def jy(a0:Int):Option (Int):=
  (mV a0).bind fun f=>if(!f.2)=true then(some 0)else((tn .i64 f.1 256000).bind fun g=>(wP f.1 256000).bind fun j=>if(decide (j<0))=true then(some (FM .i64 (g-1)))else(some g))
def mz(a0:Int):Option (Int):=
  (jy (FM .i64 (0-a0))).bind fun f=>some (FM .i64 (0-f))
def ia(a0:bP)(a1:bv)(a2:Int)(a3:Int)(a4:Int):Option (bo×Int):=
  (dG a0).bind fun r=>if(!r)=true then(some ((bo.mk 0 0),27))else(if(decide (a2<1))=true then(some ((bo.mk 0 0),2))else(if(decide (a2>1073741823))=true then(some ((bo.mk 0 0),2))else((kY a0 a1 a2).bind fun f=>if(f.2 != 0)=true then(some ((bo.mk 0 0),f.2))else((dh a0.bF a3 a4).bind fun g=>if(g.2.2 != 0)=true then(some ((bo.mk 0 0),g.2.2))else((kw (FM .i64 (f.1-2))).bind fun u=>(jy u).bind fun j=>(kw (FM .i64 ((FM .i64 (0-f.1))-6))).bind fun k=>(mz (FM .i64 (0-k))).bind fun q=>some ((bo.mk (FM .i64 (j+g.1)) (FM .i64 (q+g.2.1))),0))))))
def dM(a0:bD)(a2:al)(a1:ah):(Int×(List bo))->Option (dE (Int×(List bo)) ((List bo))):=fun(s1,s2)=>
  if(decide (s1<(a0.fk.length:Int)))=true then((dF a0.fk s1).bind fun k=>(dF a0.kc s1).bind fun q=>(dF a0.gH s1).bind fun r=>(gc a2 k.bw).bind fun u=>(ji a2 k.bw).bind fun g=>(ia a1.bQ q.bW r.bG u g).bind fun f=>if(f.2==0)=true then((rD s2 [f.1] 16).bind fun j=>some (.next ((FM .i64 (s1+1)),j)))else(some (.next ((FM .i64 (s1+1)),s2))))else(some (.stop s2))
def dH(a0:bD)(a1:ah)(a2:al):Option ((List bo)):=
  (cI (dM a0 a2 a1) (0,([]:(List bo)))).bind fun f=>some f
def jo(a0:bo):Option (Bool):=
  some (decide (a0.bu>a0.bd))
def du(a0:(List bo)):Int->Option (dE (Int) ((Unit)⊕(Int))):=fun s1=>
  if(decide (s1<(a0.length:Int)))=true then((dF a0 s1).bind fun f=>(jo f).bind fun g=>if g=true then(some (.stop (.inr s1)))else(some (.next (FM .i64 (s1+1)))))else(some (.stop (.inl ())))
def fh(a0:(List bo)):Option (Int):=
  (cI (du a0) 0).bind fun g=>match g with| .inl _=>(some (-1))| .inr f=>(some f)
def dt(a0:(List bo)):Option (Bool):=
  (fh a0).bind fun f=>some (decide (f>=0))
def jp(a0:bo):Option (Int):=
  some a0.bu
def ip(a0:(List bo)):(Int×(List Int))->Option (dE (Int×(List Int)) ((List Int))):=fun(s1,s2)=>
  if(decide (s1<(a0.length:Int)))=true then((dF a0 s1).bind fun f=>(jp f).bind fun g=>(rD s2 [g] 8).bind fun j=>some (.next ((FM .i64 (s1+1)),j)))else(some (.stop s2))
def gA(a0:(List bo)):Option (Int):=
  (cI (ip a0) (0,([]:(List Int)))).bind fun j=>(tQ j).bind fun f=>(tn .i64 (FM .i64 ((f.length:Int)-1)) 2).bind fun g=>(inO f g).bind fun _=>(dF f g).bind fun k=>some k
def jq(a0:bo):Option (Int):=
  some a0.bd
def iq(a0:(List bo)):(Int×(List Int))->Option (dE (Int×(List Int)) ((List Int))):=fun(s1,s2)=>
  if(decide (s1<(a0.length:Int)))=true then((dF a0 s1).bind fun f=>(jq f).bind fun g=>(rD s2 [g] 8).bind fun j=>some (.next ((FM .i64 (s1+1)),j)))else(some (.stop s2))
def gB(a0:(List bo)):Option (Int):=
  (cI (iq a0) (0,([]:(List Int)))).bind fun j=>(tQ j).bind fun f=>(tn .i64 (FM .i64 ((f.length:Int)-1)) 2).bind fun g=>(inO f g).bind fun _=>(dF f g).bind fun k=>some k
def hJ(a0:(List bo)):Option (bo×Int):=
  if((a0.length:Int)==0)=true then(some ((bo.mk 0 0),24))else((dt a0).bind fun f=>if f=true then(some ((bo.mk 0 0),1))else((gA a0).bind fun g=>(gB a0).bind fun j=>some ((bo.mk g j),0)))
def jb(a0:ah)(a1:ae)(a2:(List aa)):Option (bH×Int):=
  (jG a0 a1 a2).bind fun f=>if(f.2 != 0)=true then(some ((bH.mk [] (ap.mk (ag.mk 0 0 0) 0 0 0 (al.mk (ag.mk 0 0 0) (ag.mk 0 0 0))) (bo.mk 0 0) 0),f.2))else((kZ f.1 a0).bind fun j=>if(j.2 != 0)=true then(some ((bH.mk [] (ap.mk (ag.mk 0 0 0) 0 0 0 (al.mk (ag.mk 0 0 0) (ag.mk 0 0 0))) (bo.mk 0 0) 0),j.2))else((dK j.1 a0.bA).bind fun g=>if(g.2 != 0)=true then(some ((bH.mk [] (ap.mk (ag.mk 0 0 0) 0 0 0 (al.mk (ag.mk 0 0 0) (ag.mk 0 0 0))) (bo.mk 0 0) 0),g.2))else((dH f.1 a0 g.1.ch).bind fun k=>if(decide ((k.length:Int)>0))=true then((hJ k).bind fun q=>if(q.2 != 0)=true then(some ((bH.mk [] (ap.mk (ag.mk 0 0 0) 0 0 0 (al.mk (ag.mk 0 0 0) (ag.mk 0 0 0))) (bo.mk 0 0) 0),q.2))else(some ((bH.mk f.1.gH g.1 q.1 (k.length:Int)),0)))else(some ((bH.mk f.1.gH g.1 (bo.mk 0 0) 0),0)))))
def jI(a0:aa)(a1:aa):Option (Int):=
  (cb a0.bS a1.bS).bind fun f=>(cO a0 a1).bind fun g=>(dC [f,g]).bind fun j=>some j
def c9(a0:(List aa)):(Int×(List UInt8)×(List UInt8)×(List UInt8)×(List UInt8)×Int×Int×Int×Int×Int)->Option (dE (Int×(List UInt8)×(List UInt8)×(List UInt8)×(List UInt8)×Int×Int×Int×Int×Int) ((List UInt8)×(List UInt8)×(List UInt8)×(List UInt8)×Int×Int×Int×Int×Int)):=fun(q,r,u,B,C,D,E,g,j,k)=>
  if(decide (q<(a0.length:Int)))=true then((dF a0 q).bind fun F=>(jI F (aa.mk (bi.mk r u B C) D E g j k)).bind fun G=>if(decide (G<0))=true then((dF a0 q).bind fun f=>some (.next ((FM .i64 (q+1)),f.a7.bI,f.a7.bw,f.a7.ba,f.a7.bM,f.bS,f.bt,f.cg,f.bG,f.bU)))else(some (.next ((FM .i64 (q+1)),r,u,B,C,D,E,g,j,k))))else(some (.stop (r,u,B,C,D,E,g,j,k)))
def ew(a0:(List aa)):Option (aa):=
  if(decide ((a0.length:Int)<1))=true then(none)else((dF a0 0).bind fun g=>(cI (c9 a0) (1,g.a7.bI,g.a7.bw,g.a7.ba,g.a7.bM,g.bS,g.bt,g.cg,g.bG,g.bU)).bind fun f=>some (aa.mk (bi.mk f.1 f.2.1 f.2.2.1 f.2.2.2.1) f.2.2.2.2.1 f.2.2.2.2.2.1 f.2.2.2.2.2.2.1 f.2.2.2.2.2.2.2.1 f.2.2.2.2.2.2.2.2))
def oU(a0:(List aa)):Option (aa):=
  if((a0.length:Int)==0)=true then(some (aa.mk (bi.mk [] [] [] []) 0 0 0 0 0))else((ew a0).bind fun f=>some f)
def lz(a0:ey)(a1:ar)(a2:ar):Option (Int):=
  (jI a1.eV a2.eV).bind fun f=>some f
def ir(a1:Int)(s1:Int):(Int×(List ar))->Option (dE (Int×(List ar)) (Int×(List ar))):=fun(f,g)=>
  if(decide (f>a1))=true then((inO g f).bind fun _=>(dF g f).bind fun k=>(inO g (FM .i64 (f-1))).bind fun _=>(dF g (FM .i64 (f-1))).bind fun q=>(lz (ey.mk ) k q).bind fun r=>if(decide (r<0))=true then((inO g (FM .i64 (f-1))).bind fun _=>(dF g (FM .i64 (f-1))).bind fun u=>(inO g f).bind fun _=>(dF g f).bind fun B=>(inO g f).bind fun _=>(tC g f u).bind fun j=>(inO j (FM .i64 (f-1))).bind fun _=>(tC j (FM .i64 (f-1)) B).bind fun C=>some (.next ((FM .i64 (f-1)),C)))else(some (.stop (s1,g))))else(some (.stop (s1,g)))
def iu(a2:Int)(a1:Int):(Int×(List ar))->Option (dE (Int×(List ar)) ((List ar))):=fun(s1,s2)=>
  if(decide (s1<a2))=true then((cI (ir a1 s1) (s1,s2)).bind fun f=>some (.next ((FM .i64 (f.1+1)),f.2)))else((some s2).bind fun z33=>some (.stop z33))
def dp(a1:Int)(a2:Int)(d0:(List ar)):Option ((List ar)):=
  (cI (iu a2 a1) ((FM .i64 (a1+1)),d0)).bind fun f=>some f
def cv(a2:Int)(a1:Int)(d0:(List ar))(a3:Int):Unit->Option (dE (Unit) ((List ar))):=fun _=>
  if(decide ((FM .i64 (a2-a1))<=12))=true then((dp a1 a2 d0).bind fun f=>some (.stop f))else(if(a3==0)=true then(none)else(none))
def fS:Nat->Int->Int->Int->(List ar)->Option ((List ar))
  |0,_,_,_,_=>none
  |nfu+1,a1,a2,a3,d0=>
  (cI (cv a2 a1 d0 a3) ()).bind fun f=>some f
def cH(a1:Int)(a2:Int)(a3:Int)(d0:(List ar)):Option ((List ar)):=recO fun n=>fS n a1 a2 a3 d0
def dY(d0:(List ar)):Option ((List ar)):=
  (gR (FM .u64 (d0.length:Int))).bind fun f=>(cH 0 (d0.length:Int) f d0).bind fun g=>some g
def mm(j:bB)(C:(List aa)×(List aw)×Int)(u:Int)(B:(List ar)):(Int×(List aa))->Option (dE (Int×(List aa)) (Int×(List ar)×(List aa))):=fun(f,g)=>
  if(decide (f<(j.dg.length:Int)))=true then((dF j.dg f).bind fun k=>(dF C.1 k).bind fun q=>(rD g [q] 104).bind fun r=>some (.next ((FM .i64 (f+1)),r)))else(some (.stop (u,B,g)))
def mn(B:(List bB)×(List Int)×Int)(C:(List aa)×(List aw)×Int)(a0:ah)(a1:ae):(Int×(List ar))->Option (dE (Int×(List ar)) (((List ar))⊕((List ar)×(List aa)×Int))):=fun(j,u)=>
  if(decide (j<(B.1.length:Int)))=true then((dF B.1 j).bind fun k=>(cI (mm k C j u) (0,([]:(List aa)))).bind fun g=>(jb a0 a1 g.2.2).bind fun f=>if(f.2 != 0)=true then(some (.stop (.inr (([]:(List ar)),([]:(List aa)),f.2))))else((oU f.1.ex).bind fun q=>(rD g.2.1 [(ar.mk q f.1)] 248).bind fun r=>some (.next ((FM .i64 (g.1+1)),r))))else(some (.stop (.inl u)))
def mo(r:(List bB)×(List Int)×Int)(u:(List aa)×(List aw)×Int):(Int×(List aa))->Option (dE (Int×(List aa)) ((List aa))):=fun(f,g)=>
  if(decide (f<(r.2.1.length:Int)))=true then((dF r.2.1 f).bind fun j=>(dF u.1 j).bind fun k=>(rD g [k] 104).bind fun q=>some (.next ((FM .i64 (f+1)),q)))else(some (.stop g))
def kl(a0:ah)(a1:ae)(a2:(List aa)):Option ((List ar)×(List aa)×Int):=
  (nF a0 a1 a2).bind fun f=>if(f.2.2 != 0)=true then(some (([]:(List ar)),([]:(List aa)),f.2.2))else((iw a0.ac f.2.1).bind fun g=>if(g.2.2 != 0)=true then(some (([]:(List ar)),([]:(List aa)),g.2.2))else((cI (mn g f a0 a1) (0,([]:(List ar)))).bind fun j=>match j with| .inl u=>((dY u).bind fun r=>(cI (mo g f) (0,([]:(List aa)))).bind fun k=>some (r,k,0))| .inr q=>(some q)))
def iW(a0:ah)(a1:ae)(a2:(List aa)):Option (bq×Int):=
  (kl a0 a1 a2).bind fun f=>if(f.2.2 != 0)=true then(some ((bq.mk [] [] []),f.2.2))else((rU 104 a2).bind fun g=>some ((bq.mk g f.1 f.2.1),0))
def mE(q:(List (List aa))×Int)(a0:ah)(a1:ae):(Int×(List bq))->Option (dE (Int×(List bq)) (((List bq))⊕(av×Int))):=fun(g,k)=>
  if(decide (g<(q.1.length:Int)))=true then((dF q.1 g).bind fun r=>(iW a0 a1 r).bind fun f=>if(f.2 != 0)=true then(some (.stop (.inr ((av.mk (ah.mk (bh.mk (al.mk (ag.mk 0 0 0) (ag.mk 0 0 0)) (bc.mk 0 [] []) 0 0 0 0 0) (bP.mk (bc.mk 0 [] []) 0 0) 0) (ae.mk []) []),f.2))))else((rD k [f.1] 72).bind fun j=>some (.next ((FM .i64 (g+1)),j))))else(some (.stop (.inl k)))
def fm(a0:ah)(a1:ae)(a2:(List aa)):Option (av×Int):=
  (gN a0 a1 a2).bind fun j=>if(j.2 != 0)=true then(some ((av.mk (ah.mk (bh.mk (al.mk (ag.mk 0 0 0) (ag.mk 0 0 0)) (bc.mk 0 [] []) 0 0 0 0 0) (bP.mk (bc.mk 0 [] []) 0 0) 0) (ae.mk []) []),j.2))else((fg a0 a1).bind fun q=>(cI (mE j a0 a1) (0,([]:(List bq)))).bind fun f=>match f with| .inl k=>(some ((av.mk q.bp q.co k),0))| .inr g=>(some g))
def nq(a0:bq):Option ((List aa)):=
  some a0.ex
def fo(a0:av):(Int×(List aa))->Option (dE (Int×(List aa)) ((List aa))):=fun(s1,s2)=>
  if(decide (s1<(a0.bL.length:Int)))=true then((dF a0.bL s1).bind fun f=>(nq f).bind fun g=>(rD s2 g 104).bind fun j=>some (.next ((FM .i64 (s1+1)),j)))else(some (.stop s2))
def jQ(a0:av):Option ((List aa)):=
  (cI (fo a0) (0,([]:(List aa)))).bind fun f=>(da f).bind fun g=>some g
def jD(a0:av):Option ((List aa)):=
  (jQ a0).bind fun f=>some f
def eQ(a0:(List Int))(a1:(List Int)):Int->Option (dE (Int) ((Unit)⊕(Bool))):=fun s2=>
  if(decide (s2<(a0.length:Int)))=true then((dF a0 s2).bind fun f=>(dF a1 s2).bind fun g=>if(f != g)=true then(some (.stop (.inr false)))else(some (.next (FM .i64 (s2+1)))))else(some (.stop (.inl ())))
def la(a0:(List Int))(a1:(List Int)):Option (Bool):=
  if((a0.length:Int) != (a1.length:Int))=true then(some false)else((cI (eQ a0 a1) 0).bind fun g=>match g with| .inl _=>(some true)| .inr f=>(some f))
def ju(a0:bg)(a1:bg):Option (Bool):=
  if(a0.kb==a1.kb)=true then(if((a0.cf.a0==a1.cf.a0)&&((a0.cf.a1==a1.cf.a1)&&((a0.cf.a2==a1.cf.a2)&&true)))=true then(if((a0.bZ.a0==a1.bZ.a0)&&((a0.bZ.a1==a1.bZ.a1)&&((a0.bZ.a2==a1.bZ.a2)&&true)))=true then((la a0.et a1.et).bind fun f=>if f=true then(if(a0.eH==a1.eH)=true then(some (a0.eW==a1.eW))else(some false))else(some false))else(some false))else(some false))else(some false)
def cK(a0:(List bg))(a1:(List bg)):Int->Option (dE (Int) ((Unit)⊕(Bool))):=fun s2=>
  if(decide (s2<(a0.length:Int)))=true then((dF a0 s2).bind fun f=>(dF a1 s2).bind fun g=>(ju f g).bind fun j=>if(!j)=true then(some (.stop (.inr false)))else(some (.next (FM .i64 (s2+1)))))else(some (.stop (.inl ())))
def f7(a0:(List bg))(a1:(List bg)):Option (Bool):=
  if((a0.length:Int) != (a1.length:Int))=true then(some false)else((cI (cK a0 a1) 0).bind fun f=>match f with| .inl _=>(some true)| .inr g=>(some g))
def nh(a0:bv)(a1:bv):Option (Bool):=
  (f7 a0.cS a1.cS).bind fun f=>some f
def jg(a0:ae)(a1:ae)(a2:aa):Option (Bool):=
  (kU a0 a2.a7 a2.bS).bind fun f=>(kU a1 a2.a7 a2.bS).bind fun g=>if(f.2 != 0)=true then(some (!((f.2==0)==(g.2==0))))else(if(g.2 != 0)=true then(some (!((f.2==0)==(g.2==0))))else(if(!((f.1.bV.fX==g.1.bV.fX)&&((f.1.bV.fY==g.1.bV.fY)&&((f.1.bV.fZ==g.1.bV.fZ)&&true))))=true then(some true)else((nh f.1.bW g.1.bW).bind fun j=>some (!j))))
def gy(a0:aa)(d1:Int)(d2:ae)(d3:ae)(d4:(List (aa×Int))):Option (Bool):=
  if((uP oD a0 0 d4) != d1)=true then(some true)else((jg d2 d3 a0).bind fun f=>some f)
def cL(a0:(List aa))(d1:Int)(d2:ae)(d3:ae)(d4:(List (aa×Int))):Int->Option (dE (Int) ((Unit)⊕(Int))):=fun s1=>
  if(decide (s1<(a0.length:Int)))=true then((dF a0 s1).bind fun f=>(gy f d1 d2 d3 d4).bind fun g=>if g=true then(some (.stop (.inr s1)))else(some (.next (FM .i64 (s1+1)))))else(some (.stop (.inl ())))
def f8(a0:(List aa))(d1:Int)(d2:ae)(d3:ae)(d4:(List (aa×Int))):Option (Int):=
  (cI (cL a0 d1 d2 d3 d4) 0).bind fun g=>match g with| .inl _=>(some (-1))| .inr f=>(some f)
def dN(a0:(List aa))(d1:Int)(d2:ae)(d3:ae)(d4:(List (aa×Int))):Option (Bool):=
  (f8 a0 d1 d2 d3 d4).bind fun f=>some (decide (f>=0))
def kg(k:(List aa))(g:Int):(Int×(List (aa×Int)))->Option (dE (Int×(List (aa×Int))) (Int×(List (aa×Int)))):=fun(f,j)=>
  if(decide (f<(k.length:Int)))=true then((dF k f).bind fun q=>some (.next ((FM .i64 (f+1)),(yj oD q (FM .i64 (g+1)) j))))else(some (.stop (g,j)))
def kj(k:(List (List aa))):(Int×(List (aa×Int)))->Option (dE (Int×(List (aa×Int))) ((List (aa×Int)))):=fun(f,j)=>
  if(decide (f<(k.length:Int)))=true then((dF k f).bind fun q=>(cI (kg q f) (0,j)).bind fun g=>some (.next ((FM .i64 (g.1+1)),g.2)))else(some (.stop j))
def kk(r:(List (List aa)))(j:(List (aa×Int)))(u:(List (List aa)))(a3:ae)(a4:ae):(Int×(List Int))->Option (dE (Int×(List Int)) ((List Int))):=fun(f,g)=>
  if(decide (f<(r.length:Int)))=true then((dF r f).bind fun k=>(dF k 0).bind fun q=>if((uP oD q 0 j)==0)=true then((rD g [f] 8).bind fun B=>some (.next ((FM .i64 (f+1)),B)))else((dF u (FM .i64 ((uP oD q 0 j)-1))).bind fun C=>if((C.length:Int) != (k.length:Int))=true then((rD g [f] 8).bind fun D=>some (.next ((FM .i64 (f+1)),D)))else((dN k (uP oD q 0 j) a3 a4 j).bind fun E=>if E=true then((rD g [f] 8).bind fun F=>some (.next ((FM .i64 (f+1)),F)))else(some (.next ((FM .i64 (f+1)),g))))))else(some (.stop g))
def gh(a0:Int)(a1:(List aa))(a2:(List aa))(a3:ae)(a4:ae):Option ((List Int)×Int):=
  if(decide (a0<0))=true then(some (([]:(List Int)),2))else(if(decide (a0>1099511627776))=true then(some (([]:(List Int)),2))else((gi a1).bind fun q=>if(!q)=true then(some (([]:(List Int)),1))else((gi a2).bind fun r=>if(!r)=true then(some (([]:(List Int)),1))else((cM a3).bind fun u=>if(!u)=true then(some (([]:(List Int)),1))else((cM a4).bind fun B=>if(!B)=true then(some (([]:(List Int)),1))else((bT a0 a1).bind fun f=>(cI (kj f) (0,([]:List (aa×Int)))).bind fun g=>(bT a0 a2).bind fun k=>(cI (kk k g f a3 a4) (0,([]:(List Int)))).bind fun j=>some (j,0)))))))
def pI(p:aa):List UInt8:=Go.Lib.join [p.a7.bI,p.a7.bw,p.a7.ba,p.a7.bM] [46]++([p.bS,p.bt,p.cg,p.bG,p.bU].flatMap fun n=>32::Go.Lib.itoa n)++[10]
def smallP(p:aa):Bool:=decide (p.a7.bI.length<=1000∧p.a7.bw.length<=1000∧p.a7.ba.length<=1000∧p.a7.bM.length<=1000)&& [p.bS,p.bt,p.cg,p.bG,p.bU].all fun n=>decide (-9223372036854775808<=n∧n<=9223372036854775807)
def keyO(l:List aa):Option (List UInt8):=if l.length<=1000∧l.all smallP=true then some (l.flatMap pI)else none
def eR(a0:(List Int))(a1:Int):Int->Option (dE (Int) ((Unit)⊕(Int))):=fun s1=>
  if(decide (s1<(a0.length:Int)))=true then((dF a0 s1).bind fun f=>if(a1==f)=true then(some (.stop (.inr s1)))else(some (.next (FM .i64 (s1+1)))))else(some (.stop (.inl ())))
def m6(a0:(List Int))(a1:Int):Option (Int):=
  (cI (eR a0 a1) 0).bind fun f=>match f with| .inl _=>(some (-1))| .inr g=>(some g)
def iB(a0:(List Int))(a1:Int):Option (Bool):=
  (m6 a0 a1).bind fun f=>some (decide (f>=0))
def ij(u:(List ar)):(Int×(List ar))->Option (dE (Int×(List ar)) ((List ar))):=fun(g,j)=>
  if(decide (g<(u.length:Int)))=true then((inO j g).bind fun _=>(dF j g).bind fun k=>(rU 104 k.cV.ex).bind fun q=>(inO j g).bind fun _=>(xx j g (fun(f:ar)=>(ar.mk f.eV (bH.mk q f.cV.ba f.cV.fd f.cV.qH)))).bind fun r=>some (.next ((FM .i64 (g+1)),r)))else(some (.stop j))
def iV(a0:bq):Option (bq):=
  (rU 104 a0.ex).bind fun j=>(rU 104 a0.pr).bind fun k=>(rU 248 a0.gz).bind fun g=>(cI (ij g) (0,g)).bind fun f=>some (bq.mk j f k)
def kD(a0:av):(Int×(List ((List UInt8)×bq)))->Option (dE (Int×(List ((List UInt8)×bq))) ((List ((List UInt8)×bq)))):=fun(g,k)=>
  if(decide (g<(a0.bL.length:Int)))=true then((dF a0.bL g).bind fun f=>(keyO f.ex).bind fun j=>some (.next ((FM .i64 (g+1)),(yj (fun a b=>a==b) j f k))))else(some (.stop k))
def kF(E:(List (List aa))×Int)(F:(List Int)×Int)(q:(List ((List UInt8)×bq)))(a0:av)(a1:ae):(Int×(List bq))->Option (dE (Int×(List bq)) (((List bq))⊕(av×(List Int)×Int))):=fun(f,g)=>
  if(decide (f<(E.1.length:Int)))=true then((dF E.1 f).bind fun k=>(iB F.1 f).bind fun r=>if(!r)=true then((keyO k).bind fun u=>(iV (uP (fun a b=>a==b) u (bq.mk [] [] []) q)).bind fun B=>(rD g [B] 72).bind fun C=>some (.next ((FM .i64 (f+1)),C)))else((iW a0.bp a1 k).bind fun j=>if(j.2 != 0)=true then(some (.stop (.inr ((av.mk (ah.mk (bh.mk (al.mk (ag.mk 0 0 0) (ag.mk 0 0 0)) (bc.mk 0 [] []) 0 0 0 0 0) (bP.mk (bc.mk 0 [] []) 0 0) 0) (ae.mk []) []),([]:(List Int)),j.2))))else((rD g [j.1] 72).bind fun D=>some (.next ((FM .i64 (f+1)),D)))))else(some (.stop (.inl g)))
def eu(a0:av)(a1:ae)(a2:(List aa)):Option (av×(List Int)×Int):=
  (gN a0.bp a1 a2).bind fun r=>if(r.2 != 0)=true then(some ((av.mk (ah.mk (bh.mk (al.mk (ag.mk 0 0 0) (ag.mk 0 0 0)) (bc.mk 0 [] []) 0 0 0 0 0) (bP.mk (bc.mk 0 [] []) 0 0) 0) (ae.mk []) []),([]:(List Int)),r.2))else((jD a0).bind fun B=>(gh a0.bp.ac.cw B a2 a0.co a1).bind fun g=>if(g.2 != 0)=true then(some ((av.mk (ah.mk (bh.mk (al.mk (ag.mk 0 0 0) (ag.mk 0 0 0)) (bc.mk 0 [] []) 0 0 0 0 0) (bP.mk (bc.mk 0 [] []) 0 0) 0) (ae.mk []) []),([]:(List Int)),g.2))else((cI (kD a0) (0,([]:List ((List UInt8)×bq)))).bind fun j=>(fg a0.bp a1).bind fun f=>(cI (kF r g j a0 a1) (0,([]:(List bq)))).bind fun k=>match k with| .inl u=>(some ((av.mk f.bp f.co u),g.1,0))| .inr q=>(some q)))
def nI(a0:(List Int))(a1:(List Int)):Int->Option (dE (Int) ((Unit)⊕(Bool))):=fun s2=>
  if(decide (s2<(a0.length:Int)))=true then((dF a0 s2).bind fun f=>(dF a1 s2).bind fun g=>if(f != g)=true then(some (.stop (.inr false)))else(some (.next (FM .i64 (s2+1)))))else(some (.stop (.inl ())))
def oE(a0:(List Int))(a1:(List Int)):Option (Bool):=
  if((a0.length:Int) != (a1.length:Int))=true then(some false)else((cI (nI a0 a1) 0).bind fun g=>match g with| .inl _=>(some true)| .inr f=>(some f))
def fb(a0:ar)(a1:ar):Option (Int):=
  (jI a0.eV a1.eV).bind fun f=>some f
def jw(a1:Int)(s1:Int):(Int×(List ar))->Option (dE (Int×(List ar)) (Int×(List ar))):=fun(f,g)=>
  if(decide (f>a1))=true then((inO g f).bind fun _=>(dF g f).bind fun k=>(inO g (FM .i64 (f-1))).bind fun _=>(dF g (FM .i64 (f-1))).bind fun q=>(fb k q).bind fun r=>if(decide (r<0))=true then((inO g (FM .i64 (f-1))).bind fun _=>(dF g (FM .i64 (f-1))).bind fun u=>(inO g f).bind fun _=>(dF g f).bind fun B=>(inO g f).bind fun _=>(tC g f u).bind fun j=>(inO j (FM .i64 (f-1))).bind fun _=>(tC j (FM .i64 (f-1)) B).bind fun C=>some (.next ((FM .i64 (f-1)),C)))else(some (.stop (s1,g))))else(some (.stop (s1,g)))
def jx(a2:Int)(a1:Int):(Int×(List ar))->Option (dE (Int×(List ar)) ((List ar))):=fun(s1,s2)=>
  if(decide (s1<a2))=true then((cI (jw a1 s1) (s1,s2)).bind fun f=>some (.next ((FM .i64 (f.1+1)),f.2)))else((some s2).bind fun z33=>some (.stop z33))
def dJ(a1:Int)(a2:Int)(d0:(List ar)):Option ((List ar)):=
  (cI (jx a2 a1) ((FM .i64 (a1+1)),d0)).bind fun f=>some f
def cJ(a2:Int)(a1:Int)(d0:(List ar))(a3:Int):Unit->Option (dE (Unit) ((List ar))):=fun _=>
  if(decide ((FM .i64 (a2-a1))<=12))=true then((dJ a1 a2 d0).bind fun f=>some (.stop f))else(if(a3==0)=true then(none)else(none))
def gE:Nat->Int->Int->Int->(List ar)->Option ((List ar))
  |0,_,_,_,_=>none
  |nfu+1,a1,a2,a3,d0=>
  (cI (cJ a2 a1 d0 a3) ()).bind fun f=>some f
def cW(a1:Int)(a2:Int)(a3:Int)(d0:(List ar)):Option ((List ar)):=recO fun n=>gE n a1 a2 a3 d0
def eI(d0:(List ar)):Option ((List ar)):=
  (gR (FM .u64 (d0.length:Int))).bind fun f=>(cW 0 (d0.length:Int) f d0).bind fun g=>some g
def iz(a0:av):(Int×(List ar))->Option (dE (Int×(List ar)) ((List ar))):=fun(s1,s2)=>
  if(decide (s1<(a0.bL.length:Int)))=true then((dF a0.bL s1).bind fun f=>(iV f).bind fun g=>(rD s2 g.gz 248).bind fun j=>some (.next ((FM .i64 (s1+1)),j)))else(some (.stop s2))
def iT(a0:av):Option ((List ar)):=
  (cI (iz a0) (0,([]:(List ar)))).bind fun f=>(eI f).bind fun g=>some g
def eO(a0:bg)(a1:bg):Int->Option (dE (Int) ((Unit)⊕(Bool))):=fun f=>
  if(decide (f<(a0.et.length:Int)))=true then((dF a0.et f).bind fun g=>(dF a1.et f).bind fun j=>if(g != j)=true then(some (.stop (.inr false)))else(some (.next (FM .i64 (f+1)))))else(some (.stop (.inl ())))
def lK(a0:bg)(a1:bg):Option (Bool):=
  if(a0.kb != a1.kb)=true then(some false)else(if(!((a0.cf.a0==a1.cf.a0)&&((a0.cf.a1==a1.cf.a1)&&((a0.cf.a2==a1.cf.a2)&&true))))=true then(some false)else(if(!((a0.bZ.a0==a1.bZ.a0)&&((a0.bZ.a1==a1.bZ.a1)&&((a0.bZ.a2==a1.bZ.a2)&&true))))=true then(some false)else(if(a0.eH != a1.eH)=true then(some false)else(if(a0.eW != a1.eW)=true then(some false)else(if((a0.et.length:Int) != (a1.et.length:Int))=true then(some false)else((cI (eO a0 a1) 0).bind fun f=>match f with| .inl _=>(some true)| .inr g=>(some g)))))))
def jM(a0:bv)(a1:bv):Int->Option (dE (Int) ((Unit)⊕(Bool))):=fun s2=>
  if(decide (s2<(a0.cS.length:Int)))=true then((dF a0.cS s2).bind fun f=>(dF a1.cS s2).bind fun g=>(lK f g).bind fun j=>if(!j)=true then(some (.stop (.inr false)))else(some (.next (FM .i64 (s2+1)))))else(some (.stop (.inl ())))
def pc(a0:bv)(a1:bv):Option (Bool):=
  if((a0.cS.length:Int) != (a1.cS.length:Int))=true then(some false)else((cI (jM a0 a1) 0).bind fun f=>match f with| .inl _=>(some true)| .inr g=>(some g))
def lL(a0:az)(a1:az):Option (Bool):=
  if(a0.b7==a1.b7)=true then(if(a0.fTo==a1.fTo)=true then(if((a0.np.cf==a1.np.cf)&&((a0.np.bZ==a1.np.bZ)&&true))=true then(if((a0.bV.fX==a1.bV.fX)&&((a0.bV.fY==a1.bV.fY)&&((a0.bV.fZ==a1.bV.fZ)&&true)))=true then((pc a0.bW a1.bW).bind fun f=>some f)else(some false))else(some false))else(some false))else(some false)
def mD(q:aj)(r:aj)(s2:Int):Int->Option (dE (Int) ((Int)⊕(Bool))):=fun f=>
  if(decide (f<(q.cn.length:Int)))=true then((dF q.cn f).bind fun g=>(dF r.cn f).bind fun j=>(lL g j).bind fun k=>if(!k)=true then(some (.stop (.inr false)))else(some (.next (FM .i64 (f+1)))))else(some (.stop (.inl s2)))
def iN(a0:ae)(a1:ae):Int->Option (dE (Int) ((Unit)⊕(Bool))):=fun s2=>
  if(decide (s2<(a0.a8.length:Int)))=true then((dF a0.a8 s2).bind fun f=>(dF a1.a8 s2).bind fun g=>if(!((f.a7.bI==g.a7.bI)&&((f.a7.bw==g.a7.bw)&&((f.a7.ba==g.a7.ba)&&((f.a7.bM==g.a7.bM)&&true)))))=true then(some (.stop (.inr false)))else(if((f.cn.length:Int) != (g.cn.length:Int))=true then(some (.stop (.inr false)))else((cI (mD f g s2) 0).bind fun j=>match j with| .inl q=>(some (.next (FM .i64 (q+1))))| .inr k=>(some (.stop (.inr k))))))else(some (.stop (.inl ())))
def n4(a0:ae)(a1:ae):Option (Bool):=
  if((a0.a8.length:Int) != (a1.a8.length:Int))=true then(some false)else((cI (iN a0 a1) 0).bind fun f=>match f with| .inl _=>(some true)| .inr g=>(some g))
def jN(a0:(List Int))(a1:(List Int)):Int->Option (dE (Int) ((Unit)⊕(Bool))):=fun s2=>
  if(decide (s2<(a0.length:Int)))=true then((dF a0 s2).bind fun f=>(dF a1 s2).bind fun g=>if(f != g)=true then(some (.stop (.inr false)))else(some (.next (FM .i64 (s2+1)))))else(some (.stop (.inl ())))
def n8(a0:(List Int))(a1:(List Int)):Option (Bool):=
  if((a0.length:Int) != (a1.length:Int))=true then(some false)else((cI (jN a0 a1) 0).bind fun g=>match g with| .inl _=>(some true)| .inr f=>(some f))
def jC(a0:bc)(a1:bc):Option (Bool):=
  if(a0.bR==a1.bR)=true then((n8 a0.bu a1.bu).bind fun f=>if f=true then((n8 a0.bd a1.bd).bind fun g=>some g)else(some false))else(some false)
def gu(a0:ah)(a1:ah):Option (Bool):=
  if(((a0.ac.bn.bu.fX==a1.ac.bn.bu.fX)&&((a0.ac.bn.bu.fY==a1.ac.bn.bu.fY)&&((a0.ac.bn.bu.fZ==a1.ac.bn.bu.fZ)&&true)))&&(((a0.ac.bn.bd.fX==a1.ac.bn.bd.fX)&&((a0.ac.bn.bd.fY==a1.ac.bn.bd.fY)&&((a0.ac.bn.bd.fZ==a1.ac.bn.bd.fZ)&&true)))&&true))=true then((jC a0.ac.bJ a1.ac.bJ).bind fun f=>if f=true then(if(a0.ac.dw==a1.ac.dw)=true then(if(a0.ac.bA==a1.ac.bA)=true then(if(a0.ac.cw==a1.ac.cw)=true then(if(a0.ac.dT==a1.ac.dT)=true then(if(a0.ac.cq==a1.ac.cq)=true then((jC a0.bQ.bF a1.bQ.bF).bind fun g=>if g=true then(if(a0.bQ.cf==a1.bQ.cf)=true then(if(a0.bQ.bZ==a1.bQ.bZ)=true then(some (a0.bA==a1.bA))else(some false))else(some false))else(some false))else(some false))else(some false))else(some false))else(some false))else(some false))else(some false))else(some false)
def ek(a0:(List aa))(a1:(List aa)):Int->Option (dE (Int) ((Unit)⊕(Bool))):=fun s2=>
  if(decide (s2<(a0.length:Int)))=true then((dF a0 s2).bind fun f=>(dF a1 s2).bind fun g=>if(!(((f.a7.bI==g.a7.bI)&&((f.a7.bw==g.a7.bw)&&((f.a7.ba==g.a7.ba)&&((f.a7.bM==g.a7.bM)&&true))))&&((f.bS==g.bS)&&((f.bt==g.bt)&&((f.cg==g.cg)&&((f.bG==g.bG)&&((f.bU==g.bU)&&true)))))))=true then(some (.stop (.inr false)))else(some (.next (FM .i64 (s2+1)))))else(some (.stop (.inl ())))
def cB(a0:(List aa))(a1:(List aa)):Option (Bool):=
  if((a0.length:Int) != (a1.length:Int))=true then(some false)else((cI (ek a0 a1) 0).bind fun g=>match g with| .inl _=>(some true)| .inr f=>(some f))
def pf(a0:bH)(a1:bH):Option (Bool):=
  (cB a0.ex a1.ex).bind fun f=>if f=true then(if(((a0.ba.bN.fX==a1.ba.bN.fX)&&((a0.ba.bN.fY==a1.ba.bN.fY)&&((a0.ba.bN.fZ==a1.ba.bN.fZ)&&true)))&&((a0.ba.bS==a1.ba.bS)&&((a0.ba.b8==a1.ba.b8)&&((a0.ba.mp==a1.ba.mp)&&((((a0.ba.ch.bu.fX==a1.ba.ch.bu.fX)&&((a0.ba.ch.bu.fY==a1.ba.ch.bu.fY)&&((a0.ba.ch.bu.fZ==a1.ba.ch.bu.fZ)&&true)))&&(((a0.ba.ch.bd.fX==a1.ba.ch.bd.fX)&&((a0.ba.ch.bd.fY==a1.ba.ch.bd.fY)&&((a0.ba.ch.bd.fZ==a1.ba.ch.bd.fZ)&&true)))&&true))&&true)))))=true then(if((a0.fd.bu==a1.fd.bu)&&((a0.fd.bd==a1.fd.bd)&&true))=true then(some (a0.qH==a1.qH))else(some false))else(some false))else(some false)
def iP(a0:(List ar))(a1:(List ar)):Int->Option (dE (Int) ((Unit)⊕(Bool))):=fun s2=>
  if(decide (s2<(a0.length:Int)))=true then((dF a0 s2).bind fun f=>(dF a1 s2).bind fun g=>if(!(((f.eV.a7.bI==g.eV.a7.bI)&&((f.eV.a7.bw==g.eV.a7.bw)&&((f.eV.a7.ba==g.eV.a7.ba)&&((f.eV.a7.bM==g.eV.a7.bM)&&true))))&&((f.eV.bS==g.eV.bS)&&((f.eV.bt==g.eV.bt)&&((f.eV.cg==g.eV.cg)&&((f.eV.bG==g.eV.bG)&&((f.eV.bU==g.eV.bU)&&true)))))))=true then(some (.stop (.inr false)))else((dF a0 s2).bind fun k=>(dF a1 s2).bind fun q=>(pf k.cV q.cV).bind fun j=>if(!j)=true then(some (.stop (.inr false)))else(some (.next (FM .i64 (s2+1))))))else(some (.stop (.inl ())))
def lT(a0:(List ar))(a1:(List ar)):Option (Bool):=
  if((a0.length:Int) != (a1.length:Int))=true then(some false)else((cI (iP a0 a1) 0).bind fun f=>match f with| .inl _=>(some true)| .inr g=>(some g))
def iR(a0:av)(a1:av):Int->Option (dE (Int) ((Unit)⊕(Bool))):=fun g=>
  if(decide (g<(a0.bL.length:Int)))=true then((dF a0.bL g).bind fun r=>(dF a1.bL g).bind fun f=>(cB r.ex f.ex).bind fun j=>if(!j)=true then(some (.stop (.inr false)))else((cB r.pr f.pr).bind fun k=>if(!k)=true then(some (.stop (.inr false)))else((lT r.gz f.gz).bind fun q=>if(!q)=true then(some (.stop (.inr false)))else(some (.next (FM .i64 (g+1)))))))else(some (.stop (.inl ())))
def n7(a0:av)(a1:av):Option (Bool):=
  if((a0.bL.length:Int) != (a1.bL.length:Int))=true then(some false)else((n4 a0.co a1.co).bind fun j=>if(!j)=true then(some false)else((gu a0.bp a1.bp).bind fun k=>if(!k)=true then(some false)else((cI (iR a0 a1) 0).bind fun f=>match f with| .inl _=>(some true)| .inr g=>(some g))))
def lY:Option (Bool):=
  (kq []).bind fun u=>(dL 2 u).bind fun q=>(gK 3 q.2).bind fun r=>(ge 1).bind fun f=>(fm q.1 r.1 [(aa.mk f 2500 2500 2500 10 0),(aa.mk f 2500 2500 2500 11 0)]).bind fun g=>(eu g.1 r.1 [(aa.mk f 2500 2500 2500 11 0),(aa.mk f 2500 2500 2500 10 0)]).bind fun k=>if(g.2==0)=true then((iT g.1).bind fun B=>if((B.length:Int)==1)=true then(if(k.2.2==0)=true then(if((k.2.1.length:Int)==0)=true then((n7 g.1 k.1).bind fun j=>some j)else(some false))else(some false))else(some false))else(some false)
def kr(a0:(List Int)):Option (Bool):=
  (kq a0).bind fun B=>(dL 3 B).bind fun q=>(gK 6 q.2).bind fun f=>(kM q.1 f.1 8 f.2).bind fun u=>(ge 0).bind fun C=>(fm q.1 f.1 u.1).bind fun g=>(rD u.1 [(aa.mk C 90000 90000 90000 0 0)] 104).bind fun D=>(eu g.1 f.1 D).bind fun r=>if(g.2==0)=true then(if(r.2.2==0)=true then(if((r.1.bL.length:Int)==(FM .i64 ((g.1.bL.length:Int)+1)))=true then((oE r.2.1 [(g.1.bL.length:Int)]).bind fun j=>if j=true then((lY ).bind fun k=>some k)else(some false))else(some false))else(some false))else(some false)
def mR(a1:(List aa)):(Int×(List Int)×Int×(List aa))->Option (dE (Int×(List Int)×Int×(List aa)) ((List Int)×Int×(List aa))):=fun(s1,s2,q,g)=>
  if(decide (s1<(a1.length:Int)))=true then((dm 5 (ai.mk s2 q)).bind fun f=>if(decide (f.1>0))=true then((dF a1 s1).bind fun j=>(rD g [j] 104).bind fun k=>some (.next ((FM .i64 (s1+1)),f.2.fL,f.2.fAt,k)))else(some (.next ((FM .i64 (s1+1)),f.2.fL,f.2.fAt,g))))else(some (.stop (s2,q,g)))
def mf(a1:(List aa))(a2:(List aa))(d0:ai):Option ((List aa)×ai):=
  (cI (mR a1) (0,d0.fL,d0.fAt,([]:(List aa)))).bind fun f=>(dm 2 (ai.mk f.1 f.2.1)).bind fun g=>if(g.1==0)=true then(if(decide ((a2.length:Int)>0))=true then((dm (a2.length:Int) g.2).bind fun j=>(dF a2 j.1).bind fun k=>(rD f.2.2 [k] 104).bind fun q=>some (q,j.2))else(some (f.2.2,g.2)))else(some (f.2.2,g.2))
def me(a1:ae):(Int×(List Int)×Int×(List aj))->Option (dE (Int×(List Int)×Int×(List aj)) ((List Int)×Int×(List aj))):=fun(s1,s2,U,r)=>
  if(decide (s1<(a1.a8.length:Int)))=true then((dF a1.a8 s1).bind fun k=>(rD ([]:List az) k.cn 80).bind fun f=>(dm (f.length:Int) (ai.mk s2 U)).bind fun j=>(dm 10 j.2).bind fun g=>if(g.1==0)=true then((mQ 60 g.2).bind fun u=>(inO f j.1).bind fun _=>(xx f j.1 (fun(q:az)=>(az.mk q.b7 q.fTo q.np u.1 q.bW))).bind fun G=>(rD r [(aj.mk k.a7 G)] 88).bind fun H=>some (.next ((FM .i64 (s1+1)),u.2.fL,u.2.fAt,H)))else(if(g.1==1)=true then((gP g.2).bind fun B=>(inO f j.1).bind fun _=>(xx f j.1 (fun(z26:az)=>(az.mk z26.b7 z26.fTo z26.np z26.bV B.1))).bind fun I=>(rD r [(aj.mk k.a7 I)] 88).bind fun J=>some (.next ((FM .i64 (s1+1)),B.2.fL,B.2.fAt,J)))else(if(g.1==2)=true then((inO f (FM .i64 ((f.length:Int)-1))).bind fun _=>(dF f (FM .i64 ((f.length:Int)-1))).bind fun K=>(dm 4000 g.2).bind fun E=>(ec [1,1000] E.2).bind fun C=>(inO f (FM .i64 ((f.length:Int)-1))).bind fun _=>(xx f (FM .i64 ((f.length:Int)-1)) (fun(z37:az)=>(az.mk z37.b7 (FM .i64 ((FM .i64 (K.b7+1))+(FM .i64 (E.1*C.1)))) z37.np z37.bV z37.bW))).bind fun L=>(rD r [(aj.mk k.a7 L)] 88).bind fun N=>some (.next ((FM .i64 (s1+1)),C.2.fL,C.2.fAt,N)))else(if(g.1==3)=true then(some (.next ((FM .i64 (s1+1)),g.2.fL,g.2.fAt,r)))else(if(g.1==4)=true then((dm 2 g.2).bind fun D=>(inO f j.1).bind fun _=>(xx f j.1 (fun(z45:az)=>(az.mk z45.b7 z45.fTo (cA.mk (FM .i64 (50+D.1)) z45.np.bZ) z45.bV z45.bW))).bind fun F=>(inO F j.1).bind fun _=>(xx F j.1 (fun(z49:az)=>(az.mk z49.b7 z49.fTo (cA.mk z49.np.cf 1) z49.bV z49.bW))).bind fun O=>(rD r [(aj.mk k.a7 O)] 88).bind fun Q=>some (.next ((FM .i64 (s1+1)),D.2.fL,D.2.fAt,Q)))else((rD r [(aj.mk k.a7 f)] 88).bind fun T=>some (.next ((FM .i64 (s1+1)),g.2.fL,g.2.fAt,T))))))))else(some (.stop (s2,U,r)))
def lp(a1:ae)(d0:ai):Option (ae×ai):=
  (cI (me a1) (0,d0.fL,d0.fAt,([]:(List aj)))).bind fun f=>some ((ae.mk f.2.2),(ai.mk f.1 f.2.1))
def nB(a0:bq):Option ((List aa)):=
  some a0.pr
def lc(a0:av):(Int×(List aa))->Option (dE (Int×(List aa)) ((List aa))):=fun(s1,s2)=>
  if(decide (s1<(a0.bL.length:Int)))=true then((dF a0.bL s1).bind fun f=>(nB f).bind fun g=>(rD s2 g 104).bind fun j=>some (.next ((FM .i64 (s1+1)),j)))else(some (.stop s2))
def mF(a0:av):Option ((List aa)):=
  (cI (lc a0) (0,([]:(List aa)))).bind fun f=>(da f).bind fun g=>some g
def pW(a0:av):Option ((List aa)):=
  (mF a0).bind fun f=>some f
def lA(a0:(List UInt8))(a1:(List UInt8)):Option (Int):=
  if(Op.bytesLess a0 a1)=true then(some (-1))else(if(!(Op.bytesLess a0 a1||a0==a1))=true then(some 1)else(some 0))
def qw(a0:bi)(a1:bi):Option (Int):=
  (lA a0.bI a1.bI).bind fun f=>(lA a0.bw a1.bw).bind fun g=>(lA a0.ba a1.ba).bind fun j=>(lA a0.bM a1.bM).bind fun k=>if(f != 0)=true then(some f)else(if(g != 0)=true then(some g)else(if(j != 0)=true then(some j)else(if(k != 0)=true then(some k)else(some 0))))
def qx(a0:aa)(a1:aa):Option (Int):=
  (qw a0.a7 a1.a7).bind fun f=>if(f != 0)=true then(some f)else(if(decide (a0.bS<a1.bS))=true then(some (-1))else(if(decide (a0.bS>a1.bS))=true then(some 1)else(if(decide (a0.bt<a1.bt))=true then(some (-1))else(if(decide (a0.bt>a1.bt))=true then(some 1)else(if(decide (a0.cg<a1.cg))=true then(some (-1))else(if(decide (a0.cg>a1.cg))=true then(some 1)else(if(decide (a0.bG<a1.bG))=true then(some (-1))else(if(decide (a0.bG>a1.bG))=true then(some 1)else(if(decide (a0.bU<a1.bU))=true then(some (-1))else(if(decide (a0.bU>a1.bU))=true then(some 1)else(some 0)))))))))))
end
end Go.Dw.Re
