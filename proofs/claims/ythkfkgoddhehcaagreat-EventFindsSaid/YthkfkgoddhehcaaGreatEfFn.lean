
import Derived.Test.YthkfkgoddhehcaaGreatDwNest
import Derived.Test.YthkfkgoddhehcaaGreatDwSortIP
import Derived.Test.YthkfkgoddhehcaaGreatDwSort
set_option linter.unusedVariables false
set_option linter.unusedSimpArgs false
open Go.IntKind renaming wrap->GV
open Int renaming toNat->G2
open Option renaming bind->OB

namespace Go.Dw.Ef
open Go.Dw
noncomputable section
def ry:Option Bool:=some true
structure aa where
  fX:Int
  fY:Int
  fZ:Int
  deriving DecidableEq
def aa.pd(x:aa):PD:= .agg [.int .i64 x.fX,.int .i64 x.fY,.int .i64 x.fZ]
structure ak where
  bo:aa
  ba:aa
  deriving DecidableEq
def ak.pd(x:ak):PD:= .agg [.int .i64 x.bo.fX,.int .i64 x.bo.fY,.int .i64 x.bo.fZ,.int .i64 x.ba.fX,.int .i64 x.ba.fY,.int .i64 x.ba.fZ]
structure bc where
  b9:Int
  bo:(List Int)
  ba:(List Int)
  deriving DecidableEq
def bc.pd(x:bc):PD:= .agg [.int .i64 x.b9,.lst (x.bo.map (PD.int .i64)),.lst (x.ba.map (PD.int .i64))]
structure aw where
  bt:ak
  bP:bc
  eV:Int
  bD:Int
  df:Int
  dH:Int
  de:Int
  deriving DecidableEq
def aw.pd(x:aw):PD:= .agg [.int .i64 x.bt.bo.fX,.int .i64 x.bt.bo.fY,.int .i64 x.bt.bo.fZ,.int .i64 x.bt.ba.fX,.int .i64 x.bt.ba.fY,.int .i64 x.bt.ba.fZ,.int .i64 x.bP.b9,.lst (x.bP.bo.map (PD.int .i64)),.lst (x.bP.ba.map (PD.int .i64)),.int .i64 x.eV,.int .i64 x.bD,.int .i64 x.df,.int .i64 x.dH,.int .i64 x.de]
structure bK where
  bN:bc
  bR:Int
  bO:Int
  deriving DecidableEq
def bK.pd(x:bK):PD:= .agg [.int .i64 x.bN.b9,.lst (x.bN.bo.map (PD.int .i64)),.lst (x.bN.ba.map (PD.int .i64)),.int .i64 x.bR,.int .i64 x.bO]
structure ai where
  ae:aw
  bX:bK
  bD:Int
  deriving DecidableEq
def ai.pd(x:ai):PD:= .agg [.int .i64 x.ae.bt.bo.fX,.int .i64 x.ae.bt.bo.fY,.int .i64 x.ae.bt.bo.fZ,.int .i64 x.ae.bt.ba.fX,.int .i64 x.ae.bt.ba.fY,.int .i64 x.ae.bt.ba.fZ,.int .i64 x.ae.bP.b9,.lst (x.ae.bP.bo.map (PD.int .i64)),.lst (x.ae.bP.ba.map (PD.int .i64)),.int .i64 x.ae.eV,.int .i64 x.ae.bD,.int .i64 x.ae.df,.int .i64 x.ae.dH,.int .i64 x.ae.de,.int .i64 x.bX.bN.b9,.lst (x.bX.bN.bo.map (PD.int .i64)),.lst (x.bX.bN.ba.map (PD.int .i64)),.int .i64 x.bX.bR,.int .i64 x.bX.bO,.int .i64 x.bD]
structure bn where
  bI:(List UInt8)
  bB:(List UInt8)
  bg:(List UInt8)
  bL:(List UInt8)
  deriving DecidableEq
def bn.pd(x:bn):PD:= .agg [.str x.bI,.str x.bB,.str x.bg,.str x.bL]
structure cd where
  bR:Int
  bO:Int
  deriving DecidableEq
def cd.pd(x:cd):PD:= .agg [.int .i64 x.bR,.int .i64 x.bO]
structure bH where
  a0:Int
  a1:Int
  a2:Int
  deriving DecidableEq
def bH.pd(x:bH):PD:= .agg [.int .i64 x.a0,.int .i64 x.a1,.int .i64 x.a2]
structure bw where
  cU:Int
  bR:bH
  bO:bH
  cx:(List Int)
  b8:Int
  cM:Int
  deriving DecidableEq
def bw.pd(x:bw):PD:= .agg [.int .i64 x.cU,.int .i64 x.bR.a0,.int .i64 x.bR.a1,.int .i64 x.bR.a2,.int .i64 x.bO.a0,.int .i64 x.bO.a1,.int .i64 x.bO.a2,.lst (x.cx.map (PD.int .i64)),.int .i64 x.b8,.int .i64 x.cM]
structure bv where
  bJ:(List bw)
  deriving DecidableEq
def bv.pd(x:bv):PD:= .agg [.lst (x.bJ.map bw.pd)]
structure bi where
  ck:Int
  fTo:Int
  nP:cd
  bW:aa
  b7:bv
  deriving DecidableEq
def bi.pd(x:bi):PD:= .agg [.int .i64 x.ck,.int .i64 x.fTo,.int .i64 x.nP.bR,.int .i64 x.nP.bO,.int .i64 x.bW.fX,.int .i64 x.bW.fY,.int .i64 x.bW.fZ,.lst (x.b7.bJ.map bw.pd)]
structure av where
  az:bn
  bF:(List bi)
  deriving DecidableEq
def av.pd(x:av):PD:= .agg [.str x.az.bI,.str x.az.bB,.str x.az.bg,.str x.az.bL,.lst (x.bF.map bi.pd)]
structure ag where
  bp:(List av)
  deriving DecidableEq
def ag.pd(x:ag):PD:= .agg [.lst (x.bp.map av.pd)]
structure ac where
  az:bn
  bS:Int
  bA:Int
  bY:Int
  bG:Int
  bM:Int
  deriving DecidableEq
def ac.pd(x:ac):PD:= .agg [.str x.az.bI,.str x.az.bB,.str x.az.bg,.str x.az.bL,.int .i64 x.bS,.int .i64 x.bA,.int .i64 x.bY,.int .i64 x.bG,.int .i64 x.bM]
structure pW where
  a0:Int
  a1:Int
  deriving DecidableEq
def pW.pd(x:pW):PD:= .agg [.int .i64 x.a0,.int .i64 x.a1]
structure ah where
  fL:(List Int)
  fAt:Int
  deriving DecidableEq
def ah.pd(x:ah):PD:= .agg [.lst (x.fL.map (PD.int .i64)),.int .i64 x.fAt]
structure al where
  bB:aa
  bA:Int
  bY:Int
  cC:Int
  deriving DecidableEq
def al.pd(x:al):PD:= .agg [.int .i64 x.bB.fX,.int .i64 x.bB.fY,.int .i64 x.bB.fZ,.int .i64 x.bA,.int .i64 x.bY,.int .i64 x.cC]
structure bC where
  ck:Int
  fTo:Int
  deriving DecidableEq
def bC.pd(x:bC):PD:= .agg [.int .i64 x.ck,.int .i64 x.fTo]
structure A4_Int where
  a0:Int
  a1:Int
  a2:Int
  a3:Int
  deriving DecidableEq
def A4_Int.pd(x:A4_Int):PD:= .agg [.int .i64 x.a0,.int .i64 x.a1,.int .i64 x.a2,.int .i64 x.a3]
structure rt where
  a0:pW
  a1:pW
  a2:pW
  a3:pW
  a4:pW
  deriving DecidableEq
def rt.pd(x:rt):PD:= .agg [.int .i64 x.a0.a0,.int .i64 x.a0.a1,.int .i64 x.a1.a0,.int .i64 x.a1.a1,.int .i64 x.a2.a0,.int .i64 x.a2.a1,.int .i64 x.a3.a0,.int .i64 x.a3.a1,.int .i64 x.a4.a0,.int .i64 x.a4.a1]
structure ap where
  bU:aa
  bS:Int
  cA:Int
  ml:Int
  ca:ak
  deriving DecidableEq
def ap.pd(x:ap):PD:= .agg [.int .i64 x.bU.fX,.int .i64 x.bU.fY,.int .i64 x.bU.fZ,.int .i64 x.bS,.int .i64 x.cA,.int .i64 x.ml,.int .i64 x.ca.bo.fX,.int .i64 x.ca.bo.fY,.int .i64 x.ca.bo.fZ,.int .i64 x.ca.ba.fX,.int .i64 x.ca.ba.fY,.int .i64 x.ca.ba.fZ]
structure bh where
  bo:Int
  ba:Int
  deriving DecidableEq
def bh.pd(x:bh):PD:= .agg [.int .i64 x.bo,.int .i64 x.ba]
structure bQ where
  gm:(List ac)
  bg:ap
  ed:bh
  qU:Int
  deriving DecidableEq
def bQ.pd(x:bQ):PD:= .agg [.lst (x.gm.map ac.pd),.int .i64 x.bg.bU.fX,.int .i64 x.bg.bU.fY,.int .i64 x.bg.bU.fZ,.int .i64 x.bg.bS,.int .i64 x.bg.cA,.int .i64 x.bg.ml,.int .i64 x.bg.ca.bo.fX,.int .i64 x.bg.ca.bo.fY,.int .i64 x.bg.ca.bo.fZ,.int .i64 x.bg.ca.ba.fX,.int .i64 x.bg.ca.ba.fY,.int .i64 x.bg.ca.ba.fZ,.int .i64 x.ed.bo,.int .i64 x.ed.ba,.int .i64 x.qU]
structure bd where
  cL:ac
  bT:bQ
  deriving DecidableEq
def bd.pd(x:bd):PD:= .agg [.str x.cL.az.bI,.str x.cL.az.bB,.str x.cL.az.bg,.str x.cL.az.bL,.int .i64 x.cL.bS,.int .i64 x.cL.bA,.int .i64 x.cL.bY,.int .i64 x.cL.bG,.int .i64 x.cL.bM,.lst (x.bT.gm.map ac.pd),.int .i64 x.bT.bg.bU.fX,.int .i64 x.bT.bg.bU.fY,.int .i64 x.bT.bg.bU.fZ,.int .i64 x.bT.bg.bS,.int .i64 x.bT.bg.cA,.int .i64 x.bT.bg.ml,.int .i64 x.bT.bg.ca.bo.fX,.int .i64 x.bT.bg.ca.bo.fY,.int .i64 x.bT.bg.ca.bo.fZ,.int .i64 x.bT.bg.ca.ba.fX,.int .i64 x.bT.bg.ca.ba.fY,.int .i64 x.bT.bg.ca.ba.fZ,.int .i64 x.bT.ed.bo,.int .i64 x.bT.ed.ba,.int .i64 x.bT.qU]
structure bz where
  cf:(List Int)
  bU:aa
  bS:Int
  deriving DecidableEq
def bz.pd(x:bz):PD:= .agg [.lst (x.cf.map (PD.int .i64)),.int .i64 x.bU.fX,.int .i64 x.bU.fY,.int .i64 x.bU.fZ,.int .i64 x.bS]
structure bV where
  qV:(List Int)
  fback:(List Int)
  deriving DecidableEq
def bV.pd(x:bV):PD:= .agg [.lst (x.qV.map (PD.int .i64)),.lst (x.fback.map (PD.int .i64))]
structure aj where
  bt:ak
  bP:bc
  cB:(List al)
  eV:Int
  deriving DecidableEq
def aj.pd(x:aj):PD:= .agg [.int .i64 x.bt.bo.fX,.int .i64 x.bt.bo.fY,.int .i64 x.bt.bo.fZ,.int .i64 x.bt.ba.fX,.int .i64 x.bt.ba.fY,.int .i64 x.bt.ba.fZ,.int .i64 x.bP.b9,.lst (x.bP.bo.map (PD.int .i64)),.lst (x.bP.ba.map (PD.int .i64)),.lst (x.cB.map al.pd),.int .i64 x.eV]
structure aq where
  ey:ak
  cg:Int
  mL:Int
  deriving DecidableEq
def aq.pd(x:aq):PD:= .agg [.int .i64 x.ey.bo.fX,.int .i64 x.ey.bo.fY,.int .i64 x.ey.bo.fZ,.int .i64 x.ey.ba.fX,.int .i64 x.ey.ba.fY,.int .i64 x.ey.ba.fZ,.int .i64 x.cg,.int .i64 x.mL]
structure cj where
  fp:aj
  oD:(List aq)
  mL:Int
  ftaken:Int
  ffound:Bool
  cy:ap
  deriving DecidableEq
def cj.pd(x:cj):PD:= .agg [.int .i64 x.fp.bt.bo.fX,.int .i64 x.fp.bt.bo.fY,.int .i64 x.fp.bt.bo.fZ,.int .i64 x.fp.bt.ba.fX,.int .i64 x.fp.bt.ba.fY,.int .i64 x.fp.bt.ba.fZ,.int .i64 x.fp.bP.b9,.lst (x.fp.bP.bo.map (PD.int .i64)),.lst (x.fp.bP.ba.map (PD.int .i64)),.lst (x.fp.cB.map al.pd),.int .i64 x.fp.eV,.lst (x.oD.map aq.pd),.int .i64 x.mL,.int .i64 x.ftaken,.bool x.ffound,.int .i64 x.cy.bU.fX,.int .i64 x.cy.bU.fY,.int .i64 x.cy.bU.fZ,.int .i64 x.cy.bS,.int .i64 x.cy.cA,.int .i64 x.cy.ml,.int .i64 x.cy.ca.bo.fX,.int .i64 x.cy.ca.bo.fY,.int .i64 x.cy.ca.bo.fZ,.int .i64 x.cy.ca.ba.fX,.int .i64 x.cy.ca.ba.fY,.int .i64 x.cy.ca.ba.fZ]
structure bZ where
  fpicks:(List ac)
  rC:(List al)
  fepochs:(List bi)
  deriving DecidableEq
def bZ.pd(x:bZ):PD:= .agg [.lst (x.fpicks.map ac.pd),.lst (x.rC.map al.pd),.lst (x.fepochs.map bi.pd)]
structure bu where
  bR:(List Int)
  bO:(List Int)
  deriving DecidableEq
def bu.pd(x:bu):PD:= .agg [.lst (x.bR.map (PD.int .i64)),.lst (x.bO.map (PD.int .i64))]
structure eL where
  deriving DecidableEq
def eL.pd(x:eL):PD:= .agg []
structure bq where
  ey:ak
  cg:Int
  gi:Bool
  deriving DecidableEq
def bq.pd(x:bq):PD:= .agg [.int .i64 x.ey.bo.fX,.int .i64 x.ey.bo.fY,.int .i64 x.ey.bo.fZ,.int .i64 x.ey.ba.fX,.int .i64 x.ey.ba.fY,.int .i64 x.ey.ba.fZ,.int .i64 x.cg,.bool x.gi]
def jp(a0:bc):Option (Bool):=
  if(decide ((a0.bo.length:Int)<=300))then(some (decide ((a0.ba.length:Int)<=300)))else(some false)
def pc(a0:ak):Option (Int):=
  if(decide (a0.bo.fX>a0.ba.fX))then(some 0)else(if(decide (a0.bo.fX<(-1048576)))then(some 0)else(if(decide (a0.ba.fX>1048576))then(some 0)else(if(decide ((GV .i64 (a0.ba.fX-a0.bo.fX))>100))then(some 1000)else(if(decide (a0.bo.fY>a0.ba.fY))then(some 0)else(if(decide (a0.bo.fY<(-1048576)))then(some 0)else(if(decide (a0.ba.fY>1048576))then(some 0)else(if(decide ((GV .i64 (a0.ba.fY-a0.bo.fY))>100))then(some 1000)else(if(decide (a0.bo.fZ>a0.ba.fZ))then(some 0)else(if(decide (a0.bo.fZ<(-1048576)))then(some 0)else(if(decide (a0.ba.fZ>1048576))then(some 0)else(if(decide ((GV .i64 (a0.ba.fZ-a0.bo.fZ))>100))then(some 1000)else(some (if 1000<(GV .i64 ((GV .i64 ((GV .i64 (1*(GV .i64 ((GV .i64 (a0.ba.fX-a0.bo.fX))+1))))*(GV .i64 ((GV .i64 (a0.ba.fY-a0.bo.fY))+1))))*(GV .i64 ((GV .i64 (a0.ba.fZ-a0.bo.fZ))+1))))then 1000 else(GV .i64 ((GV .i64 ((GV .i64 (1*(GV .i64 ((GV .i64 (a0.ba.fX-a0.bo.fX))+1))))*(GV .i64 ((GV .i64 (a0.ba.fY-a0.bo.fY))+1))))*(GV .i64 ((GV .i64 (a0.ba.fZ-a0.bo.fZ))+1)))))))))))))))))
def f8(a0:ai):Option (Bool):=
  OB (jp a0.ae.bP) λa=>if a then(OB (jp a0.bX.bN) λc=>if c then(OB (pc a0.ae.bt) λf=>some (decide (f<300)))else(some false))else(some false)
def jK(a0:bv):Int->Option (pH (Int) ((Unit)⊕(Bool))):=λs1=>
  if(decide (s1<(a0.bJ.length:Int)))then(OB (py a0.bJ s1) λa=>if(decide ((a.cx.length:Int)>200))then(some (.stop (.inr false)))else(some (.next (GV .i64 (s1+1)))))else(some (.stop (.inl ())))
def jg(a0:bv):Option (Bool):=
  OB (cI (jK a0) 0) λa=>match a with| .inl _=>(some (decide ((a0.bJ.length:Int)<=12)))| .inr c=>(some c)
def iv(j:av)(a0:ag)(s1:Int):Int->Option (pH (Int) ((Int)⊕(Bool))):=λa=>
  if(decide (a<(j.bF.length:Int)))then(OB (py a0.bp s1) λc=>OB (py c.bF a) λf=>OB (jg f.b7) λg=>if(!g)then(some (.stop (.inr false)))else(some (.next (GV .i64 (a+1)))))else(some (.stop (.inl s1)))
def iw(a0:ag):Int->Option (pH (Int) ((Unit)⊕(Bool))):=λs1=>
  if(decide (s1<(a0.bp.length:Int)))then(OB (py a0.bp s1) λg=>if(decide ((g.bF.length:Int)>10))then(some (.stop (.inr false)))else(OB (py a0.bp s1) λj=>OB (cI (iv j a0 s1) 0) λa=>match a with| .inl f=>(some (.next (GV .i64 (f+1))))| .inr c=>(some (.stop (.inr c)))))else(some (.stop (.inl ())))
def ie(a0:ag):Option (Bool):=
  OB (cI (iw a0) 0) λa=>match a with| .inl _=>(some (decide ((a0.bp.length:Int)<=10)))| .inr c=>(some c)
def sZ(a0:(List Int)):Option (ah):=
  OB (w6 a0 0 (if 2000<(a0.length:Int)then 2000 else(a0.length:Int))) λa=>some (ah.mk a 0)
def sD(d0:ah):Option (Int×ah):=
  if(decide (d0.fAt>=(d0.fL.length:Int)))then(some (0,d0))else(OB (py d0.fL (GV .i64 ((GV .i64 (d0.fAt+1))-1))) λa=>some (a,(ah.mk d0.fL (GV .i64 (d0.fAt+1)))))
def pK(a0:Int)(a1:Int):Option (Int):=
  if(decide (a1<1))then(some 0)else(OB (wO a0 a1) λa=>if(decide (a<0))then(some (GV .i64 (a+a1)))else(some a))
def dS(a1:Int)(d0:ah):Option (Int×ah):=
  OB (sD d0) λa=>OB (pK a.1 a1) λc=>some (c,a.2)
def om(a1:Int)(d0:ah):Option (aa×ah):=
  OB (dS (GV .i64 ((GV .i64 (2*a1))+1)) d0) λa=>OB (dS (GV .i64 ((GV .i64 (2*a1))+1)) a.2) λc=>OB (dS (GV .i64 (a1+1)) c.2) λf=>some ((aa.mk (GV .i64 (a.1-a1)) (GV .i64 (c.1-a1)) f.1),f.2)
def Src_Box(a1:Int)(a2:Int)(d0:ah):Option (ak×ah):=
  OB (om a1 d0) λa=>OB (dS (GV .i64 (a2+1)) a.2) λc=>OB (dS (GV .i64 (a2+1)) c.2) λf=>OB (dS (GV .i64 (a2+1)) f.2) λg=>some ((ak.mk a.1 (aa.mk (GV .i64 (a.1.fX+c.1)) (GV .i64 (a.1.fY+f.1)) (GV .i64 (a.1.fZ+g.1)))),g.2)
def em(a1:(List Int))(d0:ah):Option (Int×ah):=
  OB (dS (a1.length:Int) d0) λa=>OB (py a1 a.1) λc=>some (c,a.2)
def pw(u:Int×ah):(Int×Int×Int×(List Int)×Int×(List Int)×(List Int))->Option (pH (Int×Int×Int×(List Int)×Int×(List Int)×(List Int)) ((List Int)×Int×(List Int)×(List Int))):=fun(s3,j,q,x,y,r,t)=>
  OB (um .i64 400 u.1) λk=>OB (dS 3 (ah.mk x y)) λa=>if(decide (q<=(GV .i64 (k+a.1))))then(OB (tE r [s3] 8) λl=>OB (tE t [j] 8) λp=>OB (em [0,10,20,35] a.2) λc=>OB (um .i64 u.1 4) λf=>OB (em [0,0,5,30] c.2) λg=>some (.next ((GV .i64 (s3+(GV .i64 (c.1+f)))),(GV .i64 ((if(GV .i64 (s3+(GV .i64 (c.1+f))))>j then(GV .i64 (s3+(GV .i64 (c.1+f))))else j)+g.1)),(GV .i64 (q+1)),g.2.fL,g.2.fAt,l,p)))else(some (.stop (a.2.fL,a.2.fAt,r,t)))
def pE(d0:ah):Option (bc×ah):=
  OB (em [20,25,40,100] d0) λc=>OB (dS 3 c.2) λf=>OB (cI (pw c) (0,f.1,0,f.2.fL,f.2.fAt,([]:(List Int)),([]:(List Int)))) λa=>some ((bc.mk c.1 a.2.2.1 a.2.2.2),(ah.mk a.1 a.2.1))
def lY(a1:Int)(d0:ah):Option (aw×ah):=
  OB (Src_Box 20 a1 d0) λa=>OB (pE a.2) λc=>OB (em [10,50,200] c.2) λf=>OB (em [0,0,10,40] f.2) λg=>OB (em [0,50,200,400] g.2) λj=>OB (em [0,5,20] j.2) λk=>OB (dS 2 k.2) λl=>some ((aw.mk a.1 c.1 f.1 g.1 j.1 k.1 (GV .i64 (2+l.1))),l.2)
def pu(r:bc×ah):(Int×(List Int)×(List Int))->Option (pH (Int×(List Int)×(List Int)) ((List Int)×(List Int))):=fun(a,c,f)=>
  if(decide (a<(r.1.bo.length:Int)))then(OB (inO c a) λ_=>OB (py c a) λg=>OB (um .i64 g 3) λj=>OB (inO f a) λ_=>OB (py f a) λk=>OB (um .i64 k 3) λl=>OB (inO c a) λ_=>OB (vd c a j) λp=>OB (inO f a) λ_=>OB (vd f a l) λq=>some (.next ((GV .i64 (a+1)),p,q)))else(some (.stop (c,f)))
def ru(d0:ah):Option (bK×ah):=
  OB (pE d0) λc=>OB (dS 20 c.2) λf=>OB (dS 9 f.2) λg=>OB (cI (pu c) (0,c.1.bo,c.1.ba)) λa=>some ((bK.mk (bc.mk c.1.b9 a.1 a.2) f.1 (GV .i64 (1+g.1))),g.2)
def oc(a1:Int)(d0:ah):Option (ai×ah):=
  OB (lY a1 d0) λa=>OB (ru a.2) λc=>OB (em [0,0,10,40] c.2) λf=>some ((ai.mk a.1 c.1 f.1),f.2)
def la:(Int×(List Int)×Int×(List bw))->Option (pH (Int×(List Int)×Int×(List bw)) ((List Int)×Int×(List bw))):=fun(s2,s3,B,u)=>
  if(decide (s2>0))then(OB (dS 3 (ah.mk s3 B)) λa=>if(a.1==0)then(OB (em [0,1,9,99,1048575] a.2) λj=>OB (em [0,0,2,9,999] j.2) λc=>OB (tE u [(bw.mk a.1 (bH.mk (GV .i64 (1+j.1)) 0 0) (bH.mk (GV .i64 (1+c.1)) 0 0) [] 0 0)] 96) λx=>some (.next ((GV .i64 (s2-1)),c.2.fL,c.2.fAt,x)))else(if(a.1==1)then(OB (dS 5 a.2) λk=>OB (dS 7 k.2) λl=>OB (dS 3 l.2) λp=>OB (dS 5 p.2) λq=>OB (dS 7 q.2) λr=>OB (dS 3 r.2) λf=>OB (tE u [(bw.mk a.1 (bH.mk k.1 (GV .i64 (l.1-3)) (GV .i64 (p.1-1))) (bH.mk (GV .i64 (1+q.1)) r.1 f.1) [] 0 0)] 96) λy=>some (.next ((GV .i64 (s2-1)),f.2.fL,f.2.fAt,y)))else(OB (dS 3 a.2) λt=>OB (dS 4 t.2) λg=>OB (tE u [(bw.mk a.1 (bH.mk 0 0 0) (bH.mk 0 0 0) [(GV .i64 (1+t.1)),2,1] 1 g.1)] 96) λz=>some (.next ((GV .i64 (s2-1)),g.2.fL,g.2.fAt,z)))))else(some (.stop (s3,B,u)))
def i9(d0:ah):Option (bv×ah):=
  OB (dS 4 d0) λc=>OB (cI (la) (c.1,c.2.fL,c.2.fAt,([]:(List bw)))) λa=>some ((bv.mk a.2.2),(ah.mk a.1 a.2.1))
def kf(a0:Int):Option (bn):=
  OB (pK a0 6) λa=>OB (py [[83,49],[83,50],[83,51],[83,52],[83,53],[83,54]] a) λc=>some (bn.mk [65,66] c [48,48] [66,72,90])
def nv(a1:Int):(Int×(List Int)×Int×(List av))->Option (pH (Int×(List Int)×Int×(List av)) ((List Int)×Int×(List av))):=fun(s1,s2,s3,q)=>
  if(decide (s1<a1))then(if(decide (s1<6))then(OB (om 60 (ah.mk s2 s3)) λa=>OB (i9 a.2) λc=>OB (kf s1) λj=>OB (dS 6 c.2) λf=>if(f.1==0)then(OB (dS 500 f.2) λk=>OB (om 60 k.2) λr=>OB (i9 r.2) λl=>OB (inO [(bi.mk 0 100000 (cd.mk 100 1) a.1 c.1)] 0) λ_=>OB (yh [(bi.mk 0 100000 (cd.mk 100 1) a.1 c.1)] 0 (fun(z22:bi)=>(bi.mk z22.ck (GV .i64 (1500+k.1)) z22.nP z22.bW z22.b7))) λt=>OB (tE t [(bi.mk (GV .i64 (1500+k.1)) 100000 (cd.mk 100 1) r.1 l.1)] 80) λu=>OB (tE q [(av.mk j u)] 88) λx=>some (.next ((GV .i64 (s1+1)),l.2.fL,l.2.fAt,x)))else(if(f.1==1)then(OB (dS 1500 f.2) λp=>OB (inO [(bi.mk 0 100000 (cd.mk 100 1) a.1 c.1)] 0) λ_=>OB (yh [(bi.mk 0 100000 (cd.mk 100 1) a.1 c.1)] 0 (fun(g:bi)=>(bi.mk p.1 g.fTo g.nP g.bW g.b7))) λy=>OB (tE q [(av.mk j y)] 88) λz=>some (.next ((GV .i64 (s1+1)),p.2.fL,p.2.fAt,z)))else(OB (tE q [(av.mk j [(bi.mk 0 100000 (cd.mk 100 1) a.1 c.1)])] 88) λB=>some (.next ((GV .i64 (s1+1)),f.2.fL,f.2.fAt,B)))))else(some (.stop (s2,s3,q))))else(some (.stop (s2,s3,q)))
def oq(a1:Int)(d0:ah):Option (ag×ah):=
  OB (cI (nv a1) (0,d0.fL,d0.fAt,([]:(List av)))) λa=>some ((ag.mk a.2.2),(ah.mk a.1 a.2.1))
def oo(a1:Int)(a2:Int)(d0:ah):Option (Int×ah):=
  OB (dS (GV .i64 ((GV .i64 (a2-a1))+1)) d0) λa=>some ((GV .i64 (a1+a.1)),a.2)
def pD(a1:ak)(d0:ah):Option (aa×ah):=
  OB (oo a1.bo.fX a1.ba.fX d0) λa=>OB (oo a1.bo.fY a1.ba.fY a.2) λc=>OB (oo a1.bo.fZ a1.ba.fZ c.2) λf=>some ((aa.mk a.1 c.1 f.1),f.2)
def oF(a:av)(a1:bn)(a2:Int)(s1:Int):Int->Option (pH (Int) ((Int)⊕(aa×Bool))):=λc=>
  if(decide (c<(a.bF.length:Int)))then(OB (py a.bF c) λf=>if((a.az.bI==a1.bI)&&((a.az.bB==a1.bB)&&((a.az.bg==a1.bg)&&((a.az.bL==a1.bL)&&true))))then(if(decide (f.ck<=a2))then(if(decide (a2<f.fTo))then(some (.stop (.inr (f.bW,true))))else(some (.next (GV .i64 (c+1)))))else(some (.next (GV .i64 (c+1)))))else(some (.next (GV .i64 (c+1)))))else(some (.stop (.inl s1)))
def oG(a0:ag)(a1:bn)(a2:Int):Int->Option (pH (Int) ((Unit)⊕(aa×Bool))):=λs1=>
  if(decide (s1<(a0.bp.length:Int)))then(OB (py a0.bp s1) λg=>OB (cI (oF g a1 a2 s1) 0) λa=>match a with| .inl f=>(some (.next (GV .i64 (f+1))))| .inr c=>(some (.stop (.inr c))))else(some (.stop (.inl ())))
def qe(a0:ag)(a1:bn)(a2:Int):Option (aa×Bool):=
  OB (cI (oG a0 a1 a2) 0) λa=>match a with| .inl _=>(some ((aa.mk 0 0 0),false))| .inr c=>(some c)
def rD(a0:Int):Option (Int):=
  some (GV .i64 (a0*a0))
def jz(u:bn)(x:Int×ah)(y:Int×ah)(g:Int)(j:Int)(k:(List Int))(l:Int)(p:(List ac))(q:Int)(r:Int)(t:Int)(a:Int):Option (pH (Int×Int×(List Int)×Int×(List ac)×Int×Int×Int) ((List ac)×(List Int)×Int)):=
  OB (dS 5 (ah.mk k l)) λc=>OB (dS 5 c.2) λf=>OB (tE p [(ac.mk u (GV .i64 (a+c.1)) a (GV .i64 ((GV .i64 (a+c.1))+f.1)) x.1 (GV .i64 (y.1-1)))] 104) λz=>some (.next (g,(GV .i64 (j-1)),f.2.fL,f.2.fAt,z,q,r,t))
def nu(c:aa×Bool)(p:Int)(f:Int)(g:Int)(q:Int)(r:Int)(t:(List ac)):Int->Option (pH (Int) (Int×Int×Int×(List ac)×Int×Int×Int)):=λa=>
  OB (rD (GV .i64 (c.1.fX-p))) λj=>OB (rD (GV .i64 (c.1.fY-f))) λk=>OB (rD (GV .i64 (c.1.fZ-g))) λl=>if(decide ((GV .i64 (a*a))<(GV .i64 ((GV .i64 (j+k))+l))))then(some (.next (GV .i64 (a+1))))else(some (.stop (q,r,a,t,p,f,g)))
def pr(a1:ai)(a2:ag):(Int×Int×(List Int)×Int×(List ac)×Int×Int×Int)->Option (pH (Int×Int×(List Int)×Int×(List ac)×Int×Int×Int) ((List ac)×(List Int)×Int)):=fun(u,x,F,G,y,D,p,q)=>
  if(decide (x>0))then(OB (dS 6 (ah.mk F G)) λz=>OB (kf z.1) λf=>OB (em [0,1,50,1000,1048576] z.2) λg=>OB (dS 3 g.2) λj=>OB (dS 2000 j.2) λk=>OB (dS 6 k.2) λc=>if(c.1==0)then(OB (pD a1.ae.bt c.2) λl=>OB (dS 900 l.2) λr=>jz f g j (GV .i64 (u+r.1)) x r.2.fL r.2.fAt y l.1.fX l.1.fY l.1.fZ (GV .i64 (1000+k.1)))else(if(c.1==1)then(jz f g j u x c.2.fL c.2.fAt y D p q (GV .i64 (1000+k.1)))else(OB (qe a2 f u) λB=>if B.2 then(OB (cI (nu B D p q u x y) 0) λa=>OB (um .i64 a.2.2.1 a1.ae.bP.b9) λC=>OB (py a1.ae.bP.bo (if(GV .i64 ((a1.ae.bP.bo.length:Int)-1))<C then(GV .i64 ((a1.ae.bP.bo.length:Int)-1))else C)) λE=>OB (dS 6 c.2) λt=>jz f g j a.1 a.2.1 t.2.fL t.2.fAt a.2.2.2.1 a.2.2.2.2.1 a.2.2.2.2.2.1 a.2.2.2.2.2.2 (GV .i64 ((GV .i64 (a.1+E))+t.1)))else(jz f g j u x c.2.fL c.2.fAt y D p q (GV .i64 (1000+k.1))))))else(some (.stop (y,F,G)))
def pC(a1:ai)(a2:ag)(a3:Int)(d0:ah):Option ((List ac)×ah):=
  OB (pD a1.ae.bt d0) λc=>OB (dS 500 c.2) λg=>OB (dS (GV .i64 (a3+1)) g.2) λf=>OB (cI (pr a1 a2) ((GV .i64 (1000+g.1)),f.1,f.2.fL,f.2.fAt,([]:(List ac)),c.1.fX,c.1.fY,c.1.fZ)) λa=>some (a.1,(ah.mk a.2.1 a.2.2))
def sw(a1:ak)(d0:ah):Option (ak×ah):=
  OB (em [-1048577, -1048576,0, -16385, -16384,1048576,1048577] d0) λc=>OB (dS 6 c.2) λa=>if(a.1==0)then(some ((ak.mk (aa.mk c.1 a1.bo.fY a1.bo.fZ) a1.ba),a.2))else(if(a.1==1)then(some ((ak.mk (aa.mk a1.bo.fX c.1 a1.bo.fZ) a1.ba),a.2))else(if(a.1==2)then(some ((ak.mk (aa.mk a1.bo.fX a1.bo.fY c.1) a1.ba),a.2))else(if(a.1==3)then(some ((ak.mk a1.bo (aa.mk c.1 a1.ba.fY a1.ba.fZ)),a.2))else(if(a.1==4)then(some ((ak.mk a1.bo (aa.mk a1.ba.fX c.1 a1.ba.fZ)),a.2))else(some ((ak.mk a1.bo (aa.mk a1.ba.fX a1.ba.fY c.1)),a.2))))))
def lJ(a1:bc)(d0:ah):Option (bc×ah):=
  OB (tE ([]:List Int) a1.bo 8) λa=>OB (tE ([]:List Int) a1.ba 8) λc=>if((a.length:Int)==0)then(some ((bc.mk a1.b9 a c),d0))else(if((c.length:Int)==0)then(some ((bc.mk a1.b9 a c),d0))else(OB (dS 6 d0) λf=>if(f.1==0)then(OB (em [-1,0,1,1048576,1048577] f.2) λy=>some ((bc.mk y.1 a c),y.2))else(if(f.1==1)then(OB (dS (a.length:Int) f.2) λx=>OB (em [-1,0,1099511627776,1099511627777] x.2) λj=>OB (inO a x.1) λ_=>OB (vd a x.1 j.1) λl=>some ((bc.mk a1.b9 l c),j.2))else(if(f.1==2)then(OB (dS (c.length:Int) f.2) λg=>OB (em [-1,0,1099511627776,1099511627777] g.2) λk=>OB (inO c g.1) λ_=>OB (vd c g.1 k.1) λp=>some ((bc.mk a1.b9 a p),k.2))else(if(f.1==3)then(OB (w6 a 0 (GV .i64 ((a.length:Int)-1))) λq=>some ((bc.mk a1.b9 q c),f.2))else(if(f.1==4)then(OB (w6 c 1 (c.length:Int)) λr=>some ((bc.mk a1.b9 a r),f.2))else(OB (w6 a 0 1) λt=>OB (w6 c 0 1) λu=>some ((bc.mk a1.b9 t u),f.2))))))))
def k9(a1:ai)(d0:ah):Option (ai×ah):=
  OB (dS 6 d0) λa=>if(a.1==0)then(OB (sw a1.ae.bt a.2) λg=>some ((ai.mk (aw.mk g.1 a1.ae.bP a1.ae.eV a1.ae.bD a1.ae.df a1.ae.dH a1.ae.de) a1.bX a1.bD),g.2))else(if(a.1==1)then(OB (lJ a1.ae.bP a.2) λj=>some ((ai.mk (aw.mk a1.ae.bt j.1 a1.ae.eV a1.ae.bD a1.ae.df a1.ae.dH a1.ae.de) a1.bX a1.bD),j.2))else(if(a.1==2)then(OB (em [-1,0,1099511627776,1099511627777] a.2) λk=>some ((ai.mk (aw.mk a1.ae.bt a1.ae.bP k.1 a1.ae.bD a1.ae.df a1.ae.dH a1.ae.de) a1.bX a1.bD),k.2))else(if(a.1==3)then(OB (em [-1,0,1099511627776,1099511627777] a.2) λl=>some ((ai.mk a1.ae a1.bX l.1),l.2))else(if(a.1==4)then(OB (lJ a1.bX.bN a.2) λc=>some ((ai.mk a1.ae (bK.mk c.1 a1.bX.bR a1.bX.bO) a1.bD),c.2))else(OB (em [-1,0,1,65536,65537] a.2) λf=>some ((ai.mk a1.ae (bK.mk a1.bX.bN a1.bX.bR f.1) a1.bD),f.2))))))
def kd(a1:ag):(Int×(List av))->Option (pH (Int×(List av)) ((List av))):=fun(s1,s2)=>
  if(decide (s1<(a1.bp.length:Int)))then(OB (py a1.bp s1) λa=>OB (tE ([]:List bi) a.bF 80) λc=>OB (tE s2 [(av.mk a.az c)] 88) λf=>some (.next ((GV .i64 (s1+1)),f)))else(some (.stop s2))
def Src_BentP(a1:ag)(d0:ah):Option (ag×ah):=
  OB (cI (kd a1) (0,([]:(List av)))) λa=>if((a.length:Int)==0)then(some ((ag.mk a),d0))else(OB (dS (a.length:Int) d0) λc=>OB (inO a c.1) λ_=>OB (dS 5 c.2) λf=>if(f.1==0)then(OB (yh a c.1 (fun(g:av)=>(av.mk (bn.mk g.az.bI [115] g.az.bg g.az.bL) g.bF))) λj=>some ((ag.mk j),f.2))else(if(f.1==1)then(OB (py a c.1) λk=>OB (py a c.1) λl=>OB (py l.bF 0) λ_=>OB (py k.bF 0) λ_=>none)else(if(f.1==2)then(OB (py a c.1) λp=>OB (py p.bF 0) λ_=>none)else(if(f.1==3)then(OB (inO a 0) λ_=>OB (py a 0) λq=>OB (tE a [q] 88) λr=>some ((ag.mk r),f.2))else(OB (yh a c.1 (fun(z33:av)=>(av.mk z33.az []))) λt=>some ((ag.mk t),f.2))))))
def bentE(j:Int)(e:bi):bi:=if j=1 then⟨e.fTo,e.fTo,e.nP,e.bW,e.b7⟩else⟨e.ck,e.fTo,e.nP,⟨1048577,e.bW.fY,e.bW.fZ⟩,e.b7⟩
def bentW(a1:ag)(d0:ah):Option (ag×ah):=
  if a1.bp.length<=1000∧∀c∈a1.bp,c.bF.length<=1000 then
    OB (dS (a1.bp.length:Int) d0) λx=>OB (dS 5 x.2) λy=>match a1.bp[x.1.toNat]? with
      | some c => (match c.bF with
        |e::r=>if 0<=x.1∧(y.1=1∨y.1=2)then some (⟨a1.bp.set x.1.toNat ⟨c.az,bentE y.1 e::r⟩⟩,y.2)else none
        | []=>none)
      |none=>none
  else none
def dT(a1:ag)(d0:ah):Option (ag×ah):=match Src_BentP a1 d0 with|some r=>some r|none=>bentW a1 d0
def cb(a0:aa):Option (bH):=
  some (bH.mk a0.fX a0.fY a0.fZ)
def er(a0:aa):Option (Bool):=
  OB (cb a0) λa=>if(decide (a.a0<(-1048576)))then(some false)else(if(decide (a.a0>1048576))then(some false)else(if(decide (a.a1<(-1048576)))then(some false)else(if(decide (a.a1>1048576))then(some false)else(if(decide (a.a2<(-16384)))then(some false)else(if(decide (a.a2>1048576))then(some false)else(some true))))))
def co(a0:ak):Option (Bool):=
  OB (er a0.bo) λf=>if(!f)then(some false)else(OB (er a0.ba) λg=>if(!g)then(some false)else(OB (cb a0.ba) λa=>OB (cb a0.bo) λc=>if(decide (c.a0>a.a0))then(some false)else(if(decide (c.a1>a.a1))then(some false)else(if(decide (c.a2>a.a2))then(some false)else(some true)))))
def lI(a0:bc):(Int×Int×Int)->Option (pH (Int×Int×Int) ((Unit)⊕(Int))):=fun(q,r,a)=>
  if(decide (a<(a0.bo.length:Int)))then(OB (py a0.bo a) λc=>if(decide (c<q))then(some (.stop (.inr 21)))else(OB (py a0.ba a) λf=>if(decide (f<r))then(some (.stop (.inr 21)))else(OB (py a0.bo a) λg=>OB (py a0.ba a) λj=>if(decide (g>j))then(some (.stop (.inr 21)))else(OB (py a0.ba a) λk=>if(decide (k>1099511627776))then(some (.stop (.inr 21)))else(OB (py a0.bo a) λl=>OB (py a0.ba a) λp=>some (.next (l,p,(GV .i64 (a+1)))))))))else(some (.stop (.inl ())))
def dO(a0:bc):Option (Int):=
  if(decide (a0.b9<1))then(some 21)else(if(decide (a0.b9>1048576))then(some 21)else(if((a0.bo.length:Int) != (a0.ba.length:Int))then(some 21)else(if(decide ((a0.bo.length:Int)<2))then(some 21)else(if(decide ((a0.bo.length:Int)>256))then(some 21)else(OB (cI (lI a0) (0,0,0)) λa=>match a with| .inl _=>(some 0)| .inr c=>(some c))))))
def ja(a0:Int)(a1:Int)(a2:Int):Option (Bool):=
  if(decide (a0>=a1))then(some (decide (a0<=a2)))else(some false)
def io(a0:al):Option (Bool):=
  OB (er a0.bB) λa=>if a then(if(decide (a0.bA>=0))then(if(decide (a0.bA<=a0.bY))then(if(decide (a0.bY<=18014398509481984))then(if(decide (a0.cC>=1))then(some (decide (a0.cC<=100)))else(some false))else(some false))else(some false))else(some false))else(some false)
def fT(a0:Int)(a1:Int)(a2:Int):Option (Int):=
  some (if 0>(if(GV .i64 (a0-a2))>(GV .i64 (a1-a0))then(GV .i64 (a0-a2))else(GV .i64 (a1-a0)))then 0 else(if(GV .i64 (a0-a2))>(GV .i64 (a1-a0))then(GV .i64 (a0-a2))else(GV .i64 (a1-a0))))
def fI(a0:ak)(a1:aa):Option (Int):=
  OB (co a0) λl=>if(!l)then(some 0)else(OB (er a1) λp=>if(!p)then(some 0)else(OB (cb a0.bo) λc=>OB (cb a0.ba) λf=>OB (cb a1) λg=>OB (fT g.a0 c.a0 f.a0) λj=>OB (fT g.a1 c.a1 f.a1) λk=>OB (fT g.a2 c.a2 f.a2) λa=>some (GV .i64 ((GV .i64 ((GV .i64 (0+(GV .i64 (j*j))))+(GV .i64 (k*k))))+(GV .i64 (a*a))))))
def fN(a0:ak)(a1:aa):Option (Int):=
  OB (fI a0 a1) λa=>some a
def fx(a0:Int)(a1:Int)(a2:Int):Option (Int):=
  some (if(GV .i64 (a0-a1))>(GV .i64 (a2-a0))then(GV .i64 (a0-a1))else(GV .i64 (a2-a0)))
def fy(a0:ak)(a1:aa):Option (Int):=
  OB (co a0) λl=>if(!l)then(some 0)else(OB (er a1) λp=>if(!p)then(some 0)else(OB (cb a0.bo) λc=>OB (cb a0.ba) λf=>OB (cb a1) λg=>OB (fx g.a0 c.a0 f.a0) λj=>OB (fx g.a1 c.a1 f.a1) λk=>OB (fx g.a2 c.a2 f.a2) λa=>some (GV .i64 ((GV .i64 ((GV .i64 (0+(GV .i64 (j*j))))+(GV .i64 (k*k))))+(GV .i64 (a*a))))))
def je(a0:ak)(a1:aa):Option (Int):=
  OB (fy a0 a1) λa=>some a
def lK(a0:bc)(a1:ak)(a2:aa):Option (bc×Int×Int):=
  OB (fN a1 a2) λa=>OB (je a1 a2) λc=>some (a0,a,c)
def eo(a:Int)(c:Int):Option (Int):=
  if(decide (a>=256))then(OB (wb [0,1,2,2,3,3,3,3,4,4,4,4,4,4,4,4,5,5,5,5,5,5,5,5,5,5,5,5,5,5,5,5,6,6,6,6,6,6,6,6,6,6,6,6,6,6,6,6,6,6,6,6,6,6,6,6,6,6,6,6,6,6,6,6,7,7,7,7,7,7,7,7,7,7,7,7,7,7,7,7,7,7,7,7,7,7,7,7,7,7,7,7,7,7,7,7,7,7,7,7,7,7,7,7,7,7,7,7,7,7,7,7,7,7,7,7,7,7,7,7,7,7,7,7,7,7,7,7,8,8,8,8,8,8,8,8,8,8,8,8,8,8,8,8,8,8,8,8,8,8,8,8,8,8,8,8,8,8,8,8,8,8,8,8,8,8,8,8,8,8,8,8,8,8,8,8,8,8,8,8,8,8,8,8,8,8,8,8,8,8,8,8,8,8,8,8,8,8,8,8,8,8,8,8,8,8,8,8,8,8,8,8,8,8,8,8,8,8,8,8,8,8,8,8,8,8,8,8,8,8,8,8,8,8,8,8,8,8,8,8,8,8,8,8,8,8,8,8,8,8,8,8,8,8,8,8] (GV .u8 (tU .u64 a 8))) λf=>some (GV .i64 ((GV .i64 (c+8))+(GV .i64 f))))else(OB (wb [0,1,2,2,3,3,3,3,4,4,4,4,4,4,4,4,5,5,5,5,5,5,5,5,5,5,5,5,5,5,5,5,6,6,6,6,6,6,6,6,6,6,6,6,6,6,6,6,6,6,6,6,6,6,6,6,6,6,6,6,6,6,6,6,7,7,7,7,7,7,7,7,7,7,7,7,7,7,7,7,7,7,7,7,7,7,7,7,7,7,7,7,7,7,7,7,7,7,7,7,7,7,7,7,7,7,7,7,7,7,7,7,7,7,7,7,7,7,7,7,7,7,7,7,7,7,7,7,8,8,8,8,8,8,8,8,8,8,8,8,8,8,8,8,8,8,8,8,8,8,8,8,8,8,8,8,8,8,8,8,8,8,8,8,8,8,8,8,8,8,8,8,8,8,8,8,8,8,8,8,8,8,8,8,8,8,8,8,8,8,8,8,8,8,8,8,8,8,8,8,8,8,8,8,8,8,8,8,8,8,8,8,8,8,8,8,8,8,8,8,8,8,8,8,8,8,8,8,8,8,8,8,8,8,8,8,8,8,8,8,8,8,8,8,8,8,8,8,8,8,8,8,8,8,8,8] (GV .u8 a)) λg=>some (GV .i64 (c+(GV .i64 g))))
def mF(a:Int)(c:Int):Option (Int):=
  if(decide (a>=65536))then(eo (tU .u64 a 16) (GV .i64 (c+16)))else(eo a c)
def sf(a0:Int):Option (Int):=
  if(decide (a0>=4294967296))then(mF (tU .u64 a0 32) 32)else(mF a0 0)
def nN(a0:Int):Option (Int):=
  OB (sf a0) λa=>some a
def jf(a0:Int):(Int×Int)->Option (pH (Int×Int) (Int)):=fun(c,a)=>
  if(decide (a>0))then(OB (um .i64 a0 (orI .i64 c a)) λf=>if(decide ((orI .i64 c a)<=f))then(some (.next ((orI .i64 c a),(tU .i64 a 1))))else(some (.next (c,(tU .i64 a 1)))))else(some (.stop c))
def ir(a0:Int):Option (Int):=
  if(decide (a0<=0))then(some 0)else(OB (nN (GV .u64 a0)) λc=>OB (um .i64 (GV .i64 (c-1)) 2) λf=>OB (yI .i64 1 f) λg=>OB (cI (jf a0) (0,g)) λa=>some a)
def fM(a0:Int):Option (Int):=
  OB (ir a0) λa=>if(decide ((GV .i64 (a*a))<a0))then(some (GV .i64 (a+1)))else(some a)
def ol(a0:bc):Option (Int):=
  some (GV .i64 (a0.b9*(GV .i64 ((a0.bo.length:Int)-1))))
def lH(a0:Int)(d0:bc)(d1:Int):Option (Bool):=
  some (decide ((GV .i64 (a0*d0.b9))>=d1))
def lG(d0:bc)(d1:Int):(Int×Int)->Option (pH (Int×Int) (Int)):=fun(s1,s2)=>
  if(decide (s1<s2))then(OB (lH (GV .i64 (tU .u64 (GV .u64 (GV .i64 (s1+s2))) 1)) d0 d1) λa=>if(!a)then(some (.next ((GV .i64 ((GV .i64 (tU .u64 (GV .u64 (GV .i64 (s1+s2))) 1))+1)),s2)))else(some (.next (s1,(GV .i64 (tU .u64 (GV .u64 (GV .i64 (s1+s2))) 1))))))else(some (.stop s1))
def lz(a0:Int)(d0:bc)(d1:Int):Option (Int):=
  OB (cI (lG d0 d1) (0,a0)) λa=>some a
def fq(a0:bc)(a1:Int)(a2:Int):Option (Int×Int×Int):=
  OB (dO a0) λj=>if(j != 0)then(some (0,0,21))else(if(decide (a1<0))then(some (0,0,2))else(if(decide (a1>a2))then(some (0,0,2))else(OB (fM a2) λg=>OB (ol a0) λk=>if(decide (g>k))then(some (0,0,22))else(OB (lz (a0.ba.length:Int) a0 g) λl=>OB (ir a1) λp=>OB (um .i64 p a0.b9) λa=>OB (py a0.bo a) λc=>OB (py a0.ba l) λf=>some (c,f,0)))))
def dI(a0:bc)(a1:ak)(a2:aa):Option (Int×Int×Int):=
  OB (dO a0) λf=>if(f != 0)then(some (0,0,f))else(OB (co a1) λg=>if(!g)then(some (0,0,20))else(OB (er a2) λj=>if(!j)then(some (0,0,20))else(OB (lK a0 a1 a2) λa=>OB (fq a.1 a.2.1 a.2.2) λc=>some (c.1,c.2.1,c.2.2))))
def jd(a0:bc)(a1:ak)(a2:al):Option (bC×Int):=
  OB (dO a0) λc=>if(c != 0)then(some ((bC.mk 0 0),c))else(OB (co a1) λf=>if(!f)then(some ((bC.mk 0 0),20))else(OB (io a2) λg=>if(!g)then(some ((bC.mk 0 0),23))else(OB (dI a0 a1 a2.bB) λa=>if(a.2.2 != 0)then(some ((bC.mk 0 0),a.2.2))else(some ((bC.mk (GV .i64 (a2.bA-a.2.1)) (GV .i64 (a2.bY-a.1))),0)))))
def dG(a1:(List al))(a0:aw):Int->Option (pH (Int) ((Unit)⊕(Int))):=λa=>
  if(decide (a<(a1.length:Int)))then(OB (py a1 a) λf=>OB (jd a0.bP a0.bt f) λc=>if(c.2 != 0)then(some (.stop (.inr c.2)))else(some (.next (GV .i64 (a+1)))))else(some (.stop (.inl ())))
def ex(a0:aw)(a1:(List al)):Option (Int):=
  OB (co a0.bt) λj=>if(!j)then(some 27)else(OB (dO a0.bP) λk=>if(k != 0)then(some 27)else(OB (ja a0.eV 1 1099511627776) λl=>if(!l)then(some 27)else(OB (ja a0.bD 0 1099511627776) λp=>if(!p)then(some 27)else(OB (ja a0.dH 0 1099511627776) λq=>if(!q)then(some 27)else(OB (ja a0.df 0 1099511627776) λf=>if(!f)then(some 27)else(OB (ja a0.de 2 16) λg=>if(!g)then(some 27)else(if(decide ((a1.length:Int)>256))then(some 8)else(OB (cI (dG a1 a0) 0) λa=>match a with| .inl _=>(some 0)| .inr c=>(some c)))))))))
def dC(a0:bK):Option (Bool):=
  OB (dO a0.bN) λa=>if(a==0)then(if(decide (a0.bR>=0))then(if(decide (a0.bR<=65536))then(if(decide (a0.bO>=1))then(some (decide (a0.bO<=65536)))else(some false))else(some false))else(some false))else(some false)
def ek(a0:ai):Option (Int):=
  OB (ex a0.ae []) λa=>if(a != 0)then(some 27)else(OB (dC a0.bX) λc=>if(!c)then(some 27)else(if(decide (a0.bD<0))then(some 27)else(if(decide (a0.bD>1099511627776))then(some 27)else(some 0))))
def oj(a0:Int):Option (Bool):=
  if(decide (a0>=65))then(if(decide (a0<=90))then(some true)else(if(decide (a0>=48))then(some (decide (a0<=57)))else(some false)))else(if(decide (a0>=48))then(some (decide (a0<=57)))else(some false))
def kZ(a0:(List UInt8)):Int->Option (pH (Int) ((Unit)⊕(Bool))):=λs1=>
  if(decide (s1<(a0.length:Int)))then(OB (wb a0 s1) λa=>OB (oj a) λc=>if(!c)then(some (.stop (.inr false)))else(some (.next (GV .i64 (s1+1)))))else(some (.stop (.inl ())))
def kY(a0:(List UInt8))(a1:Int)(a2:Int):Option (Bool):=
  OB (cI (kZ a0) 0) λc=>match c with| .inl _=>(if(decide ((a0.length:Int)>=a1))then(some (decide ((a0.length:Int)<=a2)))else(some false))| .inr a=>(some a)
def lB(a0:bn):Option (Bool):=
  OB (kY a0.bI 1 2) λa=>if a then(OB (kY a0.bB 1 5) λc=>if c then(OB (kY a0.bg 0 2) λf=>if f then(if((a0.bg.length:Int) != 1)then(OB (kY a0.bL 3 3) λg=>some g)else(some false))else(some false))else(some false))else(some false)
def rJ(a0:Int)(a1:Int)(a2:Int):Option (Bool):=
  if(decide (a0>=a1))then(some (decide (a0<=a2)))else(some false)
def pf:(Int×Int)->Option (pH (Int×Int) (Int)):=fun(s1,s2)=>
  if(s2 != 0)then(OB (wO s1 s2) λa=>some (.next (s2,a)))else(some (.stop s1))
def pP(a0:Int)(a1:Int):Option (Int):=
  OB (cI (pf) (a0,a1)) λa=>some a
def ni(a0:cd):Option (Bool):=
  OB (rJ a0.bR 1 4096) λa=>if a then(OB (rJ a0.bO 1 4096) λc=>if c then(OB (pP a0.bR a0.bO) λf=>some (f==1))else(some false))else(some false)
def cX(a0:Int)(a1:Int)(a2:Int):Option (Bool):=
  if(decide (a0>=a1))then(some (decide (a0<=a2)))else(some false)
def il(a0:Int):Option (Bool):=
  OB (cX a0 (-1048576) 1048576) λa=>some (!a)
def cH(a0:(List Int)):Int->Option (pH (Int) ((Unit)⊕(Int))):=λs1=>
  if(decide (s1<(a0.length:Int)))then(OB (py a0 s1) λa=>OB (il a) λc=>if c then(some (.stop (.inr s1)))else(some (.next (GV .i64 (s1+1)))))else(some (.stop (.inl ())))
def eX(a0:(List Int)):Option (Int):=
  OB (cI (cH a0) 0) λc=>match c with| .inl _=>(some (-1))| .inr a=>(some a)
def ew(a0:(List Int)):Option (Bool):=
  OB (eX a0) λa=>some (decide (a>=0))
def dm(a0:(List Int)):Option (Bool):=
  OB (ew a0) λa=>some (!a)
def jy(a0:(List Int)):(Int×Int)->Option (pH (Int×Int) (Int)):=fun(s1,s2)=>
  if(decide (s2<(a0.length:Int)))then(OB (py a0 s2) λa=>some (.next ((GV .i64 (s1+a)),(GV .i64 (s2+1)))))else(some (.stop s1))
def dU(a0:(List Int)):Option (Int):=
  OB (cI (jy a0) (0,0)) λa=>some a
def dh(a0:bw):Option (Bool):=
  if((a0.cx.length:Int)==0)then(if(a0.b8==0)then(if(a0.cU==0)then(if(a0.cM==0)then(if((a0.bR.a0==a0.bR.a0)&&((a0.bR.a1==0)&&((a0.bR.a2==0)&&true)))then(if((a0.bO.a0==a0.bO.a0)&&((a0.bO.a1==0)&&((a0.bO.a2==0)&&true)))then(OB (cX a0.bR.a0 1 1048576) λD=>if D then(OB (cX a0.bO.a0 1 1048576) λE=>some E)else(some false))else(some false))else(some false))else(some false))else(if(a0.cU==1)then(if(a0.cM==0)then(OB (dm [a0.bR.a0,a0.bR.a1,a0.bR.a2]) λa=>if a then(OB (dm [a0.bO.a0,a0.bO.a1,a0.bO.a2]) λc=>if c then(some (a0.bO.a0 != 0))else(some false))else(some false))else(some false))else(if(a0.cU==2)then(if((a0.bR.a0==0)&&((a0.bR.a1==0)&&((a0.bR.a2==0)&&true)))then(if((a0.bO.a0==0)&&((a0.bO.a1==0)&&((a0.bO.a2==0)&&true)))then(OB (cX (a0.cx.length:Int) 1 128) λf=>if f then(OB (dm a0.cx) λg=>if g then(OB (dU a0.cx) λj=>if(j != 0)then(OB (cX a0.b8 1 64) λk=>if k then(OB (cX a0.cM 0 40) λl=>some l)else(some false))else(some false))else(some false))else(some false))else(some false))else(some false))else(some false))))else(if(a0.cU==0)then(some false)else(if(a0.cU==1)then(some false)else(if(a0.cU==2)then(if((a0.bR.a0==0)&&((a0.bR.a1==0)&&((a0.bR.a2==0)&&true)))then(if((a0.bO.a0==0)&&((a0.bO.a1==0)&&((a0.bO.a2==0)&&true)))then(OB (cX (a0.cx.length:Int) 1 128) λp=>if p then(OB (dm a0.cx) λq=>if q then(OB (dU a0.cx) λr=>if(r != 0)then(OB (cX a0.b8 1 64) λt=>if t then(OB (cX a0.cM 0 40) λu=>some u)else(some false))else(some false))else(some false))else(some false))else(some false))else(some false))else(some false)))))else(if(a0.cU==0)then(some false)else(if(a0.cU==1)then(some false)else(if(a0.cU==2)then(if((a0.bR.a0==0)&&((a0.bR.a1==0)&&((a0.bR.a2==0)&&true)))then(if((a0.bO.a0==0)&&((a0.bO.a1==0)&&((a0.bO.a2==0)&&true)))then(OB (cX (a0.cx.length:Int) 1 128) λx=>if x then(OB (dm a0.cx) λy=>if y then(OB (dU a0.cx) λz=>if(z != 0)then(OB (cX a0.b8 1 64) λB=>if B then(OB (cX a0.cM 0 40) λC=>some C)else(some false))else(some false))else(some false))else(some false))else(some false))else(some false))else(some false))))
def ik(a0:bw):Option (Bool):=
  OB (dh a0) λa=>some (!a)
def cw(a0:(List bw)):Int->Option (pH (Int) ((Unit)⊕(Int))):=λs1=>
  if(decide (s1<(a0.length:Int)))then(OB (py a0 s1) λa=>OB (ik a) λc=>if c then(some (.stop (.inr s1)))else(some (.next (GV .i64 (s1+1)))))else(some (.stop (.inl ())))
def eI(a0:(List bw)):Option (Int):=
  OB (cI (cw a0) 0) λc=>match c with| .inl _=>(some (-1))| .inr a=>(some a)
def cS(a0:(List bw)):Option (Bool):=
  OB (eI a0) λa=>some (decide (a>=0))
def fd(a0:(List bw)):(Int×Int)->Option (pH (Int×Int) ((Int)⊕(Int))):=fun(s1,s2)=>
  if(decide (s2<(a0.length:Int)))then(OB (py a0 s2) λa=>if(a.cU != 2)then(some (.next (s1,(GV .i64 (s2+1)))))else(if(decide ((GV .i64 (s1*a.b8))>64))then(some (.stop (.inr 0)))else(some (.next ((GV .i64 (s1*a.b8)),(GV .i64 (s2+1)))))))else(some (.stop (.inl s1)))
def gx(a0:(List bw)):Option (Int):=
  OB (cI (fd a0) (1,0)) λa=>match a with| .inl f=>(some f)| .inr c=>(some c)
def gf(a0:bv):Option (Bool):=
  if(decide ((a0.bJ.length:Int)>8))then(some false)else(OB (cS a0.bJ) λa=>if a then(some false)else(OB (gx a0.bJ) λc=>some (decide (c>0))))
def fJ(a0:Int)(a1:Int)(a2:Int):Option (Bool):=
  if(decide (a0>=a1))then(some (decide (a0<=a2)))else(some false)
def eD(a0:bi):Option (Bool):=
  if(decide (a0.ck>=0))then(if(decide (a0.ck<a0.fTo))then(if(decide (a0.fTo<=9007199254740992))then(OB (ni a0.nP) λf=>if f then(OB (gf a0.b7) λg=>if g then(OB (fJ a0.bW.fX (-1048576) 1048576) λj=>if j then(OB (fJ a0.bW.fY (-1048576) 1048576) λa=>if a then(OB (fJ a0.bW.fZ (-16384) 1048576) λc=>some c)else(some false))else(some false))else(some false))else(some false))else(some false))else(some false))else(some false)
def dX(a0:(List bi)):Int->Option (pH (Int) ((Unit)⊕(Bool))):=λs1=>
  if(decide (s1<(a0.length:Int)))then(OB (py a0 s1) λa=>OB (eD a) λc=>if(!c)then(some (.stop (.inr false)))else(if(decide (s1>0))then(OB (py a0 (GV .i64 (s1-1))) λf=>if(decide (a.ck<f.fTo))then(some (.stop (.inr false)))else(some (.next (GV .i64 (s1+1)))))else(some (.next (GV .i64 (s1+1))))))else(some (.stop (.inl ())))
def fU(a0:(List bi)):Option (Bool):=
  OB (cI (dX a0) 0) λa=>match a with| .inl _=>(OB (fJ (a0.length:Int) 1 32) λf=>some f)| .inr c=>(some c)
def iq(a0:(List UInt8)):Option (Bool):=
  some (!(a0==a0))
def dV(a0:(List UInt8))(a1:(List UInt8)):Option (Int):=
  OB (iq a0) λc=>OB (iq a1) λa=>if c then(if a then(some 0)else(some (-1)))else(if a then(some 1)else(if(Op.bytesLess a0 a1)then(some (-1))else(if(!(Op.bytesLess a0 a1||a0==a1))then(some 1)else(some 0))))
def eM(a0:(List Int)):Int->Option (pH (Int) ((Unit)⊕(Int))):=λs1=>
  if(decide (s1<(a0.length:Int)))then(OB (py a0 s1) λa=>if(a != 0)then(some (.stop (.inr a)))else(some (.next (GV .i64 (s1+1)))))else(some (.stop (.inl ())))
def dW(a0:(List Int)):Option (Int):=
  OB (cI (eM a0) 0) λa=>match a with| .inl _=>(some 0)| .inr c=>(some c)
def iR(a0:bn)(a1:bn):Option (Int):=
  OB (dV a0.bI a1.bI) λa=>OB (dV a0.bB a1.bB) λc=>OB (dV a0.bg a1.bg) λf=>OB (dV a0.bL a1.bL) λg=>OB (dW [a,c,f,g]) λj=>some j
def ef(a0:ag):Int->Option (pH (Int) ((Unit)⊕(Bool))):=λs1=>
  if(decide (s1<(a0.bp.length:Int)))then(OB (py a0.bp s1) λf=>OB (lB f.az) λg=>if(!g)then(some (.stop (.inr false)))else(OB (fU f.bF) λj=>if(!j)then(some (.stop (.inr false)))else(if(decide (s1>0))then(OB (py a0.bp (GV .i64 (s1-1))) λa=>OB (iR a.az f.az) λc=>if(decide (c>=0))then(some (.stop (.inr false)))else(some (.next (GV .i64 (s1+1)))))else(some (.next (GV .i64 (s1+1)))))))else(some (.stop (.inl ())))
def dJ(a0:ag):Option (Bool):=
  OB (cI (ef a0) 0) λa=>match a with| .inl _=>(some (decide ((a0.bp.length:Int)<=128)))| .inr c=>(some c)
def lL(a0:Int):Option (Bool):=
  some (a0 != a0)
def cn(a0:Int)(a1:Int):Option (Int):=
  OB (lL a0) λc=>OB (lL a1) λa=>if c then(if a then(some 0)else(some (-1)))else(if a then(some 1)else(if(decide (a0<a1))then(some (-1))else(if(decide (a0>a1))then(some 1)else(some 0))))
def cJ(a0:ac)(a1:ac):Option (Int):=
  OB (iR a0.az a1.az) λa=>OB (cn a0.bS a1.bS) λc=>OB (cn a0.bA a1.bA) λf=>OB (cn a0.bY a1.bY) λg=>OB (cn a0.bG a1.bG) λj=>OB (cn a0.bM a1.bM) λk=>OB (dW [a,c,f,g,j,k]) λl=>some l
def iM(s2:Int)(d0:(List ac)):(Int×Int×(List ac))->Option (pH (Int×Int×(List ac)) (Int×(List ac))):=fun(j,c,a)=>
  OB (lenV a.length (0+(s2:Int).toNat) (0+((d0.length:Int):Int).toNat)) λk=>if(decide (c<k))then(OB (inV a.length (0+(s2:Int).toNat) (0+((d0.length:Int):Int).toNat) c) λ_=>OB (py a (((0+(s2:Int).toNat)+(c:Int).toNat:Nat):Int)) λf=>OB (inV a.length (0+(s2:Int).toNat) (0+((d0.length:Int):Int).toNat) (GV .i64 (c-1))) λ_=>OB (py a (((0+(s2:Int).toNat)+((GV .i64 (c-1)):Int).toNat:Nat):Int)) λg=>if(!(((f.az.bI==g.az.bI)&&((f.az.bB==g.az.bB)&&((f.az.bg==g.az.bg)&&((f.az.bL==g.az.bL)&&true))))&&((f.bS==g.bS)&&((f.bA==g.bA)&&((f.bY==g.bY)&&((f.bG==g.bG)&&((f.bM==g.bM)&&true)))))))then(OB (inV a.length (0+(s2:Int).toNat) (0+((d0.length:Int):Int).toNat) c) λ_=>OB (py a (((0+(s2:Int).toNat)+(c:Int).toNat:Nat):Int)) λl=>OB (inO a j) λ_=>OB (vd a j l) λp=>some (.next ((GV .i64 (j+1)),(GV .i64 (c+1)),p)))else(some (.next (j,(GV .i64 (c+1)),a))))else(some (.stop (j,a)))
def iN(d0:(List ac)):Int->Option (pH (Int) ((Unit)⊕((List ac)))):=λs2=>
  if(decide (s2<(d0.length:Int)))then(OB (inO d0 s2) λ_=>OB (py d0 s2) λf=>OB (inO d0 (GV .i64 (s2-1))) λ_=>OB (py d0 (GV .i64 (s2-1))) λc=>if(((f.az.bI==c.az.bI)&&((f.az.bB==c.az.bB)&&((f.az.bg==c.az.bg)&&((f.az.bL==c.az.bL)&&true))))&&((f.bS==c.bS)&&((f.bA==c.bA)&&((f.bY==c.bY)&&((f.bG==c.bG)&&((f.bM==c.bM)&&true))))))then(OB (wQ d0.length s2 (d0.length:Int)) λ_=>OB (cI (iM s2 d0) (s2,1,d0)) λa=>OB (wQ a.2.length a.1 (a.2.length:Int)) λ_=>OB (yK a.2.length (0+(a.1:Int).toNat) (0+((a.2.length:Int):Int).toNat)) λ_=>OB (wQ (w5 a.2 (0+(a.1:Int).toNat) ((0+((a.2.length:Int):Int).toNat)-(0+(a.1:Int).toNat)) (ac.mk (bn.mk [] [] [] []) 0 0 0 0 0)).length 0 a.1) λ_=>OB (xg (w5 a.2 (0+(a.1:Int).toNat) ((0+((a.2.length:Int):Int).toNat)-(0+(a.1:Int).toNat)) (ac.mk (bn.mk [] [] [] []) 0 0 0 0 0)) (0+(0:Int).toNat) (0+(a.1:Int).toNat)) λg=>some (.stop (.inr g)))else(some (.next (GV .i64 (s2+1)))))else(some (.stop (.inl ())))
def eU(d0:(List ac)):Option ((List ac)):=
  if(decide ((d0.length:Int)<2))then(some d0)else(OB (cI (iN d0) 1) λa=>match a with| .inl _=>(some d0)| .inr c=>(some c))
def mu(a0:(List ac)):Option ((List ac)):=
  OB (uK 104 a0) λa=>OB (xH cJ a) λc=>OB (eU c) λf=>some f
def jA(a0:Int)(a1:Int)(a2:Int):Option (Bool):=
  if(decide (a0>=a1))then(some (decide (a0<=a2)))else(some false)
def fb(a0:ac):Option (Bool):=
  OB (lB a0.az) λa=>if a then(if(decide (a0.bA>=0))then(if(decide (a0.bA<=a0.bS))then(if(decide (a0.bS<=a0.bY))then(if(decide (a0.bY<=18014398509481984))then(OB (jA a0.bG 0 1073741823) λc=>if c then(OB (jA a0.bM (-1) 1) λf=>some f)else(some false))else(some false))else(some false))else(some false))else(some false))else(some false)
def fA(g:(List bw)):(Int×(List bw))->Option (pH (Int×(List bw)) ((List bw))):=fun(s2,s3)=>
  if(decide (s2<(g.length:Int)))then(OB (inO s3 s2) λ_=>OB (py s3 s2) λj=>OB (uK 8 j.cx) λc=>OB (inO s3 s2) λ_=>OB (yh s3 s2 (fun(a:bw)=>(bw.mk a.cU a.bR a.bO c a.b8 a.cM))) λf=>some (.next ((GV .i64 (s2+1)),f)))else(some (.stop s3))
def ic(a0:bi):Option (bi):=
  OB (uK 96 a0.b7.bJ) λc=>OB (cI (fA c) (0,c)) λa=>some (bi.mk a0.ck a0.fTo a0.nP a0.bW (bv.mk a))
def gD(f:(List bi)):(Int×(List bi))->Option (pH (Int×(List bi)) ((List bi))):=fun(s2,s3)=>
  if(decide (s2<(f.length:Int)))then(OB (inO s3 s2) λ_=>OB (py s3 s2) λg=>OB (ic g) λa=>OB (inO s3 s2) λ_=>OB (vd s3 s2 a) λc=>some (.next ((GV .i64 (s2+1)),c)))else(some (.stop s3))
def lh(a0:av):Option (av):=
  OB (uK 80 a0.bF) λc=>OB (cI (gD c) (0,c)) λa=>some (av.mk a0.az a)
def jQ(a0:ag)(a1:bn):Int->Option (pH (Int) ((Unit)⊕(av×Bool))):=λs1=>
  if(decide (s1<(a0.bp.length:Int)))then(OB (py a0.bp s1) λa=>if((a.az.bI==a1.bI)&&((a.az.bB==a1.bB)&&((a.az.bg==a1.bg)&&((a.az.bL==a1.bL)&&true))))then(OB (lh a) λc=>some (.stop (.inr (c,true))))else(some (.next (GV .i64 (s1+1)))))else(some (.stop (.inl ())))
def mO(a0:ag)(a1:bn):Option (av×Bool):=
  OB (cI (jQ a0 a1) 0) λc=>match c with| .inl _=>(some ((av.mk (bn.mk [] [] [] []) []),false))| .inr a=>(some a)
def l8(a0:av)(a1:Int):Int->Option (pH (Int) ((Unit)⊕(bi×Bool))):=λs1=>
  if(decide (s1<(a0.bF.length:Int)))then(OB (py a0.bF s1) λa=>if(decide (a.ck<=a1))then(if(decide (a1<a.fTo))then(some (.stop (.inr (a,true))))else(some (.next (GV .i64 (s1+1)))))else(some (.next (GV .i64 (s1+1)))))else(some (.stop (.inl ())))
def oe(a0:av)(a1:Int):Option (bi×Bool):=
  OB (cI (l8 a0 a1) 0) λc=>match c with| .inl _=>(some ((bi.mk 0 0 (cd.mk 0 0) (aa.mk 0 0 0) (bv.mk [])),false))| .inr a=>(some a)
def lg(a0:ag)(a1:bn)(a2:Int):Option (bi×Int):=
  OB (dJ a0) λc=>if(!c)then(some ((bi.mk 0 0 (cd.mk 0 0) (aa.mk 0 0 0) (bv.mk [])),1))else(OB (mO a0 a1) λf=>OB (oe f.1 a2) λa=>if(!a.2)then(some ((bi.mk 0 0 (cd.mk 0 0) (aa.mk 0 0 0) (bv.mk [])),6))else(some (a.1,0)))
def eO(a0:ai)(a1:ag)(a2:ac):Option (al×bi×Bool):=
  OB (fb a2) λc=>if(!c)then(some ((al.mk (aa.mk 0 0 0) 0 0 0),(bi.mk 0 0 (cd.mk 0 0) (aa.mk 0 0 0) (bv.mk [])),false))else(OB (lg a1 a2.az a2.bS) λa=>if(a.2 != 0)then(some ((al.mk (aa.mk 0 0 0) 0 0 0),(bi.mk 0 0 (cd.mk 0 0) (aa.mk 0 0 0) (bv.mk [])),false))else(OB (jd a0.ae.bP a0.ae.bt (al.mk a.1.bW a2.bA a2.bY 1)) λf=>if(f.2 != 0)then(some ((al.mk (aa.mk 0 0 0) 0 0 0),(bi.mk 0 0 (cd.mk 0 0) (aa.mk 0 0 0) (bv.mk [])),false))else(some ((al.mk a.1.bW a2.bA a2.bY 1),a.1,true))))
def mg(a0:ai)(a1:ag)(a2:ac):Option (al×Bool):=
  OB (ek a0) λc=>if(c != 0)then(some ((al.mk (aa.mk 0 0 0) 0 0 0),false))else(OB (dJ a1) λf=>if(!f)then(some ((al.mk (aa.mk 0 0 0) 0 0 0),false))else(OB (eO a0 a1 a2) λa=>some (a.1,a.2.2)))
def ld(p:(List ac))(a0:ai)(a1:ag):(Int×(List ac)×(List al))->Option (pH (Int×(List ac)×(List al)) ((List ac)×(List al))):=fun(f,g,j)=>
  if(decide (f<(p.length:Int)))then(OB (py p f) λa=>OB (mg a0 a1 a) λc=>if c.2 then(OB (tE g [a] 104) λk=>OB (tE j [c.1] 48) λl=>some (.next ((GV .i64 (f+1)),k,l)))else(some (.next ((GV .i64 (f+1)),g,j))))else(some (.stop (g,j)))
def gB(a0:ai)(a1:ag)(a2:(List ac)):Option ((List ac)×(List al)×Int):=
  OB (ek a0) λc=>if(c != 0)then(some (([]:(List ac)),([]:(List al)),27))else(OB (dJ a1) λf=>if(!f)then(some (([]:(List ac)),([]:(List al)),1))else(OB (mu a2) λg=>OB (cI (ld g a0 a1) (0,([]:(List ac)),([]:(List al)))) λa=>if(decide ((a.1.length:Int)>256))then(some (([]:(List ac)),([]:(List al)),8))else(some (a.1,a.2,0))))
def eB(a0:aa)(a1:aa):Option (Int):=
  OB (cn a0.fX a1.fX) λa=>OB (cn a0.fY a1.fY) λc=>OB (cn a0.fZ a1.fZ) λf=>OB (dW [a,c,f]) λg=>some g
def jP(a0:al)(a1:al):Option (Int):=
  OB (cn a0.bA a1.bA) λa=>OB (cn a0.bY a1.bY) λc=>OB (eB a0.bB a1.bB) λf=>OB (cn a0.cC a1.cC) λg=>OB (dW [a,c,f,g]) λj=>some j
def gz(a0:Int)(a1:Int)(d0:(List al)):Option (Int):=
  OB (py d0 a0) λa=>OB (py d0 a1) λc=>OB (jP a c) λf=>some f
def jN(a0:Int)(d1:(List al))(s1:Int):(Int×(List Int))->Option (pH (Int×(List Int)) (Int×(List Int))):=fun(a,c)=>
  if(decide (a>a0))then(OB (inO c a) λ_=>OB (py c a) λg=>OB (inO c (GV .i64 (a-1))) λ_=>OB (py c (GV .i64 (a-1))) λj=>OB (gz g j d1) λk=>if(decide (k<0))then(OB (inO c (GV .i64 (a-1))) λ_=>OB (py c (GV .i64 (a-1))) λl=>OB (inO c a) λ_=>OB (py c a) λp=>OB (inO c a) λ_=>OB (vd c a l) λf=>OB (inO f (GV .i64 (a-1))) λ_=>OB (vd f (GV .i64 (a-1)) p) λq=>some (.next ((GV .i64 (a-1)),q)))else(some (.stop (s1,c))))else(some (.stop (s1,c)))
def jO(a1:Int)(a0:Int)(d1:(List al)):(Int×(List Int))->Option (pH (Int×(List Int)) ((List Int))):=fun(s1,s2)=>
  if(decide (s1<a1))then(OB (cI (jN a0 d1 s1) (s1,s2)) λa=>some (.next ((GV .i64 (a.1+1)),a.2)))else(OB (some s2) λz33=>some (.stop z33))
def di(a0:Int)(a1:Int)(d0:(List Int))(d1:(List al)):Option ((List Int)):=
  OB (cI (jO a1 a0 d1) ((GV .i64 (a0+1)),d0)) λa=>some a
def gQ(a0:Int)(d1:(List al)):(Int×Int×(List Int))->Option (pH (Int×Int×(List Int)) (Int×(List Int))):=fun(s1,s2,s3)=>
  if(decide (s2<=a0))then(OB (di s1 s2 s3 d1) λa=>some (.next (s2,(GV .i64 (s2+20)),a)))else(some (.stop (s1,s3)))
def mD(a:Int)(a0:Int):Unit->Option (pH (Unit) (Int)):=λ_=>
  if(decide ((GV .i64 (2*a))<=a0))then(none)else(some (.stop a))
def gj(a0:Int)(f:(List Int)):Int->Option (pH (Int) ((List Int))):=λc=>
  if(decide (c<a0))then(OB (cI (mD c a0) ()) λa=>if(decide ((GV .i64 (0+a))<a0))then(none)else(some (.next (GV .i64 (a*2)))))else(OB (some f) λz21=>some (.stop z21))
def ej(a0:Int)(d0:(List Int))(d1:(List al)):Option ((List Int)):=
  OB (cI (gQ a0 d1) (0,20,d0)) λa=>OB (di a.1 a0 a.2 d1) λf=>OB (cI (gj a0 f) 20) λc=>some c
def ec(d0:(List Int))(d1:(List al)):Option ((List Int)):=
  OB (ej (d0.length:Int) d0 d1) λa=>some a
def lE(a:(List Int)):(Int×(List Int))->Option (pH (Int×(List Int)) ((List Int))):=fun(s2,s3)=>
  if(decide (s2<(a.length:Int)))then(OB (inO s3 s2) λ_=>OB (vd s3 s2 s2) λc=>some (.next ((GV .i64 (s2+1)),c)))else(some (.stop s3))
def gp(a0:(List al)):Option ((List Int)):=
  OB (mkO (a0.length:Int) 0 8) λf=>OB (cI (lE f) (0,f)) λa=>OB (ec a a0) λc=>some c
def da(F:(List Int))(j:(List ac)×(List al)×Int)(a0:ai):(Int×Int×(List (List ac)))->Option (pH (Int×Int×(List (List ac))) ((List (List ac)))):=fun(G,k,f)=>
  if(decide (k<(F.length:Int)))then(OB (py F k) λg=>if(k==0)then(OB (tE f [[]] 24) λa=>OB (py j.2.1 g) λl=>OB (ye a) λp=>OB (inO a (GV .i64 ((a.length:Int)-1))) λ_=>OB (atO (GV .i64 ((a.length:Int)-1)) (a.length-1)) λ_=>OB (py j.1 g) λq=>OB (tE p [q] 104) λr=>OB (inO a (GV .i64 ((a.length:Int)-1))) λ_=>OB (stO a.length (GV .i64 ((a.length:Int)-1)) (a.length-1)) λ_=>some (.next (l.bA,(GV .i64 (k+1)),(a.set (a.length-1) r))))else(OB (py j.2.1 g) λt=>if(decide ((GV .i64 (t.bA-G))>a0.ae.df))then(OB (tE f [[]] 24) λc=>OB (py j.2.1 g) λu=>OB (ye c) λx=>OB (inO c (GV .i64 ((c.length:Int)-1))) λ_=>OB (atO (GV .i64 ((c.length:Int)-1)) (c.length-1)) λ_=>OB (py j.1 g) λy=>OB (tE x [y] 104) λz=>OB (inO c (GV .i64 ((c.length:Int)-1))) λ_=>OB (stO c.length (GV .i64 ((c.length:Int)-1)) (c.length-1)) λ_=>some (.next (u.bA,(GV .i64 (k+1)),(c.set (c.length-1) z))))else(OB (py j.2.1 g) λB=>OB (ye f) λC=>OB (inO f (GV .i64 ((f.length:Int)-1))) λ_=>OB (atO (GV .i64 ((f.length:Int)-1)) (f.length-1)) λ_=>OB (py j.1 g) λD=>OB (tE C [D] 104) λE=>OB (inO f (GV .i64 ((f.length:Int)-1))) λ_=>OB (stO f.length (GV .i64 ((f.length:Int)-1)) (f.length-1)) λ_=>some (.next (B.bA,(GV .i64 (k+1)),(f.set (f.length-1) E))))))else(some (.stop f))
def eZ(f:(List (List ac))):(Int×(List (List ac)))->Option (pH (Int×(List (List ac))) ((List (List ac)))):=fun(a,c)=>
  if(decide (a<(f.length:Int)))then(OB (py c a) λg=>OB (inO c a) λ_=>OB (atO a (G2 a)) λ_=>OB (xH cJ g) λj=>some (.next ((GV .i64 (a+1)),(c.set (G2 a) j))))else(some (.stop c))
def mI(a0:ai)(a1:ag)(a2:(List ac)):Option ((List (List ac))×Int):=
  OB (gB a0 a1 a2) λc=>if(c.2.2 != 0)then(some (([]:(List (List ac))),c.2.2))else(OB (gp c.2.1) λg=>OB (cI (da g c a0) (0,0,([]:(List (List ac))))) λa=>OB (cI (eZ a) (0,a)) λf=>some (f,0))
def gM(a0:aa):Option (Bool):=
  if(decide (a0.fX>=(-1048576)))then(if(decide (a0.fX<=1048576))then(if(decide (a0.fY>=(-1048576)))then(if(decide (a0.fY<=1048576))then(if(decide (a0.fZ>=(-16384)))then(some (decide (a0.fZ<=1048576)))else(some false))else(some false))else(some false))else(some false))else(some false)
def cK(a0:ak):Option (Bool):=
  OB (gM a0.bo) λa=>if a then(OB (gM a0.ba) λc=>if c then(if(decide (a0.bo.fX<=a0.ba.fX))then(if(decide (a0.bo.fY<=a0.ba.fY))then(some (decide (a0.bo.fZ<=a0.ba.fZ)))else(some false))else(some false))else(some false))else(some false)
def mp(a0:bc):Int->Option (pH (Int) ((Unit)⊕(Int))):=λa=>
  if(decide (a<(a0.bo.length:Int)))then(OB (py a0.bo a) λq=>if(decide (q<0))then(some (.stop (.inr 21)))else(OB (py a0.ba a) λc=>if(decide (c>1099511627776))then(some (.stop (.inr 21)))else(OB (py a0.bo a) λf=>OB (py a0.ba a) λg=>if(decide (f>g))then(some (.stop (.inr 21)))else(if(decide (a>0))then(OB (py a0.bo a) λj=>OB (py a0.bo (GV .i64 (a-1))) λk=>if(decide (j<k))then(some (.stop (.inr 21)))else(OB (py a0.ba a) λl=>OB (py a0.ba (GV .i64 (a-1))) λp=>if(decide (l<p))then(some (.stop (.inr 21)))else(some (.next (GV .i64 (a+1))))))else(some (.next (GV .i64 (a+1))))))))else(some (.stop (.inl ())))
def dK(a0:bc):Option (Int):=
  if(decide (a0.b9<1))then(some 21)else(if(decide (a0.b9>1048576))then(some 21)else(if((a0.bo.length:Int) != (a0.ba.length:Int))then(some 21)else(if(decide ((a0.bo.length:Int)<2))then(some 21)else(if(decide ((a0.bo.length:Int)>256))then(some 21)else(OB (cI (mp a0) 0) λa=>match a with| .inl _=>(some 0)| .inr c=>(some c))))))
def f9(a0:aw):Option (Bool):=
  OB (cK a0.bt) λa=>if a then(OB (dK a0.bP) λc=>if(c==0)then(if(decide (a0.eV>=1))then(if(decide (a0.eV<=1099511627776))then(if(decide (a0.bD>=0))then(if(decide (a0.bD<=1099511627776))then(if(decide (a0.dH>=0))then(if(decide (a0.dH<=1099511627776))then(if(decide (a0.df>=0))then(if(decide (a0.df<=1099511627776))then(if(decide (a0.de>=2))then(some (decide (a0.de<=16)))else(some false))else(some false))else(some false))else(some false))else(some false))else(some false))else(some false))else(some false))else(some false))else(some false))else(some false)
def iI(a0:bK):Option (Bool):=
  OB (dK a0.bN) λa=>if(a==0)then(if(decide (a0.bR>=0))then(if(decide (a0.bR<=65536))then(if(decide (a0.bO>=1))then(some (decide (a0.bO<=65536)))else(some false))else(some false))else(some false))else(some false)
def cr(a0:ai):Option (Int):=
  OB (f9 a0.ae) λa=>if(!a)then(some 27)else(OB (iI a0.bX) λc=>if(!c)then(some 27)else(if(decide (a0.bD<0))then(some 27)else(if(decide (a0.bD>1099511627776))then(some 27)else(some 0))))
def kw(a0:(List UInt8)):Int->Option (pH (Int) ((Unit)⊕(Bool))):=λs1=>
  if(decide (s1<(a0.length:Int)))then(OB (wb a0 s1) λg=>if(decide (g>=65))then(OB (wb a0 s1) λj=>if(decide (j<=90))then(some (.next (GV .i64 (s1+1))))else(OB (wb a0 s1) λk=>if(decide (k>=48))then(OB (wb a0 s1) λa=>if(!(decide (a<=57)))then(some (.stop (.inr false)))else(some (.next (GV .i64 (s1+1)))))else(some (.stop (.inr false)))))else(OB (wb a0 s1) λc=>if(decide (c>=48))then(OB (wb a0 s1) λf=>if(!(decide (f<=57)))then(some (.stop (.inr false)))else(some (.next (GV .i64 (s1+1)))))else(some (.stop (.inr false)))))else(some (.stop (.inl ())))
def ku(a0:(List UInt8))(a1:Int)(a2:Int):Option (Bool):=
  OB (cI (kw a0) 0) λa=>match a with| .inl _=>(if(decide ((a0.length:Int)>=a1))then(some (decide ((a0.length:Int)<=a2)))else(some false))| .inr c=>(some c)
def mw(a0:bn):Option (Bool):=
  OB (ku a0.bI 1 2) λa=>if a then(OB (ku a0.bB 1 5) λc=>if c then(if(a0.bg== [])then(OB (ku a0.bL 3 3) λf=>some f)else(OB (ku a0.bg 2 2) λg=>if g then(OB (ku a0.bL 3 3) λj=>some j)else(some false)))else(some false))else(some false)
def cZ(a0:Int)(a1:Int)(a2:Int):Option (Bool):=
  if(decide (a0>=a1))then(some (decide (a0<=a2)))else(some false)
def tg:(Int×Int)->Option (pH (Int×Int) (Int)):=fun(s1,s2)=>
  if(s2 != 0)then(OB (wO s1 s2) λa=>some (.next (s2,a)))else(some (.stop s1))
def ref02_gcd(a0:Int)(a1:Int):Option (Int):=
  OB (cI (tg) (a0,a1)) λa=>some a
def rb(a0:cd):Option (Bool):=
  OB (cZ a0.bR 1 4096) λa=>if a then(OB (cZ a0.bO 1 4096) λc=>if c then(OB (ref02_gcd a0.bR a0.bO) λf=>some (f==1))else(some false))else(some false)
def kx(a0:(List Int)):Int->Option (pH (Int) ((Unit)⊕(Bool))):=λs1=>
  if(decide (s1<(a0.length:Int)))then(OB (py a0 s1) λa=>OB (cZ a (-1048576) 1048576) λc=>if(!c)then(some (.stop (.inr false)))else(some (.next (GV .i64 (s1+1)))))else(some (.stop (.inl ())))
def iU(a0:(List Int)):Option (Bool):=
  OB (cI (kx a0) 0) λc=>match c with| .inl _=>(some true)| .inr a=>(some a)
def re(a0:(List Int)):(Int×Int)->Option (pH (Int×Int) (Int)):=fun(s1,s2)=>
  if(decide (s2<(a0.length:Int)))then(OB (py a0 s2) λa=>some (.next ((GV .i64 (s1+a)),(GV .i64 (s2+1)))))else(some (.stop s1))
def ky(a0:(List Int)):Option (Int):=
  OB (cI (re a0) (0,0)) λa=>some a
def iA(a0:bw):Option (Bool):=
  if((a0.cx.length:Int)==0)then(if(a0.b8==0)then(if(a0.cU==0)then(if(a0.cM==0)then(OB (cZ a0.bR.a0 1 1048576) λD=>if D then(OB (cZ a0.bO.a0 1 1048576) λE=>if E then(if(a0.bR.a1==0)then(if(a0.bR.a2==0)then(if(a0.bO.a1==0)then(some (a0.bO.a2==0))else(some false))else(some false))else(some false))else(some false))else(some false))else(some false))else(if(a0.cU==1)then(if(a0.cM==0)then(OB (iU [a0.bR.a0,a0.bR.a1,a0.bR.a2]) λa=>if a then(OB (iU [a0.bO.a0,a0.bO.a1,a0.bO.a2]) λc=>if c then(some (a0.bO.a0 != 0))else(some false))else(some false))else(some false))else(if(a0.cU==2)then(if((a0.bR.a0==0)&&((a0.bR.a1==0)&&((a0.bR.a2==0)&&true)))then(if((a0.bO.a0==0)&&((a0.bO.a1==0)&&((a0.bO.a2==0)&&true)))then(OB (cZ (a0.cx.length:Int) 1 128) λf=>if f then(OB (iU a0.cx) λg=>if g then(OB (ky a0.cx) λj=>if(j != 0)then(OB (cZ a0.b8 1 64) λk=>if k then(OB (cZ a0.cM 0 40) λl=>some l)else(some false))else(some false))else(some false))else(some false))else(some false))else(some false))else(some false))))else(if(a0.cU==0)then(some false)else(if(a0.cU==1)then(some false)else(if(a0.cU==2)then(if((a0.bR.a0==0)&&((a0.bR.a1==0)&&((a0.bR.a2==0)&&true)))then(if((a0.bO.a0==0)&&((a0.bO.a1==0)&&((a0.bO.a2==0)&&true)))then(OB (cZ (a0.cx.length:Int) 1 128) λp=>if p then(OB (iU a0.cx) λq=>if q then(OB (ky a0.cx) λr=>if(r != 0)then(OB (cZ a0.b8 1 64) λt=>if t then(OB (cZ a0.cM 0 40) λu=>some u)else(some false))else(some false))else(some false))else(some false))else(some false))else(some false))else(some false)))))else(if(a0.cU==0)then(some false)else(if(a0.cU==1)then(some false)else(if(a0.cU==2)then(if((a0.bR.a0==0)&&((a0.bR.a1==0)&&((a0.bR.a2==0)&&true)))then(if((a0.bO.a0==0)&&((a0.bO.a1==0)&&((a0.bO.a2==0)&&true)))then(OB (cZ (a0.cx.length:Int) 1 128) λx=>if x then(OB (iU a0.cx) λy=>if y then(OB (ky a0.cx) λz=>if(z != 0)then(OB (cZ a0.b8 1 64) λB=>if B then(OB (cZ a0.cM 0 40) λC=>some C)else(some false))else(some false))else(some false))else(some false))else(some false))else(some false))else(some false))))
def ma(a0:bv):(Int×Int)->Option (pH (Int×Int) ((Unit)⊕(Bool))):=fun(s1,s2)=>
  if(decide (s2<(a0.bJ.length:Int)))then(OB (py a0.bJ s2) λc=>OB (iA c) λf=>if(!f)then(some (.stop (.inr false)))else(OB (py a0.bJ s2) λg=>if(g.cU==2)then(OB (py a0.bJ s2) λa=>if(decide ((GV .i64 (s1*a.b8))>64))then(some (.stop (.inr false)))else(some (.next ((GV .i64 (s1*a.b8)),(GV .i64 (s2+1))))))else(some (.next (s1,(GV .i64 (s2+1)))))))else(some (.stop (.inl ())))
def nT(a0:bv):Option (Bool):=
  OB (cI (ma a0) (1,0)) λa=>match a with| .inl _=>(some (decide ((a0.bJ.length:Int)<=8)))| .inr c=>(some c)
def lp(a0:bi):Option (Bool):=
  if(decide (a0.ck>=0))then(if(decide (a0.ck<a0.fTo))then(if(decide (a0.fTo<=9007199254740992))then(OB (rb a0.nP) λf=>if f then(OB (nT a0.b7) λg=>if g then(OB (cZ a0.bW.fX (-1048576) 1048576) λj=>if j then(OB (cZ a0.bW.fY (-1048576) 1048576) λa=>if a then(OB (cZ a0.bW.fZ (-16384) 1048576) λc=>some c)else(some false))else(some false))else(some false))else(some false))else(some false))else(some false))else(some false)
def gT(a0:(List UInt8))(a1:(List UInt8)):Option (Int):=
  if(Op.bytesLess a0 a1)then(some (-1))else(if(!(Op.bytesLess a0 a1||a0==a1))then(some 1)else(some 0))
def lP(a0:bn)(a1:bn):Option (Int):=
  OB (gT a0.bI a1.bI) λa=>OB (gT a0.bB a1.bB) λc=>OB (gT a0.bg a1.bg) λf=>OB (gT a0.bL a1.bL) λg=>if(a != 0)then(some a)else(if(c != 0)then(some c)else(if(f != 0)then(some f)else(if(g != 0)then(some g)else(some 0))))
def jv(c:av)(s1:Int):Int->Option (pH (Int) ((Int)⊕(Bool))):=λa=>
  if(decide (a<(c.bF.length:Int)))then(OB (py c.bF a) λk=>OB (lp k) λf=>if(!f)then(some (.stop (.inr false)))else(if(decide (a>0))then(OB (py c.bF a) λg=>OB (py c.bF (GV .i64 (a-1))) λj=>if(decide (g.ck<j.fTo))then(some (.stop (.inr false)))else(some (.next (GV .i64 (a+1)))))else(some (.next (GV .i64 (a+1))))))else(some (.stop (.inl s1)))
def n7(g:av)(s1:Int):Option (pH (Int) ((Unit)⊕(Bool))):=
  OB (cI (jv g s1) 0) λa=>match a with| .inl f=>(some (.next (GV .i64 (f+1))))| .inr c=>(some (.stop (.inr c)))
def jw(a0:ag):Int->Option (pH (Int) ((Unit)⊕(Bool))):=λs1=>
  if(decide (s1<(a0.bp.length:Int)))then(OB (py a0.bp s1) λa=>OB (mw a.az) λc=>if(!c)then(some (.stop (.inr false)))else(if(decide (s1>0))then(OB (py a0.bp (GV .i64 (s1-1))) λf=>OB (lP f.az a.az) λg=>if(decide (g>=0))then(some (.stop (.inr false)))else(OB (cZ (a.bF.length:Int) 1 32) λj=>if(!j)then(some (.stop (.inr false)))else(n7 a s1)))else(OB (cZ (a.bF.length:Int) 1 32) λk=>if(!k)then(some (.stop (.inr false)))else(n7 a s1))))else(some (.stop (.inl ())))
def gL(a0:ag):Option (Bool):=
  OB (cI (jw a0) 0) λa=>match a with| .inl _=>(some (decide ((a0.bp.length:Int)<=128)))| .inr c=>(some c)
def lT(a0:ac)(a1:ac):Option (Int):=
  OB (lP a0.az a1.az) λa=>if(a != 0)then(some a)else(if(decide (a0.bS<a1.bS))then(some (-1))else(if(decide (a0.bS>a1.bS))then(some 1)else(if(decide (a0.bA<a1.bA))then(some (-1))else(if(decide (a0.bA>a1.bA))then(some 1)else(if(decide (a0.bY<a1.bY))then(some (-1))else(if(decide (a0.bY>a1.bY))then(some 1)else(if(decide (a0.bG<a1.bG))then(some (-1))else(if(decide (a0.bG>a1.bG))then(some 1)else(if(decide (a0.bM<a1.bM))then(some (-1))else(if(decide (a0.bM>a1.bM))then(some 1)else(some 0)))))))))))
def mU(s2:(List ac))(a0:(List ac))(s1:Int):Int->Option (pH (Int) (Int×Int×(List ac))):=λa=>
  if(decide (a>0))then(OB (inO s2 (GV .i64 (a-1))) λ_=>OB (py s2 (GV .i64 (a-1))) λc=>OB (py a0 s1) λf=>OB (lT c f) λg=>if(decide (g>0))then(some (.next (GV .i64 (a-1))))else(some (.stop (s1,a,s2))))else(some (.stop (s1,a,s2)))
def iD(a0:(List ac))(a:Int×Int×(List ac)):Option (pH (Int×(List ac)) ((List ac))):=
  OB (py a0 a.1) λg=>OB (tE a.2.2 [g] 104) λc=>OB (wQ c.length (GV .i64 (a.2.1+1)) (c.length:Int)) λ_=>OB (wQ c.length a.2.1 (c.length:Int)) λ_=>OB (yK c.length (0+((GV .i64 (a.2.1+1)):Int).toNat) (0+((c.length:Int):Int).toNat)) λ_=>OB (xg c (0+(a.2.1:Int).toNat) (0+((c.length:Int):Int).toNat)) λf=>OB (py a0 a.1) λj=>OB (inO (we c (0+((GV .i64 (a.2.1+1)):Int).toNat) ((0+((c.length:Int):Int).toNat)-(0+((GV .i64 (a.2.1+1)):Int).toNat)) f) a.2.1) λ_=>OB (vd (we c (0+((GV .i64 (a.2.1+1)):Int).toNat) ((0+((c.length:Int):Int).toNat)-(0+((GV .i64 (a.2.1+1)):Int).toNat)) f) a.2.1 j) λk=>some (.next ((GV .i64 (a.1+1)),k))
def oN(a0:(List ac)):(Int×(List ac))->Option (pH (Int×(List ac)) ((List ac))):=fun(s1,s2)=>
  if(decide (s1<(a0.length:Int)))then(OB (cI (mU s2 a0 s1) (s2.length:Int)) λa=>if(decide (a.2.1>0))then(OB (inO a.2.2 (GV .i64 (a.2.1-1))) λ_=>OB (py a.2.2 (GV .i64 (a.2.1-1))) λc=>OB (py a0 a.1) λf=>if(((c.az.bI==f.az.bI)&&((c.az.bB==f.az.bB)&&((c.az.bg==f.az.bg)&&((c.az.bL==f.az.bL)&&true))))&&((c.bS==f.bS)&&((c.bA==f.bA)&&((c.bY==f.bY)&&((c.bG==f.bG)&&((c.bM==f.bM)&&true))))))then(some (.next ((GV .i64 (a.1+1)),a.2.2)))else(iD a0 a))else(iD a0 a))else(some (.stop s2))
def kz(a0:(List ac)):Option ((List ac)):=
  OB (cI (oN a0) (0,([]:(List ac)))) λa=>some a
def mc(a0:ac):Option (Bool):=
  OB (mw a0.az) λa=>if a then(if(decide (a0.bA>=0))then(if(decide (a0.bA<=a0.bS))then(if(decide (a0.bS<=a0.bY))then(if(decide (a0.bY<=18014398509481984))then(OB (cZ a0.bG 0 1073741823) λc=>if c then(OB (cZ a0.bM (-1) 1) λf=>some f)else(some false))else(some false))else(some false))else(some false))else(some false))else(some false)
def jG(a0:bv):(Int×(List bw))->Option (pH (Int×(List bw)) ((List bw))):=fun(s1,s2)=>
  if(decide (s1<(a0.bJ.length:Int)))then(OB (py a0.bJ s1) λa=>OB (tE ([]:List Int) a.cx 8) λc=>OB (tE s2 [(bw.mk a.cU a.bR a.bO c a.b8 a.cM)] 96) λf=>some (.next ((GV .i64 (s1+1)),f)))else(some (.stop s2))
def qk(a0:bv):Option (bv):=
  OB (cI (jG a0) (0,([]:(List bw)))) λa=>some (bv.mk a)
def mb(a0:bi):Option (bi):=
  OB (qk a0.b7) λa=>some (bi.mk a0.ck a0.fTo a0.nP a0.bW a)
def iB(a0:ag)(s1:Int)(s2:(List av)):(Int×(List bi))->Option (pH (Int×(List bi)) (Int×(List av)×(List bi))):=fun(a,l)=>
  OB (py a0.bp s1) λc=>if(decide (a<(c.bF.length:Int)))then(OB (py a0.bp s1) λf=>OB (py f.bF a) λg=>OB (mb g) λj=>OB (tE l [j] 80) λk=>some (.next ((GV .i64 (a+1)),k)))else(some (.stop (s1,s2,l)))
def iC(a0:ag):(Int×(List av))->Option (pH (Int×(List av)) ((List av))):=fun(s1,s2)=>
  if(decide (s1<(a0.bp.length:Int)))then(OB (py a0.bp s1) λf=>OB (cI (iB a0 s1 s2) (0,([]:(List bi)))) λa=>OB (tE a.2.1 [(av.mk f.az a.2.2)] 88) λc=>some (.next ((GV .i64 (a.1+1)),c)))else(some (.stop s2))
def oM(a0:ag):Option (ag):=
  OB (cI (iC a0) (0,([]:(List av)))) λa=>some (ag.mk a)
def nE(a0:ag)(a1:bn):Int->Option (pH (Int) ((Unit)⊕(av×Bool))):=λs1=>
  if(decide (s1<(a0.bp.length:Int)))then(OB (py a0.bp s1) λa=>if((a.az.bI==a1.bI)&&((a.az.bB==a1.bB)&&((a.az.bg==a1.bg)&&((a.az.bL==a1.bL)&&true))))then(OB (w6 a0.bp s1 (GV .i64 (s1+1))) λc=>OB (oM (ag.mk c)) λf=>OB (py f.bp 0) λg=>some (.stop (.inr (g,true))))else(some (.next (GV .i64 (s1+1)))))else(some (.stop (.inl ())))
def qo(a0:ag)(a1:bn):Option (av×Bool):=
  OB (cI (nE a0 a1) 0) λa=>match a with| .inl _=>(some ((av.mk (bn.mk [] [] [] []) []),false))| .inr c=>(some c)
def mT(c:av×Bool)(a2:Int):Int->Option (pH (Int) ((Unit)⊕(bi×Int))):=λa=>
  if(decide (a<(c.1.bF.length:Int)))then(OB (py c.1.bF a) λg=>if(decide (g.ck<=a2))then(OB (py c.1.bF a) λj=>if(decide (a2<j.fTo))then(OB (py c.1.bF a) λf=>some (.stop (.inr (f,0))))else(some (.next (GV .i64 (a+1)))))else(some (.next (GV .i64 (a+1)))))else(some (.stop (.inl ())))
def pR(a0:ag)(a1:bn)(a2:Int):Option (bi×Int):=
  OB (gL a0) λf=>if(!f)then(some ((bi.mk 0 0 (cd.mk 0 0) (aa.mk 0 0 0) (bv.mk [])),1))else(OB (qo a0 a1) λg=>OB (cI (mT g a2) 0) λa=>match a with| .inl _=>(some ((bi.mk 0 0 (cd.mk 0 0) (aa.mk 0 0 0) (bv.mk [])),6))| .inr c=>(some c))
def nk(a0:Int)(a1:Int)(a2:Int):Option (Int):=
  some (if(GV .i64 (a2-a1))>(if(GV .i64 (a0-a2))>0 then(GV .i64 (a0-a2))else 0)then(GV .i64 (a2-a1))else(if(GV .i64 (a0-a2))>0 then(GV .i64 (a0-a2))else 0))
def eS(a0:Int):Option (Int):=
  some (GV .i64 (a0*a0))
def kB(a0:ak)(a1:aa):Option (Int):=
  OB (cK a0) λc=>if(!c)then(some 0)else(OB (gM a1) λf=>if(!f)then(some 0)else(OB (nk a0.bo.fX a0.ba.fX a1.fX) λg=>OB (eS g) λj=>OB (nk a0.bo.fY a0.ba.fY a1.fY) λk=>OB (eS k) λl=>OB (nk a0.bo.fZ a0.ba.fZ a1.fZ) λp=>OB (eS p) λa=>some (GV .i64 ((GV .i64 (j+l))+a))))
def ow(a0:Int)(a1:Int)(a2:Int):Option (Int):=
  some (if(GV .i64 (a1-a2))>(GV .i64 (a2-a0))then(GV .i64 (a1-a2))else(GV .i64 (a2-a0)))
def my(a0:ak)(a1:aa):Option (Int):=
  OB (cK a0) λc=>if(!c)then(some 0)else(OB (gM a1) λf=>if(!f)then(some 0)else(OB (ow a0.bo.fX a0.ba.fX a1.fX) λg=>OB (eS g) λj=>OB (ow a0.bo.fY a0.ba.fY a1.fY) λk=>OB (eS k) λl=>OB (ow a0.bo.fZ a0.ba.fZ a1.fZ) λp=>OB (eS p) λa=>some (GV .i64 ((GV .i64 (j+l))+a))))
def oP(a0:Int):(Int×Int)->Option (pH (Int×Int) (Int)):=fun(s1,s2)=>
  if(decide (s2>0))then(if(decide ((GV .i64 (s1+s2))<=3037000499))then(if(decide ((GV .i64 ((GV .i64 (s1+s2))*(GV .i64 (s1+s2))))<=a0))then(some (.next ((GV .i64 (s1+s2)),(tU .i64 s2 1))))else(some (.next (s1,(tU .i64 s2 1)))))else(some (.next (s1,(tU .i64 s2 1)))))else(some (.stop s1))
def mz(a0:Int):Option (Int):=
  OB (cI (oP a0) (0,2147483648)) λa=>some a
def oO(a0:Int):Option (Int):=
  OB (mz a0) λa=>if(decide (a0>(GV .i64 (a*a))))then(some (GV .i64 (a+1)))else(some a)
def rj(a0:bc):Option (Int):=
  OB (dK a0) λa=>if(a != 0)then(some 0)else(some (GV .i64 (a0.b9*(GV .i64 ((a0.bo.length:Int)-1)))))
def rf(a0:bc)(a1:Int):Option (Int):=
  OB (um .i64 a1 a0.b9) λa=>OB (py a0.bo a) λc=>some c
def rk(a0:bc)(a1:Int):Option (Int):=
  OB (um .i64 (GV .i64 ((GV .i64 (a1+a0.b9))-1)) a0.b9) λa=>OB (py a0.ba a) λc=>some c
def jH(a0:bc)(a1:Int)(a2:Int):Option (Int×Int×Int):=
  OB (dK a0) λf=>if(f != 0)then(some (0,0,21))else(if(decide (a1<0))then(some (0,0,2))else(if(decide (a1>a2))then(some (0,0,2))else(OB (oO a2) λg=>OB (rj a0) λj=>if(decide (g>j))then(some (0,0,22))else(OB (mz a1) λk=>OB (rf a0 k) λl=>OB (oO a2) λa=>OB (rk a0 a) λc=>some (l,c,0)))))
def fk(a0:bc)(a1:ak)(a2:aa):Option (Int×Int×Int):=
  OB (dK a0) λc=>if(c != 0)then(some (0,0,21))else(OB (cK a1) λf=>if(!f)then(some (0,0,20))else(OB (gM a2) λg=>if(!g)then(some (0,0,20))else(OB (kB a1 a2) λj=>OB (my a1 a2) λk=>OB (jH a0 j k) λa=>some (a.1,a.2.1,a.2.2))))
def gN(a0:ai)(a1:ag)(a2:ac):Option (al×Bool):=
  OB (cr a0) λc=>if(c != 0)then(some ((al.mk (aa.mk 0 0 0) 0 0 0),false))else(OB (mc a2) λf=>if(!f)then(some ((al.mk (aa.mk 0 0 0) 0 0 0),false))else(OB (pR a1 a2.az a2.bS) λa=>if(a.2 != 0)then(some ((al.mk (aa.mk 0 0 0) 0 0 0),false))else(OB (fk a0.ae.bP a0.ae.bt a.1.bW) λg=>if(g.2.2 != 0)then(some ((al.mk (aa.mk 0 0 0) 0 0 0),false))else(some ((al.mk a.1.bW a2.bA a2.bY 1),true)))))
def mf(a:(List ac))(a0:ai)(a1:ag):(Int×(List ac))->Option (pH (Int×(List ac)) ((List ac))):=fun(s2,s3)=>
  if(decide (s2<(a.length:Int)))then(OB (inO a s2) λ_=>OB (py a s2) λg=>OB (gN a0 a1 g) λc=>if c.2 then(OB (tE s3 [g] 104) λf=>some (.next ((GV .i64 (s2+1)),f)))else(some (.next ((GV .i64 (s2+1)),s3))))else(some (.stop s3))
def iX(a0:ai)(a1:ag)(a2:(List ac)):Option ((List ac)):=
  OB (kz a2) λc=>OB (cI (mf c a0 a1) (0,([]:(List ac)))) λa=>some a
def ly(k:(List ac))(a0:ai)(a1:ag):(Int×(List al))->Option (pH (Int×(List al)) ((List al))):=fun(a,j)=>
  if(decide (a<(k.length:Int)))then(OB (py k a) λc=>OB (gN a0 a1 c) λf=>OB (tE j [f.1] 48) λg=>some (.next ((GV .i64 (a+1)),g)))else(some (.stop j))
def gO(a0:ai)(a1:ag)(a2:(List ac)):Option ((List ac)×(List al)×Int):=
  OB (cr a0) λf=>if(f != 0)then(some (([]:(List ac)),([]:(List al)),27))else(OB (gL a1) λg=>if(!g)then(some (([]:(List ac)),([]:(List al)),1))else(OB (iX a0 a1 a2) λc=>if(decide ((c.length:Int)>256))then(some (([]:(List ac)),([]:(List al)),8))else(OB (cI (ly c a0 a1) (0,([]:(List al)))) λa=>some (c,a,0))))
def nl(a0:Int)(a1:Int):Option (Int):=
  if(decide (a0<a1))then(some (-1))else(if(decide (a0>a1))then(some 1)else(some 0))
def gV(a0:aa)(a1:aa):Option (Int):=
  OB (nl a0.fX a1.fX) λa=>if(a != 0)then(some a)else(OB (nl a0.fY a1.fY) λc=>if(c != 0)then(some c)else(OB (nl a0.fZ a1.fZ) λf=>some f))
def qt(a0:(List al))(a1:Int)(a2:Int):Option (Bool):=
  OB (py a0 a1) λa=>OB (py a0 a2) λc=>if(a.bA != c.bA)then(some (decide (a.bA<c.bA)))else(if(a.bY != c.bY)then(some (decide (a.bY<c.bY)))else(OB (gV a.bB c.bB) λf=>if(f != 0)then(some (decide (f<0)))else(if(a.cC != c.cC)then(some (decide (a.cC<c.cC)))else(some (decide (a1<a2))))))
def n8(s2:(List Int))(a0:(List al))(s1:Int):Int->Option (pH (Int) (Int×Int×(List Int))):=λa=>
  if(decide (a<(s2.length:Int)))then(OB (inO s2 a) λ_=>OB (py s2 a) λc=>OB (qt a0 c s1) λf=>if f then(some (.next (GV .i64 (a+1))))else(some (.stop (s1,a,s2))))else(some (.stop (s1,a,s2)))
def qI(a0:(List al)):(Int×(List Int))->Option (pH (Int×(List Int)) ((List Int))):=fun(s1,s2)=>
  if(decide (s1<(a0.length:Int)))then(OB (cI (n8 s2 a0 s1) 0) λa=>OB (tE a.2.2 [0] 8) λc=>OB (wQ c.length (GV .i64 (a.2.1+1)) (c.length:Int)) λ_=>OB (wQ c.length a.2.1 (c.length:Int)) λ_=>OB (yK c.length (0+((GV .i64 (a.2.1+1)):Int).toNat) (0+((c.length:Int):Int).toNat)) λ_=>OB (xg c (0+(a.2.1:Int).toNat) (0+((c.length:Int):Int).toNat)) λf=>OB (inO (we c (0+((GV .i64 (a.2.1+1)):Int).toNat) ((0+((c.length:Int):Int).toNat)-(0+((GV .i64 (a.2.1+1)):Int).toNat)) f) a.2.1) λ_=>OB (vd (we c (0+((GV .i64 (a.2.1+1)):Int).toNat) ((0+((c.length:Int):Int).toNat)-(0+((GV .i64 (a.2.1+1)):Int).toNat)) f) a.2.1 a.1) λg=>some (.next ((GV .i64 (a.1+1)),g)))else(some (.stop s2))
def kJ(a0:(List al)):Option ((List Int)):=
  OB (cI (qI a0) (0,([]:(List Int)))) λa=>some a
def db(j:(List Int))(k:(List ac)×(List al)×Int)(a0:ai):(Int×(List (List ac)))->Option (pH (Int×(List (List ac))) ((List (List ac)))):=fun(g,f)=>
  if(decide (g<(j.length:Int)))then(if(g==0)then(OB (tE f [[]] 24) λa=>OB (ye a) λl=>OB (inO a (GV .i64 ((a.length:Int)-1))) λ_=>OB (atO (GV .i64 ((a.length:Int)-1)) (a.length-1)) λ_=>OB (py j g) λp=>OB (py k.1 p) λq=>OB (tE l [q] 104) λr=>OB (inO a (GV .i64 ((a.length:Int)-1))) λ_=>OB (stO a.length (GV .i64 ((a.length:Int)-1)) (a.length-1)) λ_=>some (.next ((GV .i64 (g+1)),(a.set (a.length-1) r))))else(OB (py j g) λt=>OB (py k.1 t) λu=>OB (py j (GV .i64 (g-1))) λx=>OB (py k.1 x) λy=>if(decide ((GV .i64 (u.bA-y.bA))>a0.ae.df))then(OB (tE f [[]] 24) λc=>OB (ye c) λz=>OB (inO c (GV .i64 ((c.length:Int)-1))) λ_=>OB (atO (GV .i64 ((c.length:Int)-1)) (c.length-1)) λ_=>OB (py j g) λB=>OB (py k.1 B) λC=>OB (tE z [C] 104) λD=>OB (inO c (GV .i64 ((c.length:Int)-1))) λ_=>OB (stO c.length (GV .i64 ((c.length:Int)-1)) (c.length-1)) λ_=>some (.next ((GV .i64 (g+1)),(c.set (c.length-1) D))))else(OB (ye f) λE=>OB (inO f (GV .i64 ((f.length:Int)-1))) λ_=>OB (atO (GV .i64 ((f.length:Int)-1)) (f.length-1)) λ_=>OB (py j g) λF=>OB (py k.1 F) λG=>OB (tE E [G] 104) λH=>OB (inO f (GV .i64 ((f.length:Int)-1))) λ_=>OB (stO f.length (GV .i64 ((f.length:Int)-1)) (f.length-1)) λ_=>some (.next ((GV .i64 (g+1)),(f.set (f.length-1) H))))))else(some (.stop f))
def fc:(Int×(List (List ac)))->Option (pH (Int×(List (List ac))) ((List (List ac)))):=fun(a,c)=>
  if(decide (a<(c.length:Int)))then(OB (py c a) λf=>OB (inO c a) λ_=>OB (atO a (G2 a)) λ_=>OB (kz f) λg=>OB (inO c a) λ_=>OB (stO c.length a (G2 a)) λ_=>some (.next ((GV .i64 (a+1)),(c.set (G2 a) g))))else(some (.stop c))
def mZ(a0:ai)(a1:ag)(a2:(List ac)):Option ((List (List ac))×Int):=
  OB (gO a0 a1 a2) λa=>if(a.2.2 != 0)then(some (([]:(List (List ac))),a.2.2))else(OB (kJ a.2.1) λg=>OB (cI (db g a a0) (0,([]:(List (List ac))))) λc=>OB (cI (fc) (0,c)) λf=>some (f,0))
def jc(a0:Int):(Int×(List Int)×(List Int))->Option (pH (Int×(List Int)×(List Int)) ((List Int)×(List Int))):=fun(s3,c,f)=>
  if(decide (s3<(GV .i64 (a0+1))))then(OB (wO (GV .i64 (s3+1)) (GV .i64 (a0+1))) λa=>OB (wO (GV .i64 (s3+1)) (GV .i64 (a0+1))) λg=>OB (inO c s3) λ_=>OB (vd c s3 g) λj=>OB (inO f a) λ_=>OB (vd f a s3) λk=>some (.next ((GV .i64 (s3+1)),j,k)))else(some (.stop (c,f)))
def jb(a0:Int):Option (bV):=
  OB (mkO (GV .i64 (a0+1)) 0 8) λc=>OB (mkO (GV .i64 (a0+1)) 0 8) λf=>OB (cI (jc a0) (0,c,f)) λa=>some (bV.mk a.1 a.2)
def lc(a0:bV):Option (Int):=
  some (GV .i64 ((a0.qV.length:Int)-1))
def dp(d0:(List Int))(d1:(List Int))(a3:(List Int))(a2:(List al))(q:Int)(a1:aw):(Int×(List Int))->Option (pH (Int×(List Int)) ((List Int))):=fun(a,c)=>
  OB (lc (bV.mk d0 d1)) λr=>if(a != r)then(if(decide ((c.length:Int)<16))then(OB (py a3 a) λf=>OB (py a2 f) λg=>OB (py a3 q) λj=>OB (py a2 j) λk=>if(decide ((GV .i64 (g.bA-k.bA))<=a1.df))then(OB (tE c [a] 8) λl=>OB (inO d0 a) λ_=>OB (py d0 a) λp=>some (.next (p,l)))else(some (.stop c)))else(some (.stop c)))else(some (.stop c))
def nw(a1:aw)(a2:(List al))(a3:(List Int))(d0:(List Int))(d1:(List Int)):Option ((List Int)×(List Int)×(List Int)):=
  OB (lc (bV.mk d0 d1)) λc=>OB (inO d0 c) λ_=>OB (py d0 c) λf=>OB (cI (dp d0 d1 a3 a2 f a1) (f,([]:(List Int)))) λa=>some (a,d0,d1)
def fu(a0:aw)(a1:(List al)):Option (aj):=
  some (aj.mk a0.bt a0.bP a1 a0.eV)
def ig(a0:aj):Int->Option (pH (Int) ((Unit)⊕(Int))):=λc=>
  if(decide (c<(a0.cB.length:Int)))then(OB (py a0.cB c) λf=>OB (jd a0.bP a0.bt f) λa=>if(a.2 != 0)then(some (.stop (.inr a.2)))else(some (.next (GV .i64 (c+1)))))else(some (.stop (.inl ())))
def jr(a0:aj):Option (Int):=
  OB (co a0.bt) λg=>if(!g)then(some 20)else(OB (dO a0.bP) λf=>if(f != 0)then(some f)else(if((a0.cB.length:Int)==0)then(some 24)else(if(decide ((a0.cB.length:Int)>64))then(some 8)else(if(decide (a0.eV<1))then(some 2)else(if(decide (a0.eV>1099511627776))then(some 2)else(OB (cI (ig a0) 0) λa=>match a with| .inl _=>(some 0)| .inr c=>(some c)))))))
def gC(a0:ak)(a1:aa):Option (Bool):=
  OB (co a0) λa=>if a then(OB (er a1) λc=>if c then(OB (fN a0 a1) λf=>some (f==0))else(some false))else(some false)
def l7(a0:ak)(a1:ak):Option (Bool):=
  OB (co a0) λa=>if a then(OB (gC a1 a0.bo) λc=>if c then(OB (gC a1 a0.ba) λf=>some f)else(some false))else(some false)
def fV(a0:aj)(a1:ak):(Int×(List bC))->Option (pH (Int×(List bC)) (((List bC))⊕((List bC)×Int))):=fun(s2,s3)=>
  if(decide (s2<(a0.cB.length:Int)))then(OB (py a0.cB s2) λf=>OB (jd a0.bP a1 f) λc=>if(c.2 != 0)then(some (.stop (.inr (([]:(List bC)),c.2))))else(OB (tE s3 [c.1] 16) λa=>some (.next ((GV .i64 (s2+1)),a))))else(some (.stop (.inl s3)))
def qg(a0:aj)(a1:ak):Option ((List bC)×Int):=
  OB (zr 0 (a0.cB.length:Int) (bC.mk 0 0) 16) λg=>OB (cI (fV a0 a1) (0,g)) λa=>match a with| .inl f=>(some (f,0))| .inr c=>(some c)
def ll(a0:aj)(a1:ak):Option ((List bC)×Int):=
  OB (jr a0) λa=>if(a != 0)then(some (([]:(List bC)),a))else(OB (l7 a1 a0.bt) λf=>if(!f)then(some (([]:(List bC)),20))else(OB (qg a0 a1) λc=>some (c.1,c.2)))
def eW(a0:bC)(a1:Int):Option (Int):=
  some (if 0>(if(GV .i64 (a1-a0.fTo))>(GV .i64 (a0.ck-a1))then(GV .i64 (a1-a0.fTo))else(GV .i64 (a0.ck-a1)))then 0 else(if(GV .i64 (a1-a0.fTo))>(GV .i64 (a0.ck-a1))then(GV .i64 (a1-a0.fTo))else(GV .i64 (a0.ck-a1))))
def gr(a0:aj)(a1:(List bC))(a2:Int):(Int×Int)->Option (pH (Int×Int) (Int)):=fun(s1,s2)=>
  if(decide (s2<(a0.cB.length:Int)))then(OB (py a0.cB s2) λc=>if(decide (s2<(a1.length:Int)))then(OB (py a1 s2) λf=>OB (eW f a2) λa=>some (.next ((GV .i64 (s1+(GV .i64 (c.cC*(if a<a0.eV then a else a0.eV))))),(GV .i64 (s2+1)))))else(some (.next (s1,(GV .i64 (s2+1))))))else(some (.stop s1))
def ko(a0:aj)(a1:(List bC))(a2:Int):Option (Int):=
  OB (cI (gr a0 a1 a2) (0,0)) λa=>some a
def iy(a1:(List bC)):(Int×(List Int))->Option (pH (Int×(List Int)) ((List Int))):=fun(s2,s3)=>
  if(decide (s2<(a1.length:Int)))then(OB (py a1 s2) λa=>OB (tE s3 [a.ck,a.fTo] 8) λc=>some (.next ((GV .i64 (s2+1)),c)))else(some (.stop s3))
def gq(l:Int)(k:(List Int))(a0:aj)(a1:(List bC)):(Int×Int×Int)->Option (pH (Int×Int×Int) (Int×Int)):=fun(f,c,a)=>
  if(decide (a<l))then(OB (inV k.length (0+(1:Int).toNat) (0+((k.length:Int):Int).toNat) a) λ_=>OB (py k (((0+(1:Int).toNat)+(a:Int).toNat:Nat):Int)) λg=>OB (ko a0 a1 g) λj=>if(decide (j<c))then(some (.next (g,j,(GV .i64 (a+1)))))else(if(j==c)then(if(decide (g<f))then(some (.next (g,j,(GV .i64 (a+1)))))else(some (.next (f,c,(GV .i64 (a+1))))))else(some (.next (f,c,(GV .i64 (a+1)))))))else(some (.stop (f,c)))
def nR(a0:aj)(a1:(List bC)):Option (Int×Int):=
  OB (zr 0 (GV .i64 (2*(a1.length:Int))) 0 8) λl=>OB (cI (iy a1) (0,l)) λa=>if((a.length:Int)==0)then(some (0,0))else(OB (inO a 0) λ_=>OB (py a 0) λf=>OB (inO a 0) λ_=>OB (py a 0) λg=>OB (ko a0 a1 g) λj=>OB (wQ a.length 1 (a.length:Int)) λ_=>OB (lenV a.length (0+(1:Int).toNat) (0+((a.length:Int):Int).toNat)) λk=>OB (cI (gq k a a0 a1) (f,j,0)) λc=>some (c.1,c.2))
def lk(a0:aj)(a1:ak):Option (Int×Int):=
  OB (ll a0 a1) λa=>if(a.2 != 0)then(some (0,a.2))else(OB (nR a0 a.1) λc=>some (c.2,0))
def qi(a0:aq)(c:aj)(e2:Int)(f:Int)(g:Bool)(j:ap):Option ((List aq)):=
  OB (tE ([]:List aq) [a0] 64) λa=>some a
def jC(a0:(List aq)):Option (Int):=
  some (a0.length:Int)
def kq(a0:(List aq))(a1:Int)(a2:Int):Option (Bool):=
  OB (py a0 a1) λa=>OB (py a0 a2) λc=>OB (cn a.cg c.cg) λf=>OB (py a0 a1) λg=>OB (py a0 a2) λj=>OB (cn g.mL j.mL) λk=>OB (dW [f,k]) λl=>some (decide (l<0))
def kr(a1:Int)(a2:Int)(d0:(List aq)):Option ((List aq)):=
  OB (inO d0 a2) λ_=>OB (py d0 a2) λf=>OB (inO d0 a1) λ_=>OB (py d0 a1) λg=>OB (inO d0 a1) λ_=>OB (vd d0 a1 f) λc=>OB (inO c a2) λ_=>OB (vd c a2 g) λa=>some a
def pa:(Int×(List aq))->Option (pH (Int×(List aq)) ((List aq))):=fun(s1,s2)=>
  OB (um .i64 (GV .i64 (s1-1)) 2) λa=>if(a==s1)then(OB (some s2) λg=>some (.stop g))else(OB (kq s2 s1 a) λf=>if(!f)then(OB (some s2) λz9=>some (.stop z9))else(OB (kr a s1 s2) λc=>some (.next (a,c))))
def qd(a0:Int)(c:aj)(e2:Int)(f:Int)(g:Bool)(j:ap)(d1:(List aq)):Option ((List aq)):=
  OB (cI (pa) (a0,d1)) λa=>some a
def mq(a0:aq)(a:aj)(e2:Int)(c:Int)(f:Bool)(g:ap):Option ((List aq)):=
  OB (qi a0 a e2 c f g) λj=>OB (jC j) λk=>OB (qd (GV .i64 (k-1)) a e2 c f g j) λl=>some l
def pA(f:Int×Int)(a:Int)(c:(List aq)):Option (Int×(List aq)×Int):=
  some (f.2,c,a)
def sm(a0:ak)(c:aj)(e2:Int)(f:Int)(g:Bool)(j:ap):Option (Int×(List aq)×Int):=
  OB (lk c a0) λa=>if(a.2==0)then(OB (mq (aq.mk a0 a.1 e2) c e2 f g j) λk=>pA a (GV .i64 (e2+1)) k)else(pA a e2 ([]:List aq))
def m6(a0:Int)(g:aj)(e2:Int)(j:Int)(a:Bool)(c:ap)(d1:(List aq)):Option (Bool):=
  if((d1.length:Int)==0)then(some true)else(if a then(OB (inO d1 0) λ_=>OB (py d1 0) λf=>some (decide ((GV .i64 (c.cA-f.cg))<=a0)))else(some false))
def fO(s2:(List aq))(s1:Int)(a:Int):Option (pH (Int×(List aq)) (Int×(List aq))):=
  OB (kq s2 a s1) λf=>if(!f)then(some (.stop (s1,s2)))else(OB (kr s1 a s2) λc=>some (.next (a,c)))
def pz(a1:Int):(Int×(List aq))->Option (pH (Int×(List aq)) (Int×(List aq))):=fun(s1,s2)=>
  if(decide ((GV .i64 ((GV .i64 (2*s1))+1))>=a1))then(some (.stop (s1,s2)))else(if(decide ((GV .i64 ((GV .i64 (2*s1))+1))<0))then(some (.stop (s1,s2)))else(if(decide ((GV .i64 ((GV .i64 ((GV .i64 (2*s1))+1))+1))<a1))then(OB (kq s2 (GV .i64 ((GV .i64 ((GV .i64 (2*s1))+1))+1)) (GV .i64 ((GV .i64 (2*s1))+1))) λa=>if a then(fO s2 s1 (GV .i64 ((GV .i64 ((GV .i64 (2*s1))+1))+1)))else(fO s2 s1 (GV .i64 ((GV .i64 (2*s1))+1))))else(fO s2 s1 (GV .i64 ((GV .i64 (2*s1))+1)))))
def ot(a0:Int)(a1:Int)(e2:aj)(c:Int)(f:Int)(g:Bool)(j:ap)(d1:(List aq)):Option (Bool×(List aq)):=
  OB (cI (pz a1) (a0,d1)) λa=>some ((decide (a.1>a0)),a.2)
def rH(c:aj)(f:Int)(e2:Int)(g:Bool)(j:ap)(d1:(List aq)):Option (aq×(List aq)):=
  OB (inO d1 (GV .i64 ((d1.length:Int)-1))) λ_=>OB (py d1 (GV .i64 ((d1.length:Int)-1))) λa=>OB (wQ d1.length 0 (GV .i64 ((d1.length:Int)-1))) λ_=>some (a,(d1.take ((GV .i64 ((d1.length:Int)-1)):Int).toNat))
def oE(a:aj)(c:Int)(e2:Int)(f:Bool)(g:ap)(d1:(List aq)):Option (aq×(List aq)):=
  OB (jC d1) λj=>OB (kr 0 (GV .i64 (j-1)) d1) λl=>OB (ot 0 (GV .i64 (j-1)) a c e2 f g l) λp=>OB (rH a c e2 f g p.2) λk=>some (k.1,k.2)
def d6(a0:Int)(a1:Int):Option (Int):=
  OB (um .i64 (GV .i64 (a1-a0)) 2) λa=>some (GV .i64 (a0+a))
def cp(a0:bH):Option (aa):=
  some (aa.mk a0.a0 a0.a1 a0.a2)
def l5(a0:ak):Option (aa):=
  OB (co a0) λf=>if(!f)then(some (aa.mk 0 0 0))else(OB (cb a0.bo) λa=>OB (cb a0.ba) λc=>OB (d6 a.a0 c.a0) λg=>OB (d6 a.a1 c.a1) λj=>OB (d6 a.a2 c.a2) λk=>OB (cp (bH.mk g j k)) λl=>some l)
def pN(a0:aj)(a1:aa):Option (Int×Int×Int):=
  OB (ll a0 (ak.mk a1 a1)) λa=>if(a.2 != 0)then(some (0,0,a.2))else(OB (nR a0 a.1) λc=>some (c.1,c.2,0))
def nW(a0:ak)(j:aj)(e2:Int)(l:Int)(g:Bool)(c:ap)(d1:(List aq)):Option (Int×Bool×ap):=
  OB (l5 a0) λf=>OB (pN j f) λa=>if(a.2.2 != 0)then(some (a.2.2,g,c))else(if(!g)then(some (0,true,(ap.mk f a.1 a.2.1 0 (ak.mk (aa.mk 0 0 0) (aa.mk 0 0 0)))))else(if(decide (a.2.1<c.cA))then(some (0,true,(ap.mk f a.1 a.2.1 0 (ak.mk (aa.mk 0 0 0) (aa.mk 0 0 0)))))else(if(a.2.1==c.cA)then(OB (eB f c.bU) λk=>if(decide (k<0))then(some (0,true,(ap.mk f a.1 a.2.1 0 (ak.mk (aa.mk 0 0 0) (aa.mk 0 0 0)))))else(some (0,g,c)))else(some (0,g,c)))))
def l6(a0:ak):Option (Int):=
  OB (co a0) λf=>if(!f)then(some 0)else(OB (cb a0.ba) λa=>OB (cb a0.bo) λc=>some (GV .i64 ((GV .i64 ((GV .i64 (1*(GV .i64 ((GV .i64 (a.a0-c.a0))+1))))*(GV .i64 ((GV .i64 (a.a1-c.a1))+1))))*(GV .i64 ((GV .i64 (a.a2-c.a2))+1)))))
def iu(a0:ak):Option (ak×ak×Bool):=
  OB (l6 a0) λx=>if(decide (x<2))then(some ((ak.mk (aa.mk 0 0 0) (aa.mk 0 0 0)),(ak.mk (aa.mk 0 0 0) (aa.mk 0 0 0)),false))else(OB (cb a0.bo) λa=>OB (cb a0.ba) λc=>if(decide ((GV .i64 (c.a1-a.a1))>(GV .i64 (c.a0-a.a0))))then(if(decide ((GV .i64 (c.a2-a.a2))>(GV .i64 (c.a1-a.a1))))then(OB (d6 a.a2 c.a2) λu=>OB (cp (bH.mk c.a0 c.a1 u)) λy=>OB (cp (bH.mk a.a0 a.a1 (GV .i64 (u+1)))) λz=>some ((ak.mk a0.bo y),(ak.mk z a0.ba),true))else(OB (d6 a.a1 c.a1) λf=>OB (cp (bH.mk c.a0 f c.a2)) λk=>OB (cp (bH.mk a.a0 (GV .i64 (f+1)) a.a2)) λl=>some ((ak.mk a0.bo k),(ak.mk l a0.ba),true)))else(if(decide ((GV .i64 (c.a2-a.a2))>(GV .i64 (c.a0-a.a0))))then(OB (d6 a.a2 c.a2) λg=>OB (cp (bH.mk c.a0 c.a1 g)) λp=>OB (cp (bH.mk a.a0 a.a1 (GV .i64 (g+1)))) λq=>some ((ak.mk a0.bo p),(ak.mk q a0.ba),true))else(OB (d6 a.a0 c.a0) λj=>OB (cp (bH.mk j c.a1 c.a2)) λr=>OB (cp (bH.mk (GV .i64 (j+1)) a.a1 a.a2)) λt=>some ((ak.mk a0.bo r),(ak.mk t a0.ba),true))))
def pe(a0:aq)(c:aj)(e2:Int)(f:Int)(g:Bool)(j:ap)(d1:(List aq)):Option ((List aq)):=
  OB (tE d1 [a0] 64) λa=>some a
def mm(a0:aq)(a:aj)(e2:Int)(c:Int)(f:Bool)(g:ap)(d1:(List aq)):Option ((List aq)):=
  OB (pe a0 a e2 c f g d1) λj=>OB (jC j) λk=>OB (qd (GV .i64 (k-1)) a e2 c f g j) λl=>some l
def oV(f:Int×Int)(a:Int)(c:(List aq)):Option (Int×Int×(List aq)):=
  some (f.2,a,c)
def kV(a0:ak)(c:aj)(e2:Int)(f:Int)(g:Bool)(j:ap)(d1:(List aq)):Option (Int×Int×(List aq)):=
  OB (lk c a0) λa=>if(a.2==0)then(OB (mm (aq.mk a0 a.1 e2) c e2 f g j d1) λk=>oV a (GV .i64 (e2+1)) k)else(oV a e2 d1)
def gP(j:aj)(g:Int)(e2:Int)(l:Bool)(p:ap)(d1:(List aq)):Option (Int×Int×Int×Bool×ap×(List aq)):=
  if(e2==3000)then(some (25,g,e2,l,p,d1))else(OB (inO d1 0) λ_=>OB (py d1 0) λr=>OB (oE j g e2 l p d1) λk=>OB (nW r.ey j g (GV .i64 (e2+1)) l p k.2) λa=>if(a.1 != 0)then(some (a.1,g,(GV .i64 (e2+1)),a.2.1,a.2.2,k.2))else(OB (iu r.ey) λq=>if(!q.2.2)then(some (0,g,(GV .i64 (e2+1)),a.2.1,a.2.2,k.2))else(OB (kV q.1 j g (GV .i64 (e2+1)) a.2.1 a.2.2 k.2) λc=>if(c.1 != 0)then(some (c.1,c.2.1,(GV .i64 (e2+1)),a.2.1,a.2.2,c.2.2))else(OB (kV q.2.1 j c.2.1 (GV .i64 (e2+1)) a.2.1 a.2.2 c.2.2) λf=>some (f.1,f.2.1,(GV .i64 (e2+1)),a.2.1,a.2.2,f.2.2)))))
def cV(a1:Int)(a0:aj):(Int×Int×Bool×ap×(List aq))->Option (pH (Int×Int×Bool×ap×(List aq)) (((List aq)×Int×Int×Bool×ap)⊕((Option cj)×Int))):=fun(f,g,j,k,c)=>
  OB (m6 a1 a0 f g j k c) λl=>if(!l)then(OB (gP a0 f g j k c) λa=>if(a.1 != 0)then(some (.stop (.inr (none,a.1))))else(some (.next (a.2.1,a.2.2.1,a.2.2.2.1,a.2.2.2.2.1,a.2.2.2.2.2))))else(some (.stop (.inl (c,f,g,j,k))))
def oH(a0:aj)(a1:Int):Option ((Option cj)×Int):=
  OB (jr a0) λj=>if(j != 0)then(some (none,j))else(if(decide (a1<0))then(some (none,2))else(OB (sm a0.bt a0 0 0 false (ap.mk (aa.mk 0 0 0) 0 0 0 (ak.mk (aa.mk 0 0 0) (aa.mk 0 0 0)))) λc=>if(c.1 != 0)then(some (none,c.1))else(OB (cI (cV a1 a0) (c.2.2,0,false,(ap.mk (aa.mk 0 0 0) 0 0 0 (ak.mk (aa.mk 0 0 0) (aa.mk 0 0 0))),c.2.1)) λf=>match f with| .inl a=>(some ((some (cj.mk a0 a.1 a.2.1 a.2.2.1 a.2.2.2.1 (ap.mk (aa.mk a.2.2.2.2.bU.fX a.2.2.2.2.bU.fY a.2.2.2.2.bU.fZ) a.2.2.2.2.bS a.2.2.2.2.cA a.2.2.2.2.ml (ak.mk (aa.mk a.2.2.2.2.ca.bo.fX a.2.2.2.2.ca.bo.fY a.2.2.2.2.ca.bo.fZ) (aa.mk a.2.2.2.2.ca.ba.fX a.2.2.2.2.ca.ba.fY a.2.2.2.2.ca.ba.fZ))))),0))| .inr g=>(some g))))
def nA(a0:ak)(a1:ak):Option (ak):=
  OB (co a0) λk=>if(!k)then(some (ak.mk (aa.mk 0 0 0) (aa.mk 0 0 0)))else(OB (co a1) λl=>if(!l)then(some (ak.mk (aa.mk 0 0 0) (aa.mk 0 0 0)))else(OB (cb a0.bo) λa=>OB (cb a0.ba) λc=>OB (cb a1.bo) λf=>OB (cb a1.ba) λg=>OB (cp (bH.mk (if f.a0<a.a0 then f.a0 else a.a0) (if f.a1<a.a1 then f.a1 else a.a1) (if f.a2<a.a2 then f.a2 else a.a2))) λp=>OB (cp (bH.mk (if g.a0>c.a0 then g.a0 else c.a0) (if g.a1>c.a1 then g.a1 else c.a1) (if g.a2>c.a2 then g.a2 else c.a2))) λj=>some (ak.mk p j)))
def eP(k:cj):(Int×Int×ak)->Option (pH (Int×Int×ak) (Int×ak)):=fun(f,c,g)=>
  if(decide (f<(k.oD.length:Int)))then(OB (py k.oD f) λa=>if(decide (a.cg<k.cy.cA))then(OB (nA g a.ey) λj=>some (.next ((GV .i64 (f+1)),(if a.cg<c then a.cg else c),j)))else(some (.next ((GV .i64 (f+1)),(if a.cg<c then a.cg else c),g))))else(some (.stop (c,g)))
def gR(a0:aj)(a1:Int):Option (ap×Int):=
  OB (oH a0 a1) λf=>optC f.1 (if(f.2 != 0)then(some ((ap.mk (aa.mk 0 0 0) 0 0 0 (ak.mk (aa.mk 0 0 0) (aa.mk 0 0 0))),f.2))else(none)) (λc=>if(f.2 != 0)then(some ((ap.mk (aa.mk 0 0 0) 0 0 0 (ak.mk (aa.mk 0 0 0) (aa.mk 0 0 0))),f.2))else(OB (cI (eP c) (0,c.cy.cA,(ak.mk c.cy.bU c.cy.bU))) λa=>some ((ap.mk c.cy.bU c.cy.bS c.cy.cA a.1 (ak.mk (aa.mk a.2.bo.fX a.2.bo.fY a.2.bo.fZ) (aa.mk a.2.ba.fX a.2.ba.fY a.2.ba.fZ))),0)))
def gG(k:(List bC)×Int)(a2:Int):(Int×(List Int))->Option (pH (Int×(List Int)) ((List Int))):=fun(a,j)=>
  if(decide (a<(k.1.length:Int)))then(OB (py k.1 a) λc=>OB (eW c a2) λf=>OB (tE j [f] 8) λg=>some (.next ((GV .i64 (a+1)),g)))else(some (.stop j))
def iz(a0:aj)(a1:aa)(a2:Int):Option ((List Int)×Int):=
  OB (ll a0 (ak.mk a1 a1)) λa=>if(a.2 != 0)then(some (([]:(List Int)),a.2))else(if(decide (a2<(-18014398509481984)))then(some (([]:(List Int)),2))else(if(decide (a2>18014398509481984))then(some (([]:(List Int)),2))else(OB (zr 0 (a.1.length:Int) 0 8) λf=>OB (cI (gG a a2) (0,f)) λc=>some (c,0))))
def mG(a1:Int)(d0:(List Int))(d1:(List Int)):Option ((List Int)×(List Int)):=
  OB (inO d1 a1) λ_=>OB (py d1 a1) λg=>OB (inO d0 a1) λ_=>OB (py d0 a1) λj=>OB (inO d0 a1) λ_=>OB (py d0 a1) λk=>OB (inO d1 a1) λ_=>OB (py d1 a1) λa=>OB (inO d0 g) λ_=>OB (vd d0 g k) λc=>OB (inO d1 j) λ_=>OB (vd d1 j a) λf=>some (c,f)
def cW(a:(List Int)×(List Int)×(List Int))(q:(List Int))(f:(List bz))(g:(List Int)):Option (pH ((List bz)×(List Int)×(List Int)×(List Int)) (((List bz)×(List Int))⊕((List bz)×(List Int)×Int))):=
  OB (py a.1 0) λj=>OB (py q j) λk=>OB (tE g [k] 8) λl=>OB (py a.1 0) λp=>OB (mG p a.2.1 a.2.2) λc=>some (.next (f,l,c.1,c.2))
def ez(f:(List Int)×(List Int)×(List Int))(r:(List Int))(a1:(List al))(p:(List bz))(q:(List Int)):(Int×(List al))->Option (pH (Int×(List al)) ((List al)×(List bz)×(List Int))):=fun(a,c)=>
  if(decide (a<(f.1.length:Int)))then(OB (py f.1 a) λg=>OB (py r g) λj=>OB (py a1 j) λk=>OB (tE c [k] 48) λl=>some (.next ((GV .i64 (a+1)),l)))else(some (.stop (c,p,q)))
def eA(f:(List Int)×(List Int)×(List Int))(g:(List Int)×Int)(a0:aw):(Int×(List Int))->Option (pH (Int×(List Int)) ((List Int))):=fun(a,c)=>
  if(decide (a<(f.1.length:Int)))then(OB (py f.1 a) λj=>OB (py g.1 a) λk=>if(decide (k<=a0.dH))then(OB (tE c [j] 8) λl=>some (.next ((GV .i64 (a+1)),l)))else(some (.next ((GV .i64 (a+1)),c))))else(some (.stop c))
def dj(c:(List Int))(r:(List Int)):(Int×(List Int)×(List Int)×(List Int))->Option (pH (Int×(List Int)×(List Int)×(List Int)) ((List Int)×(List Int)×(List Int))):=fun(a,f,g,j)=>
  if(decide (a<(c.length:Int)))then(OB (inO c a) λ_=>OB (py c a) λk=>OB (mG k f g) λl=>OB (py r k) λp=>OB (tE j [p] 8) λq=>some (.next ((GV .i64 (a+1)),l.1,l.2,q)))else(some (.stop (f,g,j)))
def cm(a0:aw)(a1:(List al))(q:(List Int)):((List bz)×(List Int)×(List Int)×(List Int))->Option (pH ((List bz)×(List Int)×(List Int)×(List Int)) (((List bz)×(List Int))⊕((List bz)×(List Int)×Int))):=fun(r,t,l,u)=>
  OB (lc (bV.mk l u)) λp=>OB (inO l p) λ_=>OB (py l p) λx=>OB (lc (bV.mk l u)) λy=>if(x != y)then(OB (nw a0 a1 q l u) λa=>if(decide ((a.1.length:Int)>=a0.de))then(OB (cI (ez a q a1 r t) (0,([]:(List al)))) λc=>OB (fu a0 c.1) λz=>OB (gR z a0.bD) λf=>if(f.2 != 0)then(some (.stop (.inr (([]:(List bz)),([]:(List Int)),f.2))))else(OB (fu a0 c.1) λB=>OB (iz B f.1.bU f.1.bS) λj=>if(j.2 != 0)then(some (.stop (.inr (([]:(List bz)),([]:(List Int)),j.2))))else(OB (cI (eA a j a0) (0,([]:(List Int)))) λk=>if(decide ((k.length:Int)>=a0.de))then(OB (cI (dj k q) (0,a.2.1,a.2.2,([]:(List Int)))) λg=>OB (vp g.2.2) λC=>OB (tE c.2.1 [(bz.mk C f.1.bU f.1.bS)] 56) λD=>some (.next (D,c.2.2,g.1,g.2.1)))else(cW a q c.2.1 c.2.2))))else(cW a q r t))else(some (.stop (.inl (r,t))))
def hZ(a0:aw)(a1:(List al)):Option ((List bz)×(List Int)×Int):=
  OB (ex a0 a1) λj=>if(j != 0)then(some (([]:(List bz)),([]:(List Int)),j))else(OB (gp a1) λl=>OB (jb (a1.length:Int)) λk=>OB (cI (cm a0 a1 l) (([]:(List bz)),([]:(List Int)),k.qV,k.fback)) λc=>match c with| .inl a=>(OB (vp a.2) λg=>some (a.1,g,0))| .inr f=>(some f))
def im(r:(List ac))(a0:ai)(a1:ag):(Int×(List ac)×(List al)×(List bi))->Option (pH (Int×(List ac)×(List al)×(List bi)) ((List ac)×(List al)×(List bi))):=fun(f,g,j,k)=>
  if(decide (f<(r.length:Int)))then(OB (py r f) λc=>OB (eO a0 a1 c) λa=>if a.2.2 then(OB (tE g [c] 104) λl=>OB (tE j [a.1] 48) λp=>OB (tE k [a.2.1] 80) λq=>some (.next ((GV .i64 (f+1)),l,p,q)))else(some (.next ((GV .i64 (f+1)),g,j,k))))else(some (.stop (g,j,k)))
def gy(a0:ai)(a1:ag)(a2:(List ac)):Option (bZ×Int):=
  OB (ek a0) λc=>if(c != 0)then(some ((bZ.mk [] [] []),27))else(OB (dJ a1) λf=>if(!f)then(some ((bZ.mk [] [] []),1))else(OB (mu a2) λg=>OB (cI (im g a0 a1) (0,([]:(List ac)),([]:(List al)),([]:(List bi)))) λa=>some ((bZ.mk a.1 a.2.1 a.2.2),0)))
def ix(a0:bZ)(a1:ai):Option (aj×Int):=
  if((a0.rC.length:Int)==0)then(some ((aj.mk (ak.mk (aa.mk 0 0 0) (aa.mk 0 0 0)) (bc.mk 0 [] []) [] 0),24))else(if(decide ((a0.rC.length:Int)>64))then(some ((aj.mk (ak.mk (aa.mk 0 0 0) (aa.mk 0 0 0)) (bc.mk 0 [] []) [] 0),8))else(OB (uK 8 a1.ae.bP.bo) λa=>OB (uK 8 a1.ae.bP.ba) λc=>some ((aj.mk a1.ae.bt (bc.mk a1.ae.bP.b9 a c) a0.rC a1.ae.eV),0)))
def fQ:(Int×(List Int))->Option (pH (Int×(List Int)) ((List Int))):=fun(s2,s3)=>
  if(decide (s2>0))then(OB (wO s2 1073741824) λa=>OB (tE s3 [a] 8) λc=>some (.next ((tU .i64 s2 30),c)))else(some (.stop s3))
def tc(a0:Int):Option ((List Int)×Int):=
  if(decide (a0<0))then(some (([]:(List Int)),2))else(OB (cI (fQ) (a0,([]:(List Int)))) λa=>some (a,0))
def oJ(a0:Int):Option (Bool):=
  if(decide (a0<0))then(some true)else(some (decide (a0>=1073741824)))
def fo(a0:(List Int)):Int->Option (pH (Int) ((Unit)⊕(Int))):=λs1=>
  if(decide (s1<(a0.length:Int)))then(OB (py a0 s1) λa=>OB (oJ a) λc=>if c then(some (.stop (.inr s1)))else(some (.next (GV .i64 (s1+1)))))else(some (.stop (.inl ())))
def gg(a0:(List Int)):Option (Int):=
  OB (cI (fo a0) 0) λc=>match c with| .inl _=>(some (-1))| .inr a=>(some a)
def dD(a0:(List Int)):Option (Bool):=
  OB (gg a0) λa=>some (decide (a>=0))
def mr(a0:(List Int)):Option (Bool):=
  if(decide ((a0.length:Int)>64))then(some false)else(if(decide ((a0.length:Int)>0))then(OB (py a0 (GV .i64 ((a0.length:Int)-1))) λa=>if(a==0)then(some false)else(OB (dD a0) λc=>some (!c)))else(OB (dD a0) λf=>some (!f)))
def qW(a0:(List Int))(a1:(List Int)):Option (Bool):=
  OB (mr a0) λa=>if a then(OB (mr a1) λc=>some c)else(some false)
def lm(a0:(List Int))(a1:Int):Option (Int):=
  if(decide (a1>=(a0.length:Int)))then(some 0)else(OB (py a0 a1) λa=>some a)
def nS:(List Int)->Option (pH ((List Int)) ((List Int))):=λs1=>
  if(decide ((s1.length:Int)>0))then(OB (py s1 (GV .i64 ((s1.length:Int)-1))) λa=>if(a==0)then(OB (w6 s1 0 (GV .i64 ((s1.length:Int)-1))) λc=>some (.next c))else(some (.stop s1)))else(some (.stop s1))
def js(a0:(List Int)):Option ((List Int)):=
  OB (cI (nS) a0) λa=>some a
def d9(a1:(List Int))(s2:Int)(p:Int):(Int×Int×(List Int))->Option (pH (Int×Int×(List Int)) (Int×(List Int))):=fun(j,c,a)=>
  if(decide (c<(GV .i64 ((a1.length:Int)+1))))then(if(decide ((GV .i64 (s2+c))<(a.length:Int)))then(OB (inO a (GV .i64 (s2+c))) λ_=>OB (py a (GV .i64 (s2+c))) λf=>OB (lm a1 c) λg=>OB (wO (GV .i64 (j+(GV .i64 (f+(GV .i64 (p*g)))))) 1073741824) λk=>OB (inO a (GV .i64 (s2+c))) λ_=>OB (vd a (GV .i64 (s2+c)) k) λl=>some (.next ((tU .i64 (GV .i64 (j+(GV .i64 (f+(GV .i64 (p*g)))))) 30),(GV .i64 (c+1)),l)))else(some (.next (j,(GV .i64 (c+1)),a))))else(some (.stop (s2,a)))
def eF(a0:(List Int))(a1:(List Int)):(Int×(List Int))->Option (pH (Int×(List Int)) ((List Int))):=fun(s2,s3)=>
  if(decide (s2<(a0.length:Int)))then(OB (py a0 s2) λc=>OB (cI (d9 a1 s2 c) (0,0,s3)) λa=>some (.next ((GV .i64 (a.1+1)),a.2)))else(some (.stop s3))
def jj(a0:(List Int))(a1:(List Int)):Option ((List Int)):=
  OB (mkO (GV .i64 ((a0.length:Int)+(a1.length:Int))) 0 8) λf=>OB (cI (eF a0 a1) (0,f)) λa=>OB (js a) λc=>some c
def gK(a0:(List Int)):Option ((List Int)×Int):=
  OB (js a0) λa=>if(decide ((a.length:Int)>64))then(some (([]:(List Int)),8))else(some (a,0))
def nat_Mul(a0:(List Int))(a1:(List Int)):Option ((List Int)×Int):=
  OB (qW a0 a1) λc=>if(!c)then(some (([]:(List Int)),1))else(OB (jj a0 a1) λf=>OB (gK f) λa=>some (a.1,a.2))
def eu(a0:Int):Option ((List Int)):=
  OB (tc (if(GV .i64 (0-a0))>a0 then(GV .i64 (0-a0))else a0)) λa=>OB (nat_Mul a.1 a.1) λc=>some c.1
def gH(a1:(List Int))(a0:(List Int)):(Int×Int×(List Int))->Option (pH (Int×Int×(List Int)) ((List Int))):=fun(s3,c,j)=>
  if(decide (c<(GV .i64 ((if(a1.length:Int)>(a0.length:Int)then(a1.length:Int)else(a0.length:Int))+1))))then(OB (lm a0 c) λk=>OB (lm a1 c) λa=>OB (wO (GV .i64 (s3+(GV .i64 (k+a)))) 1073741824) λf=>OB (tE j [f] 8) λg=>some (.next ((tU .i64 (GV .i64 (s3+(GV .i64 (k+a)))) 30),(GV .i64 (c+1)),g)))else(some (.stop j))
def nat_Add(a0:(List Int))(a1:(List Int)):Option ((List Int)×Int):=
  OB (qW a0 a1) λf=>if(!f)then(some (([]:(List Int)),1))else(OB (cI (gH a1 a0) (0,0,([]:(List Int)))) λc=>OB (gK c) λa=>some (a.1,a.2))
def iL(a0:bH)(a1:Int)(a2:Int):Option ((List Int)):=
  OB (eu (GV .i64 ((GV .i64 ((GV .i64 (a0.a0*a2))*a2))-(GV .i64 ((GV .i64 (a0.a2*a1))*a1))))) λa=>OB (eu (GV .i64 ((GV .i64 (a0.a1*a1))*a2))) λc=>OB (nat_Add a c) λf=>some f.1
def nI(a0:bw)(a1:Int)(a2:Int):Option (bu×Bool):=
  if(a0.cU==0)then(OB (eu a0.bR.a0) λf=>OB (eu a0.bO.a0) λg=>some ((bu.mk f g),true))else(if(a0.cU==1)then(OB (iL a0.bR a1 a2) λj=>OB (iL a0.bO a1 a2) λc=>some ((bu.mk j c),(decide ((c.length:Int)>0))))else(OB (dU a0.cx) λk=>OB (eu k) λl=>OB (yI .i64 1 a0.cM) λp=>OB (eu p) λa=>some ((bu.mk l a),true)))
def gJ(a0:bu):Option (Bool):=
  OB (mr a0.bR) λa=>if a then(OB (mr a0.bO) λc=>if c then(some (decide ((a0.bO.length:Int)>0)))else(some false))else(some false)
def rG(a0:bu)(a1:bu):Option (bu×Int):=
  OB (gJ a0) λf=>if(!f)then(some ((bu.mk [] []),1))else(OB (gJ a1) λg=>if(!g)then(some ((bu.mk [] []),1))else(OB (jj a0.bR a1.bR) λj=>OB (gK j) λa=>OB (jj a0.bO a1.bO) λk=>OB (gK k) λc=>if(a.2 != 0)then(some ((bu.mk [] []),8))else(if(c.2 != 0)then(some ((bu.mk [] []),8))else(some ((bu.mk a.1 c.1),0)))))
def eh(a0:bv)(a1:Int)(a2:Int):(Int×(List Int)×(List Int))->Option (pH (Int×(List Int)×(List Int)) (((List Int)×(List Int))⊕(bu×Int))):=fun(f,j,k)=>
  if(decide (f<(a0.bJ.length:Int)))then(OB (py a0.bJ f) λg=>OB (nI g a1 a2) λc=>if(!c.2)then(some (.stop (.inr ((bu.mk [] []),11))))else(OB (rG (bu.mk j k) c.1) λa=>if(a.2 != 0)then(some (.stop (.inr ((bu.mk [] []),a.2))))else(some (.next ((GV .i64 (f+1)),a.1.bR,a.1.bO)))))else(some (.stop (.inl (j,k))))
def nH(a0:bv)(a1:Int)(a2:Int):Option (bu×Int):=
  OB (gf a0) λg=>if(!g)then(some ((bu.mk [] []),1))else(OB (cX a1 0 65536) λj=>if(!j)then(some ((bu.mk [] []),2))else(OB (cX a2 1 65536) λk=>if(!k)then(some ((bu.mk [] []),2))else(OB (cI (eh a0 a1 a2) (0,[1],[1])) λc=>match c with| .inl a=>(some ((bu.mk a.1 a.2),0))| .inr f=>(some f))))
def dY(a0:Int)(c:Int)(a:Int):Option (Int):=
  some (GV .i64 ((GV .i64 (256*a0))+a))
def dq(a0:Int)(a:Int)(c:Int):Option (Int):=
  if(decide ((tU .i64 (GV .i64 (a*a)) 30)>=2147483648))then(OB (um .i64 (tU .i64 (GV .i64 (a*a)) 30) 2) λf=>dY a0 f (GV .i64 ((GV .i64 (c*2))+1)))else(dY a0 (tU .i64 (GV .i64 (a*a)) 30) (GV .i64 (c*2)))
def du(a0:Int)(a:Int)(c:Int):Option (Int):=
  if(decide ((tU .i64 (GV .i64 (a*a)) 30)>=2147483648))then(OB (um .i64 (tU .i64 (GV .i64 (a*a)) 30) 2) λf=>dq a0 f (GV .i64 ((GV .i64 (c*2))+1)))else(dq a0 (tU .i64 (GV .i64 (a*a)) 30) (GV .i64 (c*2)))
def dv(a0:Int)(a:Int)(c:Int):Option (Int):=
  if(decide ((tU .i64 (GV .i64 (a*a)) 30)>=2147483648))then(OB (um .i64 (tU .i64 (GV .i64 (a*a)) 30) 2) λf=>du a0 f (GV .i64 ((GV .i64 (c*2))+1)))else(du a0 (tU .i64 (GV .i64 (a*a)) 30) (GV .i64 (c*2)))
def dw(a0:Int)(a:Int)(f:Int):Option (Int):=
  if(decide ((tU .i64 (GV .i64 (a*a)) 30)>=2147483648))then(OB (um .i64 (tU .i64 (GV .i64 (a*a)) 30) 2) λc=>dv a0 c (GV .i64 ((GV .i64 (f*2))+1)))else(dv a0 (tU .i64 (GV .i64 (a*a)) 30) (GV .i64 (f*2)))
def dx(a0:Int)(a:Int)(f:Int):Option (Int):=
  if(decide ((tU .i64 (GV .i64 (a*a)) 30)>=2147483648))then(OB (um .i64 (tU .i64 (GV .i64 (a*a)) 30) 2) λc=>dw a0 c (GV .i64 ((GV .i64 (f*2))+1)))else(dw a0 (tU .i64 (GV .i64 (a*a)) 30) (GV .i64 (f*2)))
def dy(a0:Int)(a:Int)(f:Int):Option (Int):=
  if(decide ((tU .i64 (GV .i64 (a*a)) 30)>=2147483648))then(OB (um .i64 (tU .i64 (GV .i64 (a*a)) 30) 2) λc=>dx a0 c (GV .i64 ((GV .i64 (f*2))+1)))else(dx a0 (tU .i64 (GV .i64 (a*a)) 30) (GV .i64 (f*2)))
def dz(a0:Int)(a:Int)(f:Int):Option (Int):=
  if(decide ((tU .i64 (GV .i64 (a*a)) 30)>=2147483648))then(OB (um .i64 (tU .i64 (GV .i64 (a*a)) 30) 2) λc=>dy a0 c (GV .i64 ((GV .i64 (f*2))+1)))else(dy a0 (tU .i64 (GV .i64 (a*a)) 30) (GV .i64 (f*2)))
def d7(a0:Int)(a1:Int):Option (Int):=
  if(decide ((tU .i64 (GV .i64 (a1*a1)) 30)>=2147483648))then(OB (um .i64 (tU .i64 (GV .i64 (a1*a1)) 30) 2) λa=>dz a0 a 1)else(dz a0 (tU .i64 (GV .i64 (a1*a1)) 30) 0)
def fP(a0:Int):Option (Int×Int):=
  if(decide (a0<1))then(some (0,2))else(OB (nN (GV .u64 a0)) λa=>if(decide ((GV .i64 (a-1))<=30))then(OB (yI .i64 a0 (GV .i64 (30-(GV .i64 (a-1))))) λc=>OB (d7 (GV .i64 (a-1)) c) λf=>some (f,0))else(OB (BC .i64 a0 (GV .i64 ((GV .i64 (a-1))-30))) λg=>OB (d7 (GV .i64 (a-1)) g) λj=>some (j,0)))
def e8(a0:(List Int)):Option (Int×Int):=
  OB (mr a0) λf=>if(!f)then(some (0,1))else(if(decide ((GV .i64 ((a0.length:Int)-1))<0))then(some (0,2))else(if((GV .i64 ((a0.length:Int)-1))==0)then(OB (py a0 0) λg=>OB (fP g) λa=>some (a.1,a.2))else(OB (py a0 (GV .i64 ((a0.length:Int)-1))) λj=>OB (py a0 (GV .i64 ((GV .i64 ((a0.length:Int)-1))-1))) λk=>OB (fP (orI .i64 (xG .i64 j 30) k)) λc=>some ((GV .i64 (c.1+(GV .i64 (7680*(GV .i64 ((GV .i64 ((a0.length:Int)-1))-1)))))),c.2))))
def ng(a0:bK)(a1:bv)(a2:Int):Option (Int×Int):=
  OB (nH a1 a0.bR a0.bO) λa=>if(a.2 != 0)then(some (0,a.2))else(OB (e8 a.1.bR) λf=>if(f.2 != 0)then(some (0,24))else(OB (e8 a.1.bO) λc=>if(c.2 != 0)then(some (0,c.2))else(OB (fP a2) λg=>some ((GV .i64 ((GV .i64 ((GV .i64 (2*g.1))+c.1))-f.1)),g.2))))
def km(a0:Int):Option (Int):=
  some (tU .i64 a0 1)
def nf(a0:Int):Option (Int×Bool):=
  if(decide (a0>=(-16777216)))then(some ((GV .i64 (a0*30103)),(decide (a0<=16777216))))else(some ((GV .i64 (a0*30103)),false))
def jq(a0:Int):Option (Int):=
  OB (nf a0) λa=>if(!a.2)then(some 0)else(OB (um .i64 a.1 256000) λc=>OB (wO a.1 256000) λf=>if(decide (f<0))then(some (GV .i64 (c-1)))else(some c))
def mP(a0:Int):Option (Int):=
  OB (jq (GV .i64 (0-a0))) λa=>some (GV .i64 (0-a))
def jU(a0:bK)(a1:bv)(a2:Int)(a3:Int)(a4:Int):Option (bh×Int):=
  OB (dC a0) λk=>if(!k)then(some ((bh.mk 0 0),27))else(if(decide (a2<1))then(some ((bh.mk 0 0),2))else(if(decide (a2>1073741823))then(some ((bh.mk 0 0),2))else(OB (ng a0 a1 a2) λa=>if(a.2 != 0)then(some ((bh.mk 0 0),a.2))else(OB (fq a0.bN a3 a4) λc=>if(c.2.2 != 0)then(some ((bh.mk 0 0),c.2.2))else(OB (km (GV .i64 (a.1-2))) λl=>OB (jq l) λf=>OB (km (GV .i64 ((GV .i64 (0-a.1))-6))) λg=>OB (mP (GV .i64 (0-g))) λj=>some ((bh.mk (GV .i64 (f+c.1)) (GV .i64 (j+c.2.1))),0))))))
def d8(a0:bZ)(a2:ak)(a1:ai):(Int×(List bh))->Option (pH (Int×(List bh)) ((List bh))):=fun(s1,s2)=>
  if(decide (s1<(a0.rC.length:Int)))then(OB (py a0.rC s1) λg=>OB (py a0.fepochs s1) λj=>OB (py a0.fpicks s1) λk=>OB (fN a2 g.bB) λl=>OB (je a2 g.bB) λc=>OB (jU a1.bX j.b7 k.bG l c) λa=>if(a.2==0)then(OB (tE s2 [a.1] 16) λf=>some (.next ((GV .i64 (s1+1)),f)))else(some (.next ((GV .i64 (s1+1)),s2))))else(some (.stop s2))
def ji(a0:bZ)(a1:ai)(a2:ak):Option ((List bh)):=
  OB (cI (d8 a0 a2 a1) (0,([]:(List bh)))) λa=>some a
def jh(a0:bh):Option (Bool):=
  some (decide (a0.bo>a0.ba))
def dQ(a0:(List bh)):Int->Option (pH (Int) ((Unit)⊕(Int))):=λs1=>
  if(decide (s1<(a0.length:Int)))then(OB (py a0 s1) λa=>OB (jh a) λc=>if c then(some (.stop (.inr s1)))else(some (.next (GV .i64 (s1+1)))))else(some (.stop (.inl ())))
def fe(a0:(List bh)):Option (Int):=
  OB (cI (dQ a0) 0) λc=>match c with| .inl _=>(some (-1))| .inr a=>(some a)
def dP(a0:(List bh)):Option (Bool):=
  OB (fe a0) λa=>some (decide (a>=0))
def mQ(a0:bh):Option (Int):=
  some a0.bo
def fg(a0:(List bh)):(Int×(List Int))->Option (pH (Int×(List Int)) ((List Int))):=fun(s1,s2)=>
  if(decide (s1<(a0.length:Int)))then(OB (py a0 s1) λa=>OB (mQ a) λc=>OB (tE s2 [c] 8) λf=>some (.next ((GV .i64 (s1+1)),f)))else(some (.stop s2))
def jL(a0:(List bh)):Option (Int):=
  OB (cI (fg a0) (0,([]:(List Int)))) λf=>OB (vp f) λa=>OB (um .i64 (GV .i64 ((a.length:Int)-1)) 2) λc=>OB (inO a c) λ_=>OB (py a c) λg=>some g
def mR(a0:bh):Option (Int):=
  some a0.ba
def fh(a0:(List bh)):(Int×(List Int))->Option (pH (Int×(List Int)) ((List Int))):=fun(s1,s2)=>
  if(decide (s1<(a0.length:Int)))then(OB (py a0 s1) λa=>OB (mR a) λc=>OB (tE s2 [c] 8) λf=>some (.next ((GV .i64 (s1+1)),f)))else(some (.stop s2))
def jM(a0:(List bh)):Option (Int):=
  OB (cI (fh a0) (0,([]:(List Int)))) λf=>OB (vp f) λa=>OB (um .i64 (GV .i64 ((a.length:Int)-1)) 2) λc=>OB (inO a c) λ_=>OB (py a c) λg=>some g
def jT(a0:(List bh)):Option (bh×Int):=
  if((a0.length:Int)==0)then(some ((bh.mk 0 0),24))else(OB (dP a0) λa=>if a then(some ((bh.mk 0 0),1))else(OB (jL a0) λc=>OB (jM a0) λf=>some ((bh.mk c f),0)))
def m8(a0:ai)(a1:ag)(a2:(List ac)):Option (bQ×Int):=
  OB (gy a0 a1 a2) λa=>if(a.2 != 0)then(some ((bQ.mk [] (ap.mk (aa.mk 0 0 0) 0 0 0 (ak.mk (aa.mk 0 0 0) (aa.mk 0 0 0))) (bh.mk 0 0) 0),a.2))else(OB (ix a.1 a0) λf=>if(f.2 != 0)then(some ((bQ.mk [] (ap.mk (aa.mk 0 0 0) 0 0 0 (ak.mk (aa.mk 0 0 0) (aa.mk 0 0 0))) (bh.mk 0 0) 0),f.2))else(OB (gR f.1 a0.bD) λc=>if(c.2 != 0)then(some ((bQ.mk [] (ap.mk (aa.mk 0 0 0) 0 0 0 (ak.mk (aa.mk 0 0 0) (aa.mk 0 0 0))) (bh.mk 0 0) 0),c.2))else(OB (ji a.1 a0 c.1.ca) λg=>if(decide ((g.length:Int)>0))then(OB (jT g) λj=>if(j.2 != 0)then(some ((bQ.mk [] (ap.mk (aa.mk 0 0 0) 0 0 0 (ak.mk (aa.mk 0 0 0) (aa.mk 0 0 0))) (bh.mk 0 0) 0),j.2))else(some ((bQ.mk a.1.fpicks c.1 j.1 (g.length:Int)),0)))else(some ((bQ.mk a.1.fpicks c.1 (bh.mk 0 0) 0),0)))))
def lN(a0:ac)(a1:ac):Option (Int):=
  OB (cn a0.bS a1.bS) λa=>OB (cJ a0 a1) λc=>OB (dW [a,c]) λf=>some f
def dc(a0:(List ac)):(Int×(List UInt8)×(List UInt8)×(List UInt8)×(List UInt8)×Int×Int×Int×Int×Int)->Option (pH (Int×(List UInt8)×(List UInt8)×(List UInt8)×(List UInt8)×Int×Int×Int×Int×Int) ((List UInt8)×(List UInt8)×(List UInt8)×(List UInt8)×Int×Int×Int×Int×Int)):=fun(s3,j,k,l,p,q,r,c,f,g)=>
  if(decide (s3<(a0.length:Int)))then(OB (py a0 s3) λt=>OB (lN t (ac.mk (bn.mk j k l p) q r c f g)) λu=>if(decide (u<0))then(OB (py a0 s3) λa=>some (.next ((GV .i64 (s3+1)),a.az.bI,a.az.bB,a.az.bg,a.az.bL,a.bS,a.bA,a.bY,a.bG,a.bM)))else(some (.next ((GV .i64 (s3+1)),j,k,l,p,q,r,c,f,g))))else(some (.stop (j,k,l,p,q,r,c,f,g)))
def eJ(a0:(List ac)):Option (ac):=
  if(decide ((a0.length:Int)<1))then(none)else(OB (py a0 0) λc=>OB (cI (dc a0) (1,c.az.bI,c.az.bB,c.az.bg,c.az.bL,c.bS,c.bA,c.bY,c.bG,c.bM)) λa=>some (ac.mk (bn.mk a.1 a.2.1 a.2.2.1 a.2.2.2.1) a.2.2.2.2.1 a.2.2.2.2.2.1 a.2.2.2.2.2.2.1 a.2.2.2.2.2.2.2.1 a.2.2.2.2.2.2.2.2))
def qc(a0:(List ac)):Option (ac):=
  if((a0.length:Int)==0)then(some (ac.mk (bn.mk [] [] [] []) 0 0 0 0 0))else(OB (eJ a0) λa=>some a)
def lO(a0:eL)(a1:bd)(a2:bd):Option (Int):=
  OB (lN a1.cL a2.cL) λa=>some a
def gY(a1:Int)(s1:Int):(Int×(List bd))->Option (pH (Int×(List bd)) (Int×(List bd))):=fun(a,c)=>
  if(decide (a>a1))then(OB (inO c a) λ_=>OB (py c a) λg=>OB (inO c (GV .i64 (a-1))) λ_=>OB (py c (GV .i64 (a-1))) λj=>OB (lO (eL.mk ) g j) λk=>if(decide (k<0))then(OB (inO c (GV .i64 (a-1))) λ_=>OB (py c (GV .i64 (a-1))) λl=>OB (inO c a) λ_=>OB (py c a) λp=>OB (inO c a) λ_=>OB (vd c a l) λf=>OB (inO f (GV .i64 (a-1))) λ_=>OB (vd f (GV .i64 (a-1)) p) λq=>some (.next ((GV .i64 (a-1)),q)))else(some (.stop (s1,c))))else(some (.stop (s1,c)))
def gZ(a2:Int)(a1:Int):(Int×(List bd))->Option (pH (Int×(List bd)) ((List bd))):=fun(s1,s2)=>
  if(decide (s1<a2))then(OB (cI (gY a1 s1) (s1,s2)) λa=>some (.next ((GV .i64 (a.1+1)),a.2)))else(OB (some s2) λz33=>some (.stop z33))
def dN(a1:Int)(a2:Int)(d0:(List bd)):Option ((List bd)):=
  OB (cI (gZ a2 a1) ((GV .i64 (a1+1)),d0)) λa=>some a
def cz(a2:Int)(a1:Int)(d0:(List bd))(a3:Int):Unit->Option (pH (Unit) ((List bd))):=λ_=>
  if(decide ((GV .i64 (a2-a1))<=12))then(OB (dN a1 a2 d0) λa=>some (.stop a))else(if(a3==0)then(none)else(none))
def fG:Nat->Int->Int->Int->(List bd)->Option ((List bd))
  |0,_,_,_,_=>none
  |nfu+1,a1,a2,a3,d0=>
  OB (cI (cz a2 a1 d0 a3) ()) λa=>some a
def cP(a1:Int)(a2:Int)(a3:Int)(d0:(List bd)):Option ((List bd)):=recO λn=>fG n a1 a2 a3 d0
def dF(d0:(List bd)):Option ((List bd)):=
  OB (nN (GV .u64 (d0.length:Int))) λa=>OB (cP 0 (d0.length:Int) a d0) λc=>some c
def mJ(f:bz)(q:(List ac)×(List al)×Int)(l:Int)(p:(List bd)):(Int×(List ac))->Option (pH (Int×(List ac)) (Int×(List bd)×(List ac))):=fun(a,c)=>
  if(decide (a<(f.cf.length:Int)))then(OB (py f.cf a) λg=>OB (py q.1 g) λj=>OB (tE c [j] 104) λk=>some (.next ((GV .i64 (a+1)),k)))else(some (.stop (l,p,c)))
def f7(p:(List bz)×(List Int)×Int)(q:(List ac)×(List al)×Int)(a0:ai)(a1:ag):(Int×(List bd))->Option (pH (Int×(List bd)) (((List bd))⊕((List bd)×(List ac)×Int))):=fun(f,l)=>
  if(decide (f<(p.1.length:Int)))then(OB (py p.1 f) λg=>OB (cI (mJ g q f l) (0,([]:(List ac)))) λc=>OB (m8 a0 a1 c.2.2) λa=>if(a.2 != 0)then(some (.stop (.inr (([]:(List bd)),([]:(List ac)),a.2))))else(OB (qc a.1.gm) λj=>OB (tE c.2.1 [(bd.mk j a.1)] 248) λk=>some (.next ((GV .i64 (c.1+1)),k))))else(some (.stop (.inl l)))
def mK(k:(List bz)×(List Int)×Int)(l:(List ac)×(List al)×Int):(Int×(List ac))->Option (pH (Int×(List ac)) ((List ac))):=fun(a,c)=>
  if(decide (a<(k.2.1.length:Int)))then(OB (py k.2.1 a) λf=>OB (py l.1 f) λg=>OB (tE c [g] 104) λj=>some (.next ((GV .i64 (a+1)),j)))else(some (.stop c))
def qa(a0:ai)(a1:ag)(a2:(List ac)):Option ((List bd)×(List ac)×Int):=
  OB (gB a0 a1 a2) λa=>if(a.2.2 != 0)then(some (([]:(List bd)),([]:(List ac)),a.2.2))else(OB (hZ a0.ae a.2.1) λc=>if(c.2.2 != 0)then(some (([]:(List bd)),([]:(List ac)),c.2.2))else(OB (cI (f7 c a a0 a1) (0,([]:(List bd)))) λf=>match f with| .inl l=>(OB (dF l) λk=>OB (cI (mK c a) (0,([]:(List ac)))) λg=>some (k,g,0))| .inr j=>(some j)))
def dR(a0:al):Option (Bool):=
  OB (gM a0.bB) λa=>if a then(if(decide (a0.bA>=0))then(if(decide (a0.bA<=a0.bY))then(if(decide (a0.bY<=18014398509481984))then(if(decide (a0.cC>=1))then(some (decide (a0.cC<=100)))else(some false))else(some false))else(some false))else(some false))else(some false)
def gd(a1:(List al))(a0:aw):Int->Option (pH (Int) ((Unit)⊕(Int))):=λc=>
  if(decide (c<(a1.length:Int)))then(OB (py a1 c) λg=>OB (dR g) λj=>if(!j)then(some (.stop (.inr 23)))else(OB (py a1 c) λf=>OB (fk a0.bP a0.bt f.bB) λa=>if(a.2.2 != 0)then(some (.stop (.inr a.2.2)))else(some (.next (GV .i64 (c+1))))))else(some (.stop (.inl ())))
def mW(a0:aw)(a1:(List al)):Option (Int):=
  OB (f9 a0) λf=>if(!f)then(some 27)else(if(decide ((a1.length:Int)>256))then(some 8)else(OB (cI (gd a1 a0) 0) λa=>match a with| .inl _=>(some 0)| .inr c=>(some c)))
def lv(a2:(List Int))(a1:(List al)):(Int×(List al))->Option (pH (Int×(List al)) ((List al))):=fun(s1,s2)=>
  if(decide (s1<(a2.length:Int)))then(OB (py a2 s1) λa=>OB (py a1 a) λc=>OB (tE s2 [c] 48) λf=>some (.next ((GV .i64 (s1+1)),f)))else(some (.stop s2))
def nF(a0:aw)(a1:(List al))(a2:(List Int)):Option (aj):=
  OB (cI (lv a2 a1) (0,([]:(List al)))) λa=>some (aj.mk a0.bt a0.bP a a0.eV)
def jl(a0:aj):Int->Option (pH (Int) ((Unit)⊕(Int))):=λc=>
  if(decide (c<(a0.cB.length:Int)))then(OB (py a0.cB c) λf=>OB (dR f) λg=>if(!g)then(some (.stop (.inr 23)))else(OB (py a0.cB c) λj=>OB (fk a0.bP a0.bt j.bB) λa=>if(a.2.2 != 0)then(some (.stop (.inr a.2.2)))else(some (.next (GV .i64 (c+1))))))else(some (.stop (.inl ())))
def kH(a0:aj):Option (Int):=
  OB (cK a0.bt) λf=>if(!f)then(some 20)else(OB (dK a0.bP) λg=>if(g != 0)then(some 21)else(if((a0.cB.length:Int)==0)then(some 24)else(if(decide ((a0.cB.length:Int)>64))then(some 8)else(if(decide (a0.eV<1))then(some 2)else(if(decide (a0.eV>1099511627776))then(some 2)else(OB (cI (jl a0) 0) λa=>match a with| .inl _=>(some 0)| .inr c=>(some c)))))))
def kA(a0:ak)(a1:aa):Option (Bool):=
  OB (cK a0) λa=>if a then(if(decide (a1.fX>=a0.bo.fX))then(if(decide (a1.fX<=a0.ba.fX))then(if(decide (a1.fY>=a0.bo.fY))then(if(decide (a1.fY<=a0.ba.fY))then(if(decide (a1.fZ>=a0.bo.fZ))then(some (decide (a1.fZ<=a0.ba.fZ)))else(some false))else(some false))else(some false))else(some false))else(some false))else(some false)
def oh(a0:ak)(a1:ak):Option (Bool):=
  OB (cK a0) λa=>if a then(OB (kA a1 a0.bo) λc=>if c then(OB (kA a1 a0.ba) λf=>some f)else(some false))else(some false)
def qq(a0:bc)(a1:ak)(a2:al):Option (bC×Int):=
  OB (dK a0) λc=>if(c != 0)then(some ((bC.mk 0 0),21))else(OB (cK a1) λf=>if(!f)then(some ((bC.mk 0 0),20))else(OB (dR a2) λg=>if(!g)then(some ((bC.mk 0 0),23))else(OB (fk a0 a1 a2.bB) λa=>if(a.2.2 != 0)then(some ((bC.mk 0 0),a.2.2))else(some ((bC.mk (GV .i64 (a2.bA-a.2.1)) (GV .i64 (a2.bY-a.1))),0)))))
def gt(a0:aj)(a1:ak):(Int×(List bC))->Option (pH (Int×(List bC)) ((List bC))):=fun(a,j)=>
  if(decide (a<(a0.cB.length:Int)))then(OB (py a0.cB a) λc=>OB (qq a0.bP a1 c) λf=>OB (tE j [f.1] 16) λg=>some (.next ((GV .i64 (a+1)),g)))else(some (.stop j))
def mA(a0:aj)(a1:ak):Option ((List bC)×Int):=
  OB (kH a0) λc=>if(c != 0)then(some (([]:(List bC)),c))else(OB (oh a1 a0.bt) λf=>if(!f)then(some (([]:(List bC)),20))else(OB (cI (gt a0 a1) (0,([]:(List bC)))) λa=>some (a,0)))
def kG(a0:bC)(a1:Int):Option (Int):=
  some (if(GV .i64 (a1-a0.fTo))>(if(GV .i64 (a0.ck-a1))>0 then(GV .i64 (a0.ck-a1))else 0)then(GV .i64 (a1-a0.fTo))else(if(GV .i64 (a0.ck-a1))>0 then(GV .i64 (a0.ck-a1))else 0))
def jI(a1:(List bC))(a0:aj)(a2:Int):(Int×Int)->Option (pH (Int×Int) (Int)):=fun(s1,s2)=>
  if(decide (s2<(a1.length:Int)))then(OB (py a0.cB s2) λc=>OB (py a1 s2) λf=>OB (kG f a2) λa=>some (.next ((GV .i64 (s1+(GV .i64 (c.cC*(if a<a0.eV then a else a0.eV))))),(GV .i64 (s2+1)))))else(some (.stop s1))
def kF(a0:aj)(a1:(List bC))(a2:Int):Option (Int):=
  OB (cI (jI a1 a0 a2) (0,0)) λa=>some a
def kD(f:Int)(a:Int)(c:Int):Option (pH (Int×Int×Int) (Int×Int)):=
  some (.next (a,c,(GV .i64 (f+1))))
def iE(a0:aj)(a1:(List bC))(c:bC)(j:Int)(g:Int)(a:Int):Option (pH (Int×Int×Int) (Int×Int)):=
  OB (kF a0 a1 c.fTo) λf=>if(decide (f<a))then(kD j c.fTo f)else(if(f==a)then(if(decide (c.fTo<g))then(kD j c.fTo f)else(kD j g a))else(kD j g a))
def iF(a1:(List bC))(a0:aj):(Int×Int×Int)->Option (pH (Int×Int×Int) (Int×Int)):=fun(k,j,g)=>
  if(decide (g<(a1.length:Int)))then(OB (py a1 g) λa=>OB (py a1 g) λc=>OB (kF a0 a1 a.ck) λf=>if(decide (f<j))then(iE a0 a1 c g a.ck f)else(if(f==j)then(if(decide (a.ck<k))then(iE a0 a1 c g a.ck f)else(iE a0 a1 c g k j))else(iE a0 a1 c g k j)))else(some (.stop (k,j)))
def oQ(a0:aj)(a1:(List bC)):Option (Int×Int):=
  OB (py a1 0) λc=>OB (py a1 0) λf=>OB (kF a0 a1 f.ck) λg=>OB (cI (iF a1 a0) (c.ck,g,0)) λa=>some (a.1,a.2)
def iV(a0:aj)(a1:ak):Option (Int×Int):=
  OB (mA a0 a1) λa=>if(a.2 != 0)then(some (0,a.2))else(OB (oQ a0 a.1) λc=>some (c.2,0))
def oR(a0:(List bq)):(Int×Int)->Option (pH (Int×Int) (Int)):=fun(s1,s2)=>
  if(decide (s2<(a0.length:Int)))then(OB (py a0 s2) λc=>if(!c.gi)then(if(decide (s1<0))then(some (.next (s2,(GV .i64 (s2+1)))))else(OB (py a0 s2) λf=>OB (py a0 s1) λa=>if(decide (f.cg<a.cg))then(some (.next (s2,(GV .i64 (s2+1)))))else(some (.next (s1,(GV .i64 (s2+1)))))))else(some (.next (s1,(GV .i64 (s2+1))))))else(some (.stop s1))
def qr(a0:(List bq)):Option (Int):=
  OB (cI (oR a0) ((-1),0)) λa=>some a
def lu(a0:Int)(a1:Int):Option (Int):=
  OB (um .i64 (GV .i64 (a1-a0)) 2) λa=>some (GV .i64 (a0+a))
def lq(a0:ak):Option (aa):=
  OB (cK a0) λa=>if(!a)then(some (aa.mk 0 0 0))else(OB (lu a0.bo.fX a0.ba.fX) λc=>OB (lu a0.bo.fY a0.ba.fY) λf=>OB (lu a0.bo.fZ a0.ba.fZ) λg=>some (aa.mk c f g))
def pS(a0:aa):Option (ak):=
  some (ak.mk a0 a0)
def th(a0:aj)(a1:aa):Option (Int×Int×Int):=
  OB (pS a1) λf=>OB (mA a0 f) λa=>if(a.2 != 0)then(some (0,0,a.2))else(OB (oQ a0 a.1) λc=>some (c.1,c.2,0))
def og(a0:ak):Option (Int):=
  OB (cK a0) λa=>if(!a)then(some 0)else(some (GV .i64 ((GV .i64 ((GV .i64 ((GV .i64 (a0.ba.fX-a0.bo.fX))+1))*(GV .i64 ((GV .i64 (a0.ba.fY-a0.bo.fY))+1))))*(GV .i64 ((GV .i64 (a0.ba.fZ-a0.bo.fZ))+1)))))
def nU(a0:ak):Option (ak×ak×Bool):=
  OB (og a0) λc=>if(decide (c<2))then(some ((ak.mk (aa.mk 0 0 0) (aa.mk 0 0 0)),(ak.mk (aa.mk 0 0 0) (aa.mk 0 0 0)),false))else(OB (lq a0) λa=>if(decide ((GV .i64 (a0.ba.fX-a0.bo.fX))>=(GV .i64 (a0.ba.fY-a0.bo.fY))))then(if(decide ((GV .i64 (a0.ba.fX-a0.bo.fX))>=(GV .i64 (a0.ba.fZ-a0.bo.fZ))))then(some ((ak.mk a0.bo (aa.mk a.fX a0.ba.fY a0.ba.fZ)),(ak.mk (aa.mk (GV .i64 (a.fX+1)) a0.bo.fY a0.bo.fZ) a0.ba),true))else(if(decide ((GV .i64 (a0.ba.fY-a0.bo.fY))>=(GV .i64 (a0.ba.fZ-a0.bo.fZ))))then(some ((ak.mk a0.bo (aa.mk a0.ba.fX a.fY a0.ba.fZ)),(ak.mk (aa.mk a0.bo.fX (GV .i64 (a.fY+1)) a0.bo.fZ) a0.ba),true))else(some ((ak.mk a0.bo (aa.mk a0.ba.fX a0.ba.fY a.fZ)),(ak.mk (aa.mk a0.bo.fX a0.bo.fY (GV .i64 (a.fZ+1))) a0.ba),true))))else(if(decide ((GV .i64 (a0.ba.fY-a0.bo.fY))>=(GV .i64 (a0.ba.fZ-a0.bo.fZ))))then(some ((ak.mk a0.bo (aa.mk a0.ba.fX a.fY a0.ba.fZ)),(ak.mk (aa.mk a0.bo.fX (GV .i64 (a.fY+1)) a0.bo.fZ) a0.ba),true))else(some ((ak.mk a0.bo (aa.mk a0.ba.fX a0.ba.fY a.fZ)),(ak.mk (aa.mk a0.bo.fX a0.bo.fY (GV .i64 (a.fZ+1))) a0.ba),true))))
def qp(a0:ak)(a1:ak):Option (ak):=
  OB (cK a0) λa=>if(!a)then(some (ak.mk (aa.mk 0 0 0) (aa.mk 0 0 0)))else(OB (cK a1) λc=>if(!c)then(some (ak.mk (aa.mk 0 0 0) (aa.mk 0 0 0)))else(some (ak.mk (aa.mk (if a1.bo.fX<a0.bo.fX then a1.bo.fX else a0.bo.fX) (if a1.bo.fY<a0.bo.fY then a1.bo.fY else a0.bo.fY) (if a1.bo.fZ<a0.bo.fZ then a1.bo.fZ else a0.bo.fZ)) (aa.mk (if a1.ba.fX>a0.ba.fX then a1.ba.fX else a0.ba.fX) (if a1.ba.fY>a0.ba.fY then a1.ba.fY else a0.ba.fY) (if a1.ba.fZ>a0.ba.fZ then a1.ba.fZ else a0.ba.fZ)))))
def cG(c:(List bq))(p:Int)(a0:aj)(x:Int)(f:Int)(g:Int)(j:Int)(k:Int)(l:Int):Option (pH (Int×(List bq)×Int×Int×Int×Int×Int) ((Int×(List bq)×Int×Int×Int×Int×Int)⊕(ap×Int×Int))):=
  OB (inO c p) λ_=>OB (py c p) λq=>OB (nU q.ey) λa=>if a.2.2 then(OB (iV a0 a.1) λr=>OB (iV a0 a.2.1) λt=>OB (tE c [(bq.mk a.1 r.1 false),(bq.mk a.2.1 t.1 false)] 64) λu=>some (.next ((GV .i64 (x+1)),u,f,g,j,k,l)))else(some (.next ((GV .i64 (x+1)),c,f,g,j,k,l)))
def dl(k:Int)(x:(List bq))(c:Int)(a0:aj)(j:Int)(p:Int)(q:Int)(r:Int)(l:Int):Option (pH (Int×(List bq)×Int×Int×Int×Int×Int) ((Int×(List bq)×Int×Int×Int×Int×Int)⊕(ap×Int×Int))):=
  if(k==3000)then(some (.stop (.inr ((ap.mk (aa.mk 0 0 0) 0 0 0 (ak.mk (aa.mk 0 0 0) (aa.mk 0 0 0))),0,25))))else(OB (inO x c) λ_=>OB (yh x c (fun(z25:bq)=>(bq.mk z25.ey z25.cg true))) λg=>OB (inO g c) λ_=>OB (py g c) λt=>OB (lq t.ey) λa=>OB (th a0 a) λf=>if(k==0)then(cG g c a0 k a.fX a.fY a.fZ f.1 f.2.1)else(if(decide (f.2.1<j))then(cG g c a0 k a.fX a.fY a.fZ f.1 f.2.1)else(if(f.2.1==j)then(OB (gV a (aa.mk p q r)) λu=>if(decide (u<0))then(cG g c a0 k a.fX a.fY a.fZ f.1 f.2.1)else(cG g c a0 k p q r l j))else(cG g c a0 k p q r l j))))
def cQ(a1:Int)(a0:aj):(Int×(List bq)×Int×Int×Int×Int×Int)->Option (pH (Int×(List bq)×Int×Int×Int×Int×Int) ((Int×(List bq)×Int×Int×Int×Int×Int)⊕(ap×Int×Int))):=fun(j,g,k,l,p,f,a)=>
  OB (qr g) λc=>if(decide (c<0))then(some (.stop (.inl (j,g,k,l,p,f,a))))else(if(decide (j>0))then(OB (inO g c) λ_=>OB (py g c) λq=>if(decide ((GV .i64 (a-q.cg))<=a1))then(some (.stop (.inl (j,g,k,l,p,f,a))))else(dl j g c a0 a k l p f))else(dl j g c a0 a k l p f))
def fW(c:Int×(List bq)×Int×Int×Int×Int×Int):(Int×Int×Int×Int×Int×Int×Int×Int)->Option (pH (Int×Int×Int×Int×Int×Int×Int×Int) (Int×Int×Int×Int×Int×Int×Int)):=fun(a,g,j,k,l,p,q,r)=>
  if(decide (a<(c.2.1.length:Int)))then(OB (inO c.2.1 a) λ_=>OB (py c.2.1 a) λu=>if(!u.gi)then(OB (inO c.2.1 a) λ_=>OB (py c.2.1 a) λx=>if(decide (x.cg<c.2.2.2.2.2.2))then(OB (inO c.2.1 a) λ_=>OB (py c.2.1 a) λt=>OB (inO c.2.1 a) λ_=>OB (py c.2.1 a) λy=>OB (qp (ak.mk (aa.mk j k l) (aa.mk p q r)) y.ey) λf=>some (.next ((GV .i64 (a+1)),(if t.cg<g then t.cg else g),f.bo.fX,f.bo.fY,f.bo.fZ,f.ba.fX,f.ba.fY,f.ba.fZ)))else(some (.next ((GV .i64 (a+1)),g,j,k,l,p,q,r))))else(some (.next ((GV .i64 (a+1)),g,j,k,l,p,q,r))))else(some (.stop (g,j,k,l,p,q,r)))
def oi(a0:aj)(a1:Int):Option (ap×Int×Int):=
  OB (kH a0) λj=>if(j != 0)then(some ((ap.mk (aa.mk 0 0 0) 0 0 0 (ak.mk (aa.mk 0 0 0) (aa.mk 0 0 0))),0,j))else(if(decide (a1<0))then(some ((ap.mk (aa.mk 0 0 0) 0 0 0 (ak.mk (aa.mk 0 0 0) (aa.mk 0 0 0))),0,2))else(OB (iV a0 a0.bt) λk=>OB (cI (cQ a1 a0) (0,[(bq.mk a0.bt k.1 false)],0,0,0,0,0)) λf=>match f with| .inl a=>(OB (cI (fW a) (0,a.2.2.2.2.2.2,a.2.2.1,a.2.2.2.1,a.2.2.2.2.1,a.2.2.1,a.2.2.2.1,a.2.2.2.2.1)) λc=>some ((ap.mk (aa.mk a.2.2.1 a.2.2.2.1 a.2.2.2.2.1) a.2.2.2.2.2.1 a.2.2.2.2.2.2 c.1 (ak.mk (aa.mk c.2.1 c.2.2.1 c.2.2.2.1) (aa.mk c.2.2.2.2.1 c.2.2.2.2.2.1 c.2.2.2.2.2.2))),a.1,0))| .inr g=>(some g)))
def mV(a0:aj)(a1:Int):Option (ap×Int):=
  OB (oi a0 a1) λa=>some (a.1,a.2.2)
def ij(k:(List bC)×Int)(a2:Int):(Int×(List Int))->Option (pH (Int×(List Int)) ((List Int))):=fun(a,j)=>
  if(decide (a<(k.1.length:Int)))then(OB (py k.1 a) λc=>OB (kG c a2) λf=>OB (tE j [f] 8) λg=>some (.next ((GV .i64 (a+1)),g)))else(some (.stop j))
def jx(a0:aj)(a1:aa)(a2:Int):Option ((List Int)×Int):=
  OB (pS a1) λf=>OB (mA a0 f) λc=>if(c.2 != 0)then(some (([]:(List Int)),c.2))else(if(decide (a2<(-18014398509481984)))then(some (([]:(List Int)),2))else(if(decide (a2>18014398509481984))then(some (([]:(List Int)),2))else(OB (cI (ij c a2) (0,([]:(List Int)))) λa=>some (a,0))))
def ref30_sorted_l17(s2:(List Int))(a0:(List Int))(s1:Int):Int->Option (pH (Int) (Int×Int×(List Int))):=λa=>
  if(decide (a<(s2.length:Int)))then(OB (inO s2 a) λ_=>OB (py s2 a) λc=>OB (py a0 s1) λf=>if(decide (c<f))then(some (.next (GV .i64 (a+1))))else(some (.stop (s1,a,s2))))else(some (.stop (s1,a,s2)))
def ref30_sorted_l29(a0:(List Int)):(Int×(List Int))->Option (pH (Int×(List Int)) ((List Int))):=fun(s1,s2)=>
  if(decide (s1<(a0.length:Int)))then(OB (cI (ref30_sorted_l17 s2 a0 s1) 0) λa=>OB (tE a.2.2 [0] 8) λc=>OB (wQ c.length (GV .i64 (a.2.1+1)) (c.length:Int)) λ_=>OB (wQ c.length a.2.1 (c.length:Int)) λ_=>OB (yK c.length (0+((GV .i64 (a.2.1+1)):Int).toNat) (0+((c.length:Int):Int).toNat)) λ_=>OB (xg c (0+(a.2.1:Int).toNat) (0+((c.length:Int):Int).toNat)) λf=>OB (py a0 a.1) λg=>OB (inO (we c (0+((GV .i64 (a.2.1+1)):Int).toNat) ((0+((c.length:Int):Int).toNat)-(0+((GV .i64 (a.2.1+1)):Int).toNat)) f) a.2.1) λ_=>OB (vd (we c (0+((GV .i64 (a.2.1+1)):Int).toNat) ((0+((c.length:Int):Int).toNat)-(0+((GV .i64 (a.2.1+1)):Int).toNat)) f) a.2.1 g) λj=>some (.next ((GV .i64 (a.1+1)),j)))else(some (.stop s2))
def jm(a0:(List Int)):Option ((List Int)):=
  OB (cI (ref30_sorted_l29 a0) (0,([]:(List Int)))) λa=>some a
def dL(a2:(List Int))(a1:(List al))(a0:aw):(Int×(List Int))->Option (pH (Int×(List Int)) ((List Int))):=fun(s1,s2)=>
  if(decide (s1<(a2.length:Int)))then(if(decide ((s2.length:Int)<16))then(OB (py a2 s1) λg=>OB (py a1 g) λj=>OB (py a2 0) λk=>OB (py a1 k) λa=>if(decide (j.bA<=(GV .i64 (a.bA+a0.df))))then(OB (py a2 s1) λc=>OB (tE s2 [c] 8) λf=>some (.next ((GV .i64 (s1+1)),f)))else(some (.next ((GV .i64 (s1+1)),s2))))else(some (.stop s2)))else(some (.stop s2))
def gu(f:(List Int))(g:(List Int)×Int)(a0:aw):(Int×(List Int))->Option (pH (Int×(List Int)) ((List Int))):=fun(a,c)=>
  if(decide (a<(f.length:Int)))then(OB (py g.1 a) λj=>if(decide (j<=a0.dH))then(OB (py f a) λk=>OB (tE c [k] 8) λl=>some (.next ((GV .i64 (a+1)),l)))else(some (.next ((GV .i64 (a+1)),c))))else(some (.stop c))
def mB(a0:aw)(a1:(List al))(a2:(List Int)):Option (bz×Bool×Int):=
  OB (cI (dL a2 a1 a0) (0,([]:(List Int)))) λc=>if(decide ((c.length:Int)<a0.de))then(some ((bz.mk [] (aa.mk 0 0 0) 0),false,0))else(OB (nF a0 a1 c) λg=>OB (mV g a0.bD) λa=>if(a.2 != 0)then(some ((bz.mk [] (aa.mk 0 0 0) 0),false,a.2))else(OB (jx g a.1.bU a.1.bS) λj=>OB (cI (gu c j a0) (0,([]:(List Int)))) λf=>OB (jm f) λk=>some ((bz.mk k a.1.bU a.1.bS),(decide ((f.length:Int)>=a0.de)),0)))
def kK(a0:(List Int))(a1:Int):Int->Option (pH (Int) ((Unit)⊕(Bool))):=λs1=>
  if(decide (s1<(a0.length:Int)))then(OB (py a0 s1) λa=>if(a==a1)then(some (.stop (.inr true)))else(some (.next (GV .i64 (s1+1)))))else(some (.stop (.inl ())))
def ti(a0:(List Int))(a1:Int):Option (Bool):=
  OB (cI (kK a0 a1) 0) λa=>match a with| .inl _=>(some false)| .inr c=>(some c)
def jV(a0:(List Int))(a1:(List Int)):(Int×(List Int))->Option (pH (Int×(List Int)) ((List Int))):=fun(s1,s2)=>
  if(decide (s1<(a0.length:Int)))then(OB (py a0 s1) λc=>OB (ti a1 c) λf=>if(!f)then(OB (py a0 s1) λg=>OB (tE s2 [g] 8) λa=>some (.next ((GV .i64 (s1+1)),a)))else(some (.next ((GV .i64 (s1+1)),s2))))else(some (.stop s2))
def nG(a0:(List Int))(a1:(List Int)):Option ((List Int)):=
  OB (cI (jV a0 a1) (0,([]:(List Int)))) λa=>some a
def ct(a0:aw)(a1:(List al)):((List Int)×(List bz)×(List Int))->Option (pH ((List Int)×(List bz)×(List Int)) (((List bz)×(List Int))⊕((List bz)×(List Int)×Int))):=fun(c,f,g)=>
  if(decide ((c.length:Int)>0))then(OB (mB a0 a1 c) λa=>if(a.2.2 != 0)then(some (.stop (.inr (([]:(List bz)),([]:(List Int)),a.2.2))))else(if a.2.1 then(OB (tE f [a.1] 56) λj=>OB (nG c a.1.cf) λk=>some (.next (k,j,g)))else(OB (py c 0) λl=>OB (tE g [l] 8) λp=>OB (w6 c 1 (c.length:Int)) λq=>some (.next (q,f,p)))))else(some (.stop (.inl (f,g))))
def md(a0:aw)(a1:(List al)):Option ((List bz)×(List Int)×Int):=
  OB (mW a0 a1) λj=>if(j != 0)then(some (([]:(List bz)),([]:(List Int)),j))else(OB (kJ a1) λk=>OB (cI (ct a0 a1) (k,([]:(List bz)),([]:(List Int)))) λc=>match c with| .inl a=>(OB (jm a.2) λg=>some (a.1,g,0))| .inr f=>(some f))
def jZ(k:(List ac))(a0:ai)(a1:ag):(Int×(List al))->Option (pH (Int×(List al)) ((List al))):=fun(a,j)=>
  if(decide (a<(k.length:Int)))then(OB (py k a) λc=>OB (gN a0 a1 c) λf=>OB (tE j [f.1] 48) λg=>some (.next ((GV .i64 (a+1)),g)))else(some (.stop j))
def gW(a0:ai)(a1:ag)(a2:(List ac)):Option (aj×Int):=
  OB (cr a0) λc=>if(c != 0)then(some ((aj.mk (ak.mk (aa.mk 0 0 0) (aa.mk 0 0 0)) (bc.mk 0 [] []) [] 0),27))else(OB (gL a1) λf=>if(!f)then(some ((aj.mk (ak.mk (aa.mk 0 0 0) (aa.mk 0 0 0)) (bc.mk 0 [] []) [] 0),1))else(OB (iX a0 a1 a2) λg=>OB (cI (jZ g a0 a1) (0,([]:(List al)))) λa=>if((a.length:Int)==0)then(some ((aj.mk (ak.mk (aa.mk 0 0 0) (aa.mk 0 0 0)) (bc.mk 0 [] []) [] 0),24))else(if(decide ((a.length:Int)>64))then(some ((aj.mk (ak.mk (aa.mk 0 0 0) (aa.mk 0 0 0)) (bc.mk 0 [] []) [] 0),8))else(some ((aj.mk a0.ae.bt a0.ae.bP a a0.ae.eV),0)))))
def eQ:(Int×(List Int))->Option (pH (Int×(List Int)) ((List Int))):=fun(s2,s3)=>
  if(decide (s2>0))then(OB (wO s2 1073741824) λa=>OB (tE s3 [a] 8) λc=>OB (um .i64 s2 1073741824) λf=>some (.next (f,c)))else(some (.stop s3))
def qj(a0:Int):Option ((List Int)×Int):=
  if(decide (a0<0))then(some (([]:(List Int)),2))else(OB (cI (eQ) (a0,([]:(List Int)))) λa=>some (a,0))
def oL(a0:(List Int)):Int->Option (pH (Int) ((Unit)⊕(Bool))):=λs1=>
  if(decide (s1<(a0.length:Int)))then(OB (py a0 s1) λa=>OB (cZ a 0 1073741823) λc=>if(!c)then(some (.stop (.inr false)))else(some (.next (GV .i64 (s1+1)))))else(some (.stop (.inl ())))
def fS(a0:(List Int)):Option (Bool):=
  OB (cI (oL a0) 0) λf=>match f with| .inl _=>(if(decide ((a0.length:Int)<=64))then(if((a0.length:Int)==0)then(some true)else(OB (py a0 (GV .i64 ((a0.length:Int)-1))) λc=>some (c != 0)))else(some false))| .inr a=>(some a)
def rV:(List Int)->Option (pH ((List Int)) ((List Int))):=λs1=>
  if(decide ((s1.length:Int)>0))then(OB (py s1 (GV .i64 ((s1.length:Int)-1))) λa=>if(a==0)then(OB (w6 s1 0 (GV .i64 ((s1.length:Int)-1))) λc=>some (.next c))else(some (.stop s1)))else(some (.stop s1))
def ref17_trim(a0:(List Int)):Option ((List Int)):=
  OB (cI (rV) a0) λa=>some a
def nB(k:(List Int))(s2:Int)(c:Int)(a:Int):Option (pH (Int×Int×(List Int)) (Int×(List Int))):=
  OB (wO a 1073741824) λf=>OB (inO k (GV .i64 (s2+c))) λ_=>OB (vd k (GV .i64 (s2+c)) f) λg=>OB (um .i64 a 1073741824) λj=>some (.next (j,(GV .i64 (c+1)),g))
def nC(f:(List Int))(s2:Int)(a:Int)(a1:(List Int))(a0:(List Int))(k:Int):Option (pH (Int×Int×(List Int)) (Int×(List Int))):=
  OB (inO f (GV .i64 (s2+a))) λ_=>OB (py f (GV .i64 (s2+a))) λc=>if(decide (a<(a1.length:Int)))then(OB (py a0 s2) λg=>OB (py a1 a) λj=>nB f s2 a (GV .i64 ((GV .i64 (k+c))+(GV .i64 (g*j)))))else(nB f s2 a (GV .i64 (k+c)))
def eN(a1:(List Int))(s2:Int)(a0:(List Int)):(Int×Int×(List Int))->Option (pH (Int×Int×(List Int)) (Int×(List Int))):=fun(a,c,f)=>
  if(decide (c<(a1.length:Int)))then(nC f s2 c a1 a0 a)else(if(decide (a>0))then(nC f s2 c a1 a0 a)else(some (.stop (s2,f))))
def jF(a0:(List Int))(a1:(List Int)):(Int×(List Int))->Option (pH (Int×(List Int)) ((List Int))):=fun(s2,s3)=>
  if(decide (s2<(a0.length:Int)))then(OB (cI (eN a1 s2 a0) (0,0,s3)) λa=>some (.next ((GV .i64 (a.1+1)),a.2)))else(some (.stop s3))
def pQ(a0:(List Int))(a1:(List Int)):Option ((List Int)):=
  OB (mkO (GV .i64 ((a0.length:Int)+(a1.length:Int))) 0 8) λf=>OB (cI (jF a0 a1) (0,f)) λa=>OB (ref17_trim a) λc=>some c
def fj(a0:(List Int)):Option ((List Int)×Int):=
  if(decide ((a0.length:Int)>64))then(some (([]:(List Int)),8))else(some (a0,0))
def nj(a0:(List Int))(a1:(List Int)):Option ((List Int)×Int):=
  OB (fS a0) λc=>if(!c)then(some (([]:(List Int)),1))else(OB (fS a1) λf=>if(!f)then(some (([]:(List Int)),1))else(OB (pQ a0 a1) λg=>OB (fj g) λa=>some (a.1,a.2)))
def fK(a0:Int):Option ((List Int)):=
  OB (qj (if(GV .i64 (0-a0))>a0 then(GV .i64 (0-a0))else a0)) λa=>OB (nj a.1 a.1) λc=>some c.1
def lQ(k:(List Int))(j:Int)(a:Int):Option (pH (Int×Int×(List Int)) ((List Int))):=
  OB (wO a 1073741824) λc=>OB (tE k [c] 8) λf=>OB (um .i64 a 1073741824) λg=>some (.next (g,(GV .i64 (j+1)),f))
def lR(c:Int)(a1:(List Int))(g:(List Int))(a:Int):Option (pH (Int×Int×(List Int)) ((List Int))):=
  if(decide (c<(a1.length:Int)))then(OB (py a1 c) λf=>lQ g c (GV .i64 (a+f)))else(lQ g c a)
def jD(a:Int)(a0:(List Int))(a1:(List Int))(g:(List Int))(f:Int):Option (pH (Int×Int×(List Int)) ((List Int))):=
  if(decide (a<(a0.length:Int)))then(OB (py a0 a) λc=>lR a a1 g (GV .i64 (f+c)))else(lR a a1 g f)
def fi(a0:(List Int))(a1:(List Int)):(Int×Int×(List Int))->Option (pH (Int×Int×(List Int)) ((List Int))):=fun(c,a,f)=>
  if(decide (a<(a0.length:Int)))then(jD a a0 a1 f c)else(if(decide (a<(a1.length:Int)))then(jD a a0 a1 f c)else(if(decide (c>0))then(jD a a0 a1 f c)else(some (.stop f))))
def rK(a0:(List Int))(a1:(List Int)):Option ((List Int)×Int):=
  OB (fS a0) λf=>if(!f)then(some (([]:(List Int)),1))else(OB (fS a1) λg=>if(!g)then(some (([]:(List Int)),1))else(OB (cI (fi a0 a1) (0,0,([]:(List Int)))) λc=>OB (fj c) λa=>some (a.1,a.2)))
def ju(a0:bH)(a1:Int)(a2:Int):Option ((List Int)):=
  OB (fK (GV .i64 ((GV .i64 ((GV .i64 (a0.a0*a2))*a2))-(GV .i64 ((GV .i64 (a0.a2*a1))*a1))))) λa=>OB (fK (GV .i64 ((GV .i64 (a0.a1*a1))*a2))) λc=>OB (rK a c) λf=>some f.1
def qm(a0:bw)(a1:Int)(a2:Int):Option (bu):=
  if(a0.cU==0)then(OB (fK a0.bR.a0) λc=>OB (fK a0.bO.a0) λf=>some (bu.mk c f))else(if(a0.cU==1)then(OB (ju a0.bR a1 a2) λg=>OB (ju a0.bO a1 a2) λj=>some (bu.mk g j))else(OB (ky a0.cx) λk=>OB (fK k) λl=>OB (yI .i64 1 (GV .u64 a0.cM)) λp=>OB (fK p) λa=>some (bu.mk l a)))
def fF(a0:bu):Option (Bool):=
  OB (fS a0.bR) λa=>if a then(OB (fS a0.bO) λc=>if c then(some (decide ((a0.bO.length:Int)>0)))else(some false))else(some false)
def pg(a0:bu)(a1:bu):Option (bu×Int):=
  OB (fF a0) λf=>if(!f)then(some ((bu.mk [] []),1))else(OB (fF a1) λg=>if(!g)then(some ((bu.mk [] []),1))else(OB (nj a0.bR a1.bR) λa=>OB (nj a0.bO a1.bO) λc=>if(a.2 != 0)then(some ((bu.mk [] []),8))else(if(c.2 != 0)then(some ((bu.mk [] []),8))else(some ((bu.mk a.1 c.1),0)))))
def dZ(a0:bv)(a1:Int)(a2:Int):(Int×(List Int)×(List Int))->Option (pH (Int×(List Int)×(List Int)) (((List Int)×(List Int))⊕(bu×Int))):=fun(f,j,k)=>
  if(decide (f<(a0.bJ.length:Int)))then(OB (py a0.bJ f) λg=>OB (qm g a1 a2) λa=>if((a.bO.length:Int)==0)then(some (.stop (.inr ((bu.mk [] []),11))))else(OB (pg (bu.mk j k) a) λc=>some (.next ((GV .i64 (f+1)),c.1.bR,c.1.bO))))else(some (.stop (.inl (j,k))))
def ql(a0:bv)(a1:Int)(a2:Int):Option (bu×Int):=
  OB (nT a0) λg=>if(!g)then(some ((bu.mk [] []),1))else(OB (cZ a1 0 65536) λj=>if(!j)then(some ((bu.mk [] []),2))else(OB (cZ a2 1 65536) λk=>if(!k)then(some ((bu.mk [] []),2))else(OB (cI (dZ a0 a1 a2) (0,[1],[1])) λc=>match c with| .inl a=>(some ((bu.mk a.1 a.2),0))| .inr f=>(some f))))
def n9:(Int×Int)->Option (pH (Int×Int) (Int)):=fun(s1,s2)=>
  if(decide (s1>0))then(some (.next ((tU .i64 s1 1),(GV .i64 (s2+1)))))else(some (.stop s2))
def lw(a0:Int):Option (Int):=
  OB (cI (n9) (a0,0)) λa=>some a
def dM:(Int×Int×Int)->Option (pH (Int×Int×Int) (Int)):=fun(s1,s2,s3)=>
  if(decide (s3<8))then(if(decide ((tU .i64 (GV .i64 (s1*s1)) 30)>=2147483648))then(some (.next ((tU .i64 (tU .i64 (GV .i64 (s1*s1)) 30) 1),(GV .i64 ((GV .i64 (s2*2))+1)),(GV .i64 (s3+1)))))else(some (.next ((tU .i64 (GV .i64 (s1*s1)) 30),(GV .i64 (s2*2)),(GV .i64 (s3+1))))))else(some (.stop s2))
def iW(a0:Int)(a1:Int):Option (Int):=
  OB (cI (dM) (a1,0,0)) λa=>some (GV .i64 ((GV .i64 (256*a0))+a))
def oz(a0:Int):Option (Int×Int):=
  if(decide (a0<1))then(some (0,2))else(OB (lw a0) λa=>if(decide ((GV .i64 (a-1))<=30))then(OB (yI .i64 a0 (GV .u64 (GV .i64 (30-(GV .i64 (a-1)))))) λc=>OB (iW (GV .i64 (a-1)) c) λf=>some (f,0))else(OB (BC .i64 a0 (GV .u64 (GV .i64 ((GV .i64 (a-1))-30)))) λg=>OB (iW (GV .i64 (a-1)) g) λj=>some (j,0)))
def cY(a0:(List Int)):(Int×Int)->Option (pH (Int×Int) (Int)):=fun(f,a)=>
  if(decide (a>=0))then(OB (py a0 a) λc=>some (.next ((orI .i64 (xG .i64 f 30) c),(GV .i64 (a-1)))))else(some (.stop f))
def mX(a0:(List Int)):Option (Int×Int):=
  OB (fS a0) λp=>if(!p)then(some (0,1))else(if((a0.length:Int)==0)then(some (0,2))else(if(decide ((a0.length:Int)<=2))then(OB (cI (cY a0) (0,(GV .i64 ((a0.length:Int)-1)))) λj=>OB (oz j) λa=>some (a.1,a.2))else(OB (py a0 (GV .i64 ((a0.length:Int)-1))) λc=>OB (py a0 (GV .i64 ((a0.length:Int)-2))) λf=>OB (lw (orI .i64 (xG .i64 c 30) f)) λg=>OB (BC .i64 (orI .i64 (xG .i64 c 30) f) (GV .u64 (GV .i64 (g-31)))) λk=>OB (iW (GV .i64 ((GV .i64 ((GV .i64 (30*(GV .i64 ((a0.length:Int)-2))))+g))-1)) k) λl=>some (l,0))))
def oS(a0:Int):Option (Int):=
  OB (um .i64 (GV .i64 (a0-(andI .i64 a0 1))) 2) λa=>some a
def nV(a0:Int):Option (Int):=
  if(decide (a0<(-16777216)))then(some 0)else(if(decide (a0>16777216))then(some 0)else(OB (um .i64 (GV .i64 (a0*30103)) 256000) λa=>if(decide ((GV .i64 (a*256000))>(GV .i64 (a0*30103))))then(some (GV .i64 (a-1)))else(some a)))
def qu(a0:Int):Option (Int):=
  OB (nV (GV .i64 (0-a0))) λa=>some (GV .i64 (0-a))
def lW(a0:bK)(a1:bv)(a2:Int)(a3:Int)(a4:Int):Option (bh×Int):=
  OB (iI a0) λr=>if(!r)then(some ((bh.mk 0 0),27))else(if(decide (a2<1))then(some ((bh.mk 0 0),2))else(if(decide (a2>1073741823))then(some ((bh.mk 0 0),2))else(OB (ql a1 a0.bR a0.bO) λg=>if(g.2 != 0)then(some ((bh.mk 0 0),g.2))else(if((g.1.bR.length:Int)==0)then(some ((bh.mk 0 0),24))else(OB (jH a0.bN a3 a4) λj=>if(j.2.2 != 0)then(some ((bh.mk 0 0),j.2.2))else(OB (oz a2) λa=>OB (mX g.1.bR) λc=>OB (mX g.1.bO) λf=>OB (oS (GV .i64 ((GV .i64 ((GV .i64 ((GV .i64 (2*a.1))+f.1))-c.1))-2))) λk=>OB (nV k) λl=>OB (oS (GV .i64 (0-(GV .i64 ((GV .i64 ((GV .i64 ((GV .i64 (2*a.1))+f.1))-c.1))+6))))) λp=>OB (qu (GV .i64 (0-p))) λq=>some ((bh.mk (GV .i64 (l+j.1)) (GV .i64 (q+j.2.1))),0)))))))
def eT(q:(List ac))(a1:ag)(a3:ak)(a0:ai):(Int×(List bh))->Option (pH (Int×(List bh)) ((List bh))):=fun(g,j)=>
  if(decide (g<(q.length:Int)))then(OB (py q g) λa=>OB (pR a1 a.az a.bS) λc=>OB (kB a3 c.1.bW) λk=>OB (my a3 c.1.bW) λl=>OB (lW a0.bX c.1.b7 a.bG k l) λf=>if(f.2==0)then(OB (tE j [f.1] 16) λp=>some (.next ((GV .i64 (g+1)),p)))else(some (.next ((GV .i64 (g+1)),j))))else(some (.stop j))
def me(a0:ai)(a1:ag)(a2:(List ac))(a3:ak):Option ((List bh)×Int):=
  OB (cr a0) λc=>if(c != 0)then(some (([]:(List bh)),27))else(OB (gL a1) λf=>if(!f)then(some (([]:(List bh)),1))else(OB (cK a3) λg=>if(!g)then(some (([]:(List bh)),20))else(OB (iX a0 a1 a2) λj=>OB (cI (eT j a1 a3 a0) (0,([]:(List bh)))) λa=>some (a,0))))
def nn(s2:(List Int))(a0:(List Int))(s1:Int):Int->Option (pH (Int) (Int×Int×(List Int))):=λa=>
  if(decide (a<(s2.length:Int)))then(OB (inO s2 a) λ_=>OB (py s2 a) λc=>OB (py a0 s1) λf=>if(decide (c<f))then(some (.next (GV .i64 (a+1))))else(some (.stop (s1,a,s2))))else(some (.stop (s1,a,s2)))
def pT(a0:(List Int)):(Int×(List Int))->Option (pH (Int×(List Int)) ((List Int))):=fun(s1,s2)=>
  if(decide (s1<(a0.length:Int)))then(OB (cI (nn s2 a0 s1) 0) λa=>OB (tE a.2.2 [0] 8) λc=>OB (wQ c.length (GV .i64 (a.2.1+1)) (c.length:Int)) λ_=>OB (wQ c.length a.2.1 (c.length:Int)) λ_=>OB (yK c.length (0+((GV .i64 (a.2.1+1)):Int).toNat) (0+((c.length:Int):Int).toNat)) λ_=>OB (xg c (0+(a.2.1:Int).toNat) (0+((c.length:Int):Int).toNat)) λf=>OB (py a0 a.1) λg=>OB (inO (we c (0+((GV .i64 (a.2.1+1)):Int).toNat) ((0+((c.length:Int):Int).toNat)-(0+((GV .i64 (a.2.1+1)):Int).toNat)) f) a.2.1) λ_=>OB (vd (we c (0+((GV .i64 (a.2.1+1)):Int).toNat) ((0+((c.length:Int):Int).toNat)-(0+((GV .i64 (a.2.1+1)):Int).toNat)) f) a.2.1 g) λj=>some (.next ((GV .i64 (a.1+1)),j)))else(some (.stop s2))
def lx(a0:(List Int)):Option ((List Int)):=
  OB (cI (pT a0) (0,([]:(List Int)))) λa=>some a
def mY(a0:(List Int)):Option (Int):=
  OB (lx a0) λa=>OB (um .i64 (GV .i64 ((a0.length:Int)-1)) 2) λc=>OB (py a c) λf=>some f
def jW(a0:(List bh)):(Int×(List Int)×(List Int))->Option (pH (Int×(List Int)×(List Int)) (((List Int)×(List Int))⊕(bh×Int))):=fun(s2,s3,k)=>
  if(decide (s2<(a0.length:Int)))then(OB (py a0 s2) λl=>OB (py a0 s2) λa=>if(decide (l.bo>a.ba))then(some (.stop (.inr ((bh.mk 0 0),1))))else(OB (py a0 s2) λc=>OB (tE s3 [c.bo] 8) λf=>OB (py a0 s2) λg=>OB (tE k [g.ba] 8) λj=>some (.next ((GV .i64 (s2+1)),f,j))))else(some (.stop (.inl (s3,k))))
def lV(a0:(List bh)):Option (bh×Int):=
  if((a0.length:Int)==0)then(some ((bh.mk 0 0),24))else(OB (cI (jW a0) (0,([]:(List Int)),([]:(List Int)))) λc=>match c with| .inl a=>(OB (mY a.1) λg=>OB (mY a.2) λj=>some ((bh.mk g j),0))| .inr f=>(some f))
def pj(a0:ai)(a1:ag)(a2:(List ac)):Option (bQ×Int):=
  OB (gW a0 a1 a2) λc=>if(c.2 != 0)then(some ((bQ.mk [] (ap.mk (aa.mk 0 0 0) 0 0 0 (ak.mk (aa.mk 0 0 0) (aa.mk 0 0 0))) (bh.mk 0 0) 0),c.2))else(OB (mV c.1 a0.bD) λa=>if(a.2 != 0)then(some ((bQ.mk [] (ap.mk (aa.mk 0 0 0) 0 0 0 (ak.mk (aa.mk 0 0 0) (aa.mk 0 0 0))) (bh.mk 0 0) 0),a.2))else(OB (me a0 a1 a2 a.1.ca) λf=>OB (lV f.1) λg=>OB (iX a0 a1 a2) λj=>some ((bQ.mk j a.1 g.1 (f.1.length:Int)),0)))
def lX(a0:ac)(a1:ac):Option (Int):=
  if(decide (a0.bS<a1.bS))then(some (-1))else(if(decide (a0.bS>a1.bS))then(some 1)else(OB (lT a0 a1) λa=>some a))
def iJ(a0:(List ac)):(Int×(List UInt8)×(List UInt8)×(List UInt8)×(List UInt8)×Int×Int×Int×Int×Int)->Option (pH (Int×(List UInt8)×(List UInt8)×(List UInt8)×(List UInt8)×Int×Int×Int×Int×Int) ((List UInt8)×(List UInt8)×(List UInt8)×(List UInt8)×Int×Int×Int×Int×Int)):=fun(s2,s3,g,j,k,l,p,q,c,f)=>
  if(decide (s2<(a0.length:Int)))then(OB (py a0 s2) λr=>OB (lX r (ac.mk (bn.mk s3 g j k) l p q c f)) λt=>if(decide (t<0))then(OB (py a0 s2) λa=>some (.next ((GV .i64 (s2+1)),a.az.bI,a.az.bB,a.az.bg,a.az.bL,a.bS,a.bA,a.bY,a.bG,a.bM)))else(some (.next ((GV .i64 (s2+1)),s3,g,j,k,l,p,q,c,f))))else(some (.stop (s3,g,j,k,l,p,q,c,f)))
def qx(a0:(List ac)):Option (ac):=
  OB (py a0 0) λc=>OB (cI (iJ a0) (1,c.az.bI,c.az.bB,c.az.bg,c.az.bL,c.bS,c.bA,c.bY,c.bG,c.bM)) λa=>some (ac.mk (bn.mk a.1 a.2.1 a.2.2.1 a.2.2.2.1) a.2.2.2.2.1 a.2.2.2.2.2.1 a.2.2.2.2.2.2.1 a.2.2.2.2.2.2.2.1 a.2.2.2.2.2.2.2.2)
def oa(a0:(List bd))(a1:bd):Int->Option (pH (Int) (Int)):=λs1=>
  if(decide (s1<(a0.length:Int)))then(OB (py a0 s1) λa=>OB (lX a.cL a1.cL) λc=>if(decide (c<0))then(some (.next (GV .i64 (s1+1))))else(some (.stop s1)))else(some (.stop s1))
def m5(a0:(List bd))(a1:bd):Option ((List bd)):=
  OB (cI (oa a0 a1) 0) λk=>OB (w6 a0 0 k) λa=>OB (tE ([]:List bd) a 248) λc=>OB (tE c [a1] 248) λf=>OB (w6 a0 k (a0.length:Int)) λg=>OB (tE f g 248) λj=>some j
def kM(f:bz)(q:(List ac)×(List al)×Int)(l:(List bd))(p:Int):(Int×(List ac))->Option (pH (Int×(List ac)) ((List bd)×Int×(List ac))):=fun(a,c)=>
  if(decide (a<(f.cf.length:Int)))then(OB (py f.cf a) λg=>OB (py q.1 g) λj=>OB (tE c [j] 104) λk=>some (.next ((GV .i64 (a+1)),k)))else(some (.stop (l,p,c)))
def fm(p:(List bz)×(List Int)×Int)(q:(List ac)×(List al)×Int)(a0:ai)(a1:ag):((List bd)×Int)->Option (pH ((List bd)×Int) (((List bd))⊕((List bd)×(List ac)×Int))):=fun(l,f)=>
  if(decide (f<(p.1.length:Int)))then(OB (py p.1 f) λg=>OB (cI (kM g q l f) (0,([]:(List ac)))) λc=>OB (pj a0 a1 c.2.2) λa=>if(a.2 != 0)then(some (.stop (.inr (([]:(List bd)),([]:(List ac)),a.2))))else(OB (qx a.1.gm) λj=>OB (m5 c.1 (bd.mk j a.1)) λk=>some (.next (k,(GV .i64 (c.2.1+1))))))else(some (.stop (.inl l)))
def kN(k:(List bz)×(List Int)×Int)(l:(List ac)×(List al)×Int):(Int×(List ac))->Option (pH (Int×(List ac)) ((List ac))):=fun(a,c)=>
  if(decide (a<(k.2.1.length:Int)))then(OB (py k.2.1 a) λf=>OB (py l.1 f) λg=>OB (tE c [g] 104) λj=>some (.next ((GV .i64 (a+1)),j)))else(some (.stop c))
def qw(a0:ai)(a1:ag)(a2:(List ac)):Option ((List bd)×(List ac)×Int):=
  OB (gO a0 a1 a2) λa=>if(a.2.2 != 0)then(some (([]:(List bd)),([]:(List ac)),a.2.2))else(OB (md a0.ae a.2.1) λc=>if(c.2.2 != 0)then(some (([]:(List bd)),([]:(List ac)),c.2.2))else(OB (cI (fm c a a0 a1) (([]:(List bd)),0)) λf=>match f with| .inl k=>(OB (cI (kN c a) (0,([]:(List ac)))) λg=>some (k,g,0))| .inr j=>(some j)))
def jn(a0:(List ac))(a1:(List ac)):Int->Option (pH (Int) ((Unit)⊕(Bool))):=λs2=>
  if(decide (s2<(a0.length:Int)))then(OB (py a0 s2) λa=>OB (py a1 s2) λc=>if(!(((a.az.bI==c.az.bI)&&((a.az.bB==c.az.bB)&&((a.az.bg==c.az.bg)&&((a.az.bL==c.az.bL)&&true))))&&((a.bS==c.bS)&&((a.bA==c.bA)&&((a.bY==c.bY)&&((a.bG==c.bG)&&((a.bM==c.bM)&&true)))))))then(some (.stop (.inr false)))else(some (.next (GV .i64 (s2+1)))))else(some (.stop (.inl ())))
def gw(a0:(List ac))(a1:(List ac)):Option (Bool):=
  if((a0.length:Int) != (a1.length:Int))then(some false)else(OB (cI (jn a0 a1) 0) λc=>match c with| .inl _=>(some true)| .inr a=>(some a))
def qv(a0:bQ)(a1:bQ):Option (Bool):=
  OB (gw a0.gm a1.gm) λa=>if a then(if(((a0.bg.bU.fX==a1.bg.bU.fX)&&((a0.bg.bU.fY==a1.bg.bU.fY)&&((a0.bg.bU.fZ==a1.bg.bU.fZ)&&true)))&&((a0.bg.bS==a1.bg.bS)&&((a0.bg.cA==a1.bg.cA)&&((a0.bg.ml==a1.bg.ml)&&((((a0.bg.ca.bo.fX==a1.bg.ca.bo.fX)&&((a0.bg.ca.bo.fY==a1.bg.ca.bo.fY)&&((a0.bg.ca.bo.fZ==a1.bg.ca.bo.fZ)&&true)))&&(((a0.bg.ca.ba.fX==a1.bg.ca.ba.fX)&&((a0.bg.ca.ba.fY==a1.bg.ca.ba.fY)&&((a0.bg.ca.ba.fZ==a1.bg.ca.ba.fZ)&&true)))&&true))&&true)))))then(if((a0.ed.bo==a1.ed.bo)&&((a0.ed.ba==a1.ed.ba)&&true))then(some (a0.qU==a1.qU))else(some false))else(some false))else(some false)
def m0(a0:(List bd))(a1:(List bd)):Int->Option (pH (Int) ((Unit)⊕(Bool))):=λs2=>
  if(decide (s2<(a0.length:Int)))then(OB (py a0 s2) λa=>OB (py a1 s2) λc=>if(!(((a.cL.az.bI==c.cL.az.bI)&&((a.cL.az.bB==c.cL.az.bB)&&((a.cL.az.bg==c.cL.az.bg)&&((a.cL.az.bL==c.cL.az.bL)&&true))))&&((a.cL.bS==c.cL.bS)&&((a.cL.bA==c.cL.bA)&&((a.cL.bY==c.cL.bY)&&((a.cL.bG==c.cL.bG)&&((a.cL.bM==c.cL.bM)&&true)))))))then(some (.stop (.inr false)))else(OB (py a0 s2) λg=>OB (py a1 s2) λj=>OB (qv g.bT j.bT) λf=>if(!f)then(some (.stop (.inr false)))else(some (.next (GV .i64 (s2+1))))))else(some (.stop (.inl ())))
def qy(a0:(List bd))(a1:(List bd)):Option (Bool):=
  if((a0.length:Int) != (a1.length:Int))then(some false)else(OB (cI (m0 a0 a1) 0) λa=>match a with| .inl _=>(some true)| .inr c=>(some c))
def kg(c:(List (List ac))×Int)(k:(List (List ac))×Int)(f:Int)(g:Int)(j:Int):Int->Option (pH (Int) ((Int×Int×Int)⊕(Bool))):=λa=>
  if(decide (a<(c.1.length:Int)))then(OB (py c.1 a) λl=>OB (py k.1 a) λp=>OB (gw l p) λq=>if(!q)then(some (.stop (.inr false)))else(some (.next (GV .i64 (a+1)))))else(some (.stop (.inl (f,g,j))))
def kh(y:(List ac)×ah)(a2:(List ac))(a:ai)(c:ag):(Int×Int×Int)->Option (pH (Int×Int×Int) ((Int×Int)⊕(Bool))):=fun(r,t,g)=>
  if(decide (g<2))then(OB (py [y.1,a2] g) λf=>OB (mI a c f) λj=>OB (mZ a c f) λk=>OB (qa a c f) λl=>OB (qw a c f) λp=>if(j.2 != k.2)then(some (.stop (.inr false)))else(if((j.1.length:Int) != (k.1.length:Int))then(some (.stop (.inr false)))else(if(l.2.2 != p.2.2)then(some (.stop (.inr false)))else(OB (qy l.1 p.1) λz=>if(!z)then(some (.stop (.inr false)))else(OB (gw l.2.1 p.2.1) λB=>if(!B)then(some (.stop (.inr false)))else(OB (cI (kg j k r t g) 0) λu=>match u with| .inl q=>(some (.next (q.1,q.2.1,(GV .i64 (q.2.2+1)))))| .inr x=>(some (.stop (.inr x)))))))))else(some (.stop (.inl (r,t))))
def kj(k:ag×ah)(a1:ag)(q:ag×ah)(l:(List ac)×ah)(a2:(List ac))(p:ai):(Int×Int)->Option (pH (Int×Int) ((Int)⊕(Bool))):=fun(c,a)=>
  if(decide (a<3))then(OB (py [k.1,a1,q.1] a) λr=>OB (cI (kh l a2 p r) (c,a,0)) λg=>match g with| .inl f=>(some (.next (f.1,(GV .i64 (f.2+1)))))| .inr j=>(some (.stop (.inr j))))else(some (.stop (.inl c)))
def kl(O:ai×ah)(a0:ai)(g:Int)(j:Int)(k:Int)(l:Int)(p:Int)(q:Int)(r:Int)(t:(List Int))(u:(List Int))(x:Int)(y:Int)(z:Int)(B:Int)(C:Int)(D:Int)(E:(List Int))(F:(List Int))(G:Int)(H:Int)(I:Int)(f:ag×ah)(a1:ag)(Q:(List ac)×ah)(a2:(List ac)):(Int×(List Int)×Int)->Option (pH (Int×(List Int)×Int) ((Unit)⊕(Bool))):=fun(a,L,N)=>
  if(decide (a<3))then(OB (py [O.1,a0,(ai.mk (aw.mk (ak.mk (aa.mk g j k) (aa.mk l p q)) (bc.mk r t u) x y z B C) (bK.mk (bc.mk D E F) G H) I)] a) λT=>OB (dT f.1 (ah.mk L N)) λc=>OB (cI (kj f a1 c Q a2 T) (a,0)) λJ=>match J with| .inl W=>(some (.next ((GV .i64 (W+1)),c.2.fL,c.2.fAt)))| .inr K=>(some (.stop (.inr K))))else(some (.stop (.inl ())))
def gE(J:ai×ah)(a0:ai)(K:ag×ah)(a1:ag)(L:(List ac)×ah)(a2:(List ac))(a:ai×ah)(c:Int)(f:Int)(g:Int)(j:Int)(k:Int)(l:Int)(p:Int)(q:(List Int))(r:(List Int))(t:Int)(u:Int)(x:Int)(y:Int)(z:Int)(B:Int)(C:(List Int))(D:(List Int))(E:Int)(F:Int)(G:Int):Option (Bool):=
  OB (cI (kl J a0 c f g j k l p q r t u x y z B C D E F G K a1 L a2) (0,a.2.fL,a.2.fAt)) λH=>match H with| .inl _=>(OB (ry ) λN=>some N)| .inr I=>(some I)
def lj(a0:ai)(a1:ag)(a2:(List ac))(a3:(List Int)):Option (Bool):=
  OB (f8 a0) λk=>if(!k)then(OB (ry ) λl=>some l)else(OB (ie a1) λp=>if(!p)then(OB (ry ) λq=>some q)else(if(decide ((a2.length:Int)>10))then(OB (ry ) λr=>some r)else(OB (sZ a3) λt=>OB (oc 3 t) λa=>OB (oq 6 a.2) λf=>OB (pC a.1 f.1 9 f.2) λg=>OB (k9 a.1 g.2) λc=>OB (f8 c.1) λj=>if(!j)then(gE a a0 f a1 g a2 c a.1.ae.bt.bo.fX a.1.ae.bt.bo.fY a.1.ae.bt.bo.fZ a.1.ae.bt.ba.fX a.1.ae.bt.ba.fY a.1.ae.bt.ba.fZ a.1.ae.bP.b9 a.1.ae.bP.bo a.1.ae.bP.ba a.1.ae.eV a.1.ae.bD a.1.ae.df a.1.ae.dH a.1.ae.de a.1.bX.bN.b9 a.1.bX.bN.bo a.1.bX.bN.ba a.1.bX.bR a.1.bX.bO a.1.bD)else(gE a a0 f a1 g a2 c c.1.ae.bt.bo.fX c.1.ae.bt.bo.fY c.1.ae.bt.bo.fZ c.1.ae.bt.ba.fX c.1.ae.bt.ba.fY c.1.ae.bt.ba.fZ c.1.ae.bP.b9 c.1.ae.bP.bo c.1.ae.bP.ba c.1.ae.eV c.1.ae.bD c.1.ae.df c.1.ae.dH c.1.ae.de c.1.bX.bN.b9 c.1.bX.bN.bo c.1.bX.bN.ba c.1.bX.bR c.1.bX.bO c.1.bD))))
end
end Go.Dw.Ef
