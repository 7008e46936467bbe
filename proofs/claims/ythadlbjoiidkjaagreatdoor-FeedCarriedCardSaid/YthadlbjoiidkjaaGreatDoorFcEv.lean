
import Derived.Test.YthadlbjoiidkjaaGreatDoorFcEvB

set_option maxRecDepth 100000
set_option maxHeartbeats 4000000
namespace Go.Dw.Fc
open Go.Proofs Go.Proofs.Tryz Go.Dw
theorem nw{a0:(List aB)}{r:(List aj)}(h:fK a0=some r):EvP prog aV ext 22 [rM aB.pd a0] [] (rM aj.pd r,[]):=by
 refine Ev.body Z Tryz.func22 Z Zk<|gU Z<|sV .mo<|sN<|gU Z<|sB (.ptr 224 0) 224 (.map 3 59 (([]:List (Int×aj)).map fun e=>((PD.int .i64) e.1,aj.pd e.2)))<|sA Z<|sN<|qS<|gU Z<|sM Z<|sE (rI (a0.length:Int)) (oM _ _)<|sV (r0)<|sN<|bE h fun o12 ho12 h=>?_
 refine WC.block (WC.loop (WL.pJ ho12 (fun s=>gI 0 22 3 [(3,.ptr 224 0),(15,rM aB.pd a0),(16,rI (a0.length:Int)),(17,rI s.1)] [(224,.map 3 59 (s.2.map fun e=>((PD.int .i64) e.1,aj.pd e.2)))]) (fun o=>gX 0 0 22 11 [(3,.ptr 224 0)] [(224,.map 3 59 (o.map fun e=>((PD.int .i64) e.1,aj.pd e.2)))]) Z ?_ ?_))
 ·rintro⟨s1,s2⟩ R' B' q4 hI h
  refine gS Z hI<|sF h ?_ ?_<;>intro h
  ·refine sN<|qS<|cT<|qK<|qS<|qB<|gU Z<|bE h fun x6 h6 h=>eG h6 Z<|sV (.d (aB.pd x6))<|sB (.ptr 80 0) 80 (.var [r0,r0,rS []])<|sS 80 (.var (aB.rc x6))<|sN<|qS<|gU Z ?_
   refine sM Z<|sV (.ptr 80 0)<|sL Z<|WO.lookOk (gv:=aj.pd) (z:=zZ2) (uU.int Z) Z Z Z Z Z Z Z Z<|sM Z<|sV (.d (aj.pd (pI (fun a b=>a==b) x6.da zZ2 s2)))<|sV (rB (ub (fun a b=>a==b) x6.da s2))<|sB (.ptr 96 0) 96 (.var zZ0)<|sH 96 (.var [rI ((pI (fun a b=>a==b) x6.da zZ2 s2).bv),rI ((pI (fun a b=>a==b) x6.da zZ2 s2).bX),rI ((pI (fun a b=>a==b) x6.da zZ2 s2).fID),rI ((pI (fun a b=>a==b) x6.da zZ2 s2).fAt),rI ((pI (fun a b=>a==b) x6.da zZ2 s2).bw),rS (((((pI (fun a b=>a==b) x6.da zZ2 s2).ah).ap).ar).aT),rS (((((pI (fun a b=>a==b) x6.da zZ2 s2).ah).ap).ar).aU),rS (((((pI (fun a b=>a==b) x6.da zZ2 s2).ah).ap).ar).ac),rS (((((pI (fun a b=>a==b) x6.da zZ2 s2).ah).ap).ar).aS),rI ((((pI (fun a b=>a==b) x6.da zZ2 s2).ah).ap).aP),rI ((((pI (fun a b=>a==b) x6.da zZ2 s2).ah).ap).aZ),rI ((((pI (fun a b=>a==b) x6.da zZ2 s2).ah).ap).bg),rI ((((pI (fun a b=>a==b) x6.da zZ2 s2).ah).ap).aI),rI ((((pI (fun a b=>a==b) x6.da zZ2 s2).ah).ap).aL),.d (.lst (((((pI (fun a b=>a==b) x6.da zZ2 s2).ah).aa).aX).map ag.pd)),rI ((((((pI (fun a b=>a==b) x6.da zZ2 s2).ah).aa).ac).aO).fX),rI ((((((pI (fun a b=>a==b) x6.da zZ2 s2).ah).aa).ac).aO).fY),rI ((((((pI (fun a b=>a==b) x6.da zZ2 s2).ah).aa).ac).aO).fZ),rI (((((pI (fun a b=>a==b) x6.da zZ2 s2).ah).aa).ac).aP),rI (((((pI (fun a b=>a==b) x6.da zZ2 s2).ah).aa).ac).bc),rI (((((pI (fun a b=>a==b) x6.da zZ2 s2).ah).aa).ac).bu),rI (((((((pI (fun a b=>a==b) x6.da zZ2 s2).ah).aa).ac).aF).aW).fX),rI (((((((pI (fun a b=>a==b) x6.da zZ2 s2).ah).aa).ac).aF).aW).fY),rI (((((((pI (fun a b=>a==b) x6.da zZ2 s2).ah).aa).ac).aF).aW).fZ),rI (((((((pI (fun a b=>a==b) x6.da zZ2 s2).ah).aa).ac).aF).aN).fX),rI (((((((pI (fun a b=>a==b) x6.da zZ2 s2).ah).aa).ac).aF).aN).fY),rI (((((((pI (fun a b=>a==b) x6.da zZ2 s2).ah).aa).ac).aF).aN).fZ),rI (((((pI (fun a b=>a==b) x6.da zZ2 s2).ah).aa).aA).aW),rI (((((pI (fun a b=>a==b) x6.da zZ2 s2).ah).aa).aA).aN),rI ((((pI (fun a b=>a==b) x6.da zZ2 s2).ah).aa).bn)])<|sA Z<|sN<|gU Z<|sF h ?_ ?_<;>intro h
   ·refine sN<|cT<|qX<|qE<|WC.region Z Z<|sV (rI (rW (s1+(1:Int))))<|sM Z<|sN ?_
    cases oI h
    exact⟨rfl,rfl⟩
   refine sN<|cF<|qK<|gU Z<|sV (.ptr 80 2)<|sL Z<|bE h fun x8 h8 h=>cR (.tup [.d (aj.pd x8.1),rI x8.2]) [] (kJ h8)<|sM Z<|sV (.d (aj.pd x8.1))<|sV (rI x8.2)<|sB (.ptr 128 0) 128 (.var zZ0)<|sH 128 (.var (aj.rc x8.1))<|sA Z<|sN ?_
   refine gU Z<|sM Z<|sF h ?_ ?_<;>intro h
   ·refine sM Z<|sV (.ptr 128 0)<|sL Z<|sV (.ptr 80 0)<|sL Z<|sV (rB (x8.1.bv==x6.da))<|sF h ?_ ?_<;>intro h
    ·refine sN<|cT<|WC.region Z Z<|sM Z<|sV (.ptr 80 0)<|sL Z<|sV (.d (aj.pd x8.1))<|WO.mput (gv:=aj.pd) (y:=x8.1) (uU.int Z) Z Z Z Z Z Z Z Z Z Z<|sN<|WC.region Z Z<|sV (rI (rW (s1+(1:Int))))<|sM Z<|sN ?_
     cases oI h
     exact⟨rfl,rfl⟩
    refine sN<|cF<|qK<|WC.region Z Z<|sV (rI (rW (s1+(1:Int))))<|sM Z<|sN ?_
    cases oI h
    exact⟨rfl,rfl⟩
   refine sM Z<|k3<|sK<|sK<|sU<|sN<|cF<|qK<|WC.region Z Z<|sV (rI (rW (s1+(1:Int))))<|sM Z<|sN ?_
   cases oI h
   exact⟨rfl,rfl⟩
  refine sN<|qS<|cF<|qX ?_
  cases oI h
  exact⟨nofun,rfl,rfl⟩
 intro e R' B' he hq
 obtain⟨rfl,hI⟩:=hq
 refine qE<|gS Z hI<|sV .mo<|sN<|gU Z<|sV (r0)<|sN<|bE h fun o19 ho19 h=>WC.block (WC.loop (WL.pJ ho19 (fun s=>gI 0 22 14 [(3,.ptr 224 0),(10,.ref 1008 0),(11,rI s.1)] [(224,.map 3 59 (o12.map fun e=>((PD.int .i64) e.1,aj.pd e.2))),(1008,.arr 0 59 (s.2.map aj.pd))]) (fun o=>gF 22 Tryz.f22 0 (rM aj.pd o,[])) Z ?_ ?_))
 ·rintro⟨s13,s14⟩ R' B' q15 hI h
  refine qS<|qB<|gS Z hI<|mM Z<|WO.lookOk (gv:=aj.pd) (z:=zZ2) (uU.int Z) Z Z Z Z Z Z Z Z<|sM Z<|sV (.d (aj.pd (pI (fun a b=>a==b) s13 zZ2 o12)))<|sV (rB (ub (fun a b=>a==b) s13 o12))<|sB (.ptr 192 0) 192 (.var zZ0)<|sH 192 (.var [rI ((pI (fun a b=>a==b) s13 zZ2 o12).bv),rI ((pI (fun a b=>a==b) s13 zZ2 o12).bX),rI ((pI (fun a b=>a==b) s13 zZ2 o12).fID),rI ((pI (fun a b=>a==b) s13 zZ2 o12).fAt),rI ((pI (fun a b=>a==b) s13 zZ2 o12).bw),rS (((((pI (fun a b=>a==b) s13 zZ2 o12).ah).ap).ar).aT),rS (((((pI (fun a b=>a==b) s13 zZ2 o12).ah).ap).ar).aU),rS (((((pI (fun a b=>a==b) s13 zZ2 o12).ah).ap).ar).ac),rS (((((pI (fun a b=>a==b) s13 zZ2 o12).ah).ap).ar).aS),rI ((((pI (fun a b=>a==b) s13 zZ2 o12).ah).ap).aP),rI ((((pI (fun a b=>a==b) s13 zZ2 o12).ah).ap).aZ),rI ((((pI (fun a b=>a==b) s13 zZ2 o12).ah).ap).bg),rI ((((pI (fun a b=>a==b) s13 zZ2 o12).ah).ap).aI),rI ((((pI (fun a b=>a==b) s13 zZ2 o12).ah).ap).aL),.d (.lst (((((pI (fun a b=>a==b) s13 zZ2 o12).ah).aa).aX).map ag.pd)),rI ((((((pI (fun a b=>a==b) s13 zZ2 o12).ah).aa).ac).aO).fX),rI ((((((pI (fun a b=>a==b) s13 zZ2 o12).ah).aa).ac).aO).fY),rI ((((((pI (fun a b=>a==b) s13 zZ2 o12).ah).aa).ac).aO).fZ),rI (((((pI (fun a b=>a==b) s13 zZ2 o12).ah).aa).ac).aP),rI (((((pI (fun a b=>a==b) s13 zZ2 o12).ah).aa).ac).bc),rI (((((pI (fun a b=>a==b) s13 zZ2 o12).ah).aa).ac).bu),rI (((((((pI (fun a b=>a==b) s13 zZ2 o12).ah).aa).ac).aF).aW).fX),rI (((((((pI (fun a b=>a==b) s13 zZ2 o12).ah).aa).ac).aF).aW).fY),rI (((((((pI (fun a b=>a==b) s13 zZ2 o12).ah).aa).ac).aF).aW).fZ),rI (((((((pI (fun a b=>a==b) s13 zZ2 o12).ah).aa).ac).aF).aN).fX),rI (((((((pI (fun a b=>a==b) s13 zZ2 o12).ah).aa).ac).aF).aN).fY),rI (((((((pI (fun a b=>a==b) s13 zZ2 o12).ah).aa).ac).aF).aN).fZ),rI (((((pI (fun a b=>a==b) s13 zZ2 o12).ah).aa).aA).aW),rI (((((pI (fun a b=>a==b) s13 zZ2 o12).ah).aa).aA).aN),rI ((((pI (fun a b=>a==b) s13 zZ2 o12).ah).aa).bn)])<|sA Z<|sN<|qS<|gU Z ?_
  refine sM Z<|sF h ?_ ?_<;>intro h
  ·refine sN<|cT<|gU Z<|sM Z<|sA Z<|sN<|qR ?_
   cases oI h
   exact⟨nofun,rfl,rfl⟩
  refine sN<|cF<|qK<|WC.region Z Z<|sM Z<|sV (.d (aj.pd (aj.mk ((pI (fun a b=>a==b) s13 zZ2 o12).bv) ((pI (fun a b=>a==b) s13 zZ2 o12).bX) ((pI (fun a b=>a==b) s13 zZ2 o12).fID) ((pI (fun a b=>a==b) s13 zZ2 o12).fAt) ((pI (fun a b=>a==b) s13 zZ2 o12).bw) (av.mk (ag.mk ((((pI (fun a b=>a==b) s13 zZ2 o12).ah).ap).ar) ((((pI (fun a b=>a==b) s13 zZ2 o12).ah).ap).aP) ((((pI (fun a b=>a==b) s13 zZ2 o12).ah).ap).aZ) ((((pI (fun a b=>a==b) s13 zZ2 o12).ah).ap).bg) ((((pI (fun a b=>a==b) s13 zZ2 o12).ah).ap).aI) ((((pI (fun a b=>a==b) s13 zZ2 o12).ah).ap).aL)) (az.mk ((((pI (fun a b=>a==b) s13 zZ2 o12).ah).aa).aX) (aD.mk (((((pI (fun a b=>a==b) s13 zZ2 o12).ah).aa).ac).aO) (((((pI (fun a b=>a==b) s13 zZ2 o12).ah).aa).ac).aP) (((((pI (fun a b=>a==b) s13 zZ2 o12).ah).aa).ac).bc) (((((pI (fun a b=>a==b) s13 zZ2 o12).ah).aa).ac).bu) (aY.mk ((((((pI (fun a b=>a==b) s13 zZ2 o12).ah).aa).ac).aF).aW) ((((((pI (fun a b=>a==b) s13 zZ2 o12).ah).aa).ac).aF).aN))) ((((pI (fun a b=>a==b) s13 zZ2 o12).ah).aa).aA) ((((pI (fun a b=>a==b) s13 zZ2 o12).ah).aa).bn))))))<|sG (.d (.lst ([(aj.mk ((pI (fun a b=>a==b) s13 zZ2 o12).bv) ((pI (fun a b=>a==b) s13 zZ2 o12).bX) ((pI (fun a b=>a==b) s13 zZ2 o12).fID) ((pI (fun a b=>a==b) s13 zZ2 o12).fAt) ((pI (fun a b=>a==b) s13 zZ2 o12).bw) (av.mk (ag.mk ((((pI (fun a b=>a==b) s13 zZ2 o12).ah).ap).ar) ((((pI (fun a b=>a==b) s13 zZ2 o12).ah).ap).aP) ((((pI (fun a b=>a==b) s13 zZ2 o12).ah).ap).aZ) ((((pI (fun a b=>a==b) s13 zZ2 o12).ah).ap).bg) ((((pI (fun a b=>a==b) s13 zZ2 o12).ah).ap).aI) ((((pI (fun a b=>a==b) s13 zZ2 o12).ah).ap).aL)) (az.mk ((((pI (fun a b=>a==b) s13 zZ2 o12).ah).aa).aX) (aD.mk (((((pI (fun a b=>a==b) s13 zZ2 o12).ah).aa).ac).aO) (((((pI (fun a b=>a==b) s13 zZ2 o12).ah).aa).ac).aP) (((((pI (fun a b=>a==b) s13 zZ2 o12).ah).aa).ac).bc) (((((pI (fun a b=>a==b) s13 zZ2 o12).ah).aa).ac).bu) (aY.mk ((((((pI (fun a b=>a==b) s13 zZ2 o12).ah).aa).ac).aF).aW) ((((((pI (fun a b=>a==b) s13 zZ2 o12).ah).aa).ac).aF).aN))) ((((pI (fun a b=>a==b) s13 zZ2 o12).ah).aa).aA) ((((pI (fun a b=>a==b) s13 zZ2 o12).ah).aa).bn))))].map aj.pd)))<|bE h fun x17 h17 h=>aR h17 (fun _=>Z) Z<|sA Z<|sN<|WC.region Z Z<|sM Z<|sV (rI (rW (s13+(1:Int))))<|sA Z ?_
  refine sN ?_
  cases oI h
  exact⟨rfl,rfl⟩
 intro e R' B' he hq
 obtain⟨rfl,hf⟩:=hq
 cases oI h
 exact hf
theorem feed_History_ev{a0:(List aj)}{r:Bool}(h:kg a0=some r):EvP prog aV ext 10 [rM aj.pd a0] [] (rB r,[]):=by
 refine Ev.body Z Tryz.func10 Z Zk<|gU Z<|sU<|sN<|gU Z<|sB (.ptr 96 0) 96 (.map 3 4 (([]:List (Int×Bool)).map fun e=>((PD.int .i64) e.1,PD.bool e.2)))<|sA Z<|sN<|qS<|gU Z<|sM Z<|sE (rI (a0.length:Int)) (oM _ _)<|sV (r0)<|sN<|bE h fun o16 ho16 h=>?_
 refine WC.block (WC.loop (WL.pJ ho16 (fun s=>gI 0 10 3 [(0,rM aj.pd a0),(3,.ptr 96 0),(7,rM aj.pd a0),(8,rI (a0.length:Int)),(9,rI s.1)] [(96,.map 3 4 (s.2.map fun e=>((PD.int .i64) e.1,PD.bool e.2)))]) (fun o=>match o with| .inl y=>gX 0 0 10 11 [] []| .inr r=>gF 10 Tryz.f10 0 (rB r,[])) Z ?_ ?_))
 ·rintro⟨s1,s2⟩ R' B' q3 hI h
  refine gS Z hI<|sF h ?_ ?_<;>intro h
  ·refine sN<|qS<|cT<|qK<|qS<|qB<|gU Z<|sM Z<|bE h fun x5 h5 h=>eG h5 Z<|sV (.d (aj.pd x5))<|sB (.ptr 80 0) 80 (.var zZ0)<|sA Z<|sH 80 (.var (aj.rc x5))<|sN ?_
   refine WC.join (α:=Unit) (fun x R' B'=>p6 prog 0 (A R' B') (aV.at_ 10 0 7)=some (A [(0,rM aj.pd a0),(3,.ptr 96 0),(5,.ptr 80 0),(7,rM aj.pd a0),(8,rI (a0.length:Int)),(9,rI s1)] [(80,.var (aj.rc x5)),(96,.map 3 4 (s2.map fun e=>((PD.int .i64) e.1,PD.bool e.2)))])) (fun x=>fh x5 s2 s1=some q3) ?_ ?_
   ·refine WC.lU Z Z<|sV (.d (aj.pd x5))<|bE h fun x9 h9 h=>cD (oz h9)<|sF h ?_ ?_<;>intro h
    ·refine sM Z<|k3<|sK<|sT<|sM Z<|k3<|k3<|sK<|sK ?_
     refine k3<|sK<|sK<|sT ?_
     refine sN<|sO<|cT<|gU Z<|sU<|sN<|qR ?_
     cases oI h
     exact⟨nofun,rfl,rfl⟩
    refine sM Z<|sV (.ptr 80 0)<|sL Z<|sM Z<|sV (rB (x5.bv != s1))<|sF h ?_ ?_<;>intro h
    ·refine sM Z<|k3<|k3<|k3<|k3<|sK<|sT ?_
     refine sN<|sO<|cT<|gU Z<|sU<|sN<|qR ?_
     cases oI h
     exact⟨nofun,rfl,rfl⟩
    refine mM Z<|sF h ?_ ?_<;>intro h
    ·refine sM Z<|sV (.ptr 80 3)<|sL Z<|mM Z<|sV (rI (rW (s1-(1:Int))))<|bE h fun x13 h13 h=>eG h13 Z<|sV (.cptr [.int .i64 x13.fAt,.int .i64 x13.bw,.str x13.ah.ap.ar.aT,.str x13.ah.ap.ar.aU,.str x13.ah.ap.ar.ac,.str x13.ah.ap.ar.aS,.int .i64 x13.ah.ap.aP,.int .i64 x13.ah.ap.aZ,.int .i64 x13.ah.ap.bg,.int .i64 x13.ah.ap.aI,.int .i64 x13.ah.ap.aL,.lst (x13.ah.aa.aX.map ag.pd),.int .i64 x13.ah.aa.ac.aO.fX,.int .i64 x13.ah.aa.ac.aO.fY,.int .i64 x13.ah.aa.ac.aO.fZ,.int .i64 x13.ah.aa.ac.aP,.int .i64 x13.ah.aa.ac.bc,.int .i64 x13.ah.aa.ac.bu,.int .i64 x13.ah.aa.ac.aF.aW.fX,.int .i64 x13.ah.aa.ac.aF.aW.fY,.int .i64 x13.ah.aa.ac.aF.aW.fZ,.int .i64 x13.ah.aa.ac.aF.aN.fX,.int .i64 x13.ah.aa.ac.aF.aN.fY,.int .i64 x13.ah.aa.ac.aF.aN.fZ,.int .i64 x13.ah.aa.aA.aW,.int .i64 x13.ah.aa.aA.aN,.int .i64 x13.ah.aa.bn])<|sC Z<|sV (rB (decide (x5.fAt<x13.fAt)))<|sV (rB (decide (x5.fAt<x13.fAt)))<|sF h ?_ ?_<;>intro h
     ·refine sN<|sO<|cT<|gU Z<|sU<|sN<|qR ?_
      cases oI h
      exact⟨nofun,rfl,rfl⟩
     exact sN<|sO<|cF<|qK<|⟨(),rfl,h⟩
    refine sM Z<|k3<|k3<|k3<|sU<|sU ?_
    exact sN<|sO<|cF<|qK<|⟨(),rfl,h⟩
   rintro⟨⟩ R' B' hI h
   refine qS<|gS Z hI<|sV (.ptr 80 1)<|sL Z<|sF h ?_ ?_<;>intro h
   ·refine mM Z<|sV (.ptr 80 2)<|sL Z<|WO.look (gv:=PD.bool) (z:=false) (uU.int Z) Z Z Z Z Z Z Z Z<|sV (rB (!(pI (fun a b=>a==b) x5.fID false s2)))<|sF h ?_ ?_<;>intro h
    ·refine sN<|cT<|gU Z<|sU<|sN<|qR ?_
     cases oI h
     exact⟨nofun,rfl,rfl⟩
    refine sN<|cF<|qK<|WC.region Z Z<|sM Z<|sV (.ptr 80 2)<|sL Z<|sV (.ptr 80 1)<|sL Z<|sV (rB (x5.bX != (3:Int)))<|WO.mput (gv:=PD.bool) (y:=(x5.bX != (3:Int))) (uU.int Z) Z Z Z Z Z Z Z Z Z Z<|sN<|WC.region Z Z<|sV (rI (rW (s1+(1:Int))))<|sM Z ?_
    refine sN ?_
    cases oI h
    exact⟨rfl,rfl⟩
   refine sM Z<|k3<|sK<|sK<|sU<|sN<|cF<|qK<|WC.region Z Z<|sM Z<|sV (.ptr 80 2)<|sL Z<|sV (.ptr 80 1) ?_
   refine sL Z<|sV (rB (x5.bX != (3:Int)))<|WO.mput (gv:=PD.bool) (y:=(x5.bX != (3:Int))) (uU.int Z) Z Z Z Z Z Z Z Z Z Z<|sN<|WC.region Z Z<|sV (rI (rW (s1+(1:Int))))<|sM Z<|sN ?_
   cases oI h
   exact⟨rfl,rfl⟩
  refine sN<|qS<|cF<|qX ?_
  cases oI h
  exact⟨nofun,rfl,rfl⟩
 intro e R' B' he hq
 rcases o16 with y17|r18
 ·obtain⟨rfl,hI⟩:=hq
  refine qE<|gS Z hI<|sT<|sN<|qR ?_
  exact oI h▸qD
 obtain⟨rfl,hf⟩:=hq
 cases oI h
 exact hf
theorem nB{r:Bool}(h:ia=some r):EvP prog aV ext 15 [] [] (rB r,[]):=by
 refine Ev.body Z Tryz.func15 Z Zk<|gU Z<|sU<|sN<|gU Z<|bE h fun x1 h1 h=>cD (iw h1)<|bE h fun x2 h2 h=>cR (.tup [rS x2.1,rI x2.2]) [] (kK h2)<|sM Z<|sV (rS x2.1)<|sV (rI x2.2)<|sA Z<|sA Z<|sN ?_
 refine gU Z<|bE h fun x3 h3 h=>cD (iw h3)<|bE h fun x4 h4 h=>cR (.tup [rS x4.1,rI x4.2]) [] (kK h4)<|sM Z<|sV (rS x4.1)<|sV (rI x4.2)<|sA Z<|sA Z<|sN<|gU Z<|sM Z<|bE h fun x5 h5 h=>cR (.tup [.d (aj.pd x5.1),rI x5.2]) [] (kJ h5) ?_
 refine sM Z<|sV (.d (aj.pd x5.1))<|sV (rI x5.2)<|sB (.ptr 80 0) 80 (.var zZ0)<|sH 80 (.var (aj.rc x5.1))<|sA Z<|sN<|gU Z<|sM Z<|bE h fun x6 h6 h=>WO.catG h6 Z Z Z Z Z<|bE h fun x7 h7 h=>cR (.tup [.d (aj.pd x7.1),rI x7.2]) [] (kJ h7)<|sM Z<|sV (.d (aj.pd x7.1)) ?_
 refine sV (rI x7.2)<|sB (.ptr 112 0) 112 (.var zZ0)<|sH 112 (.var (aj.rc x7.1))<|sA Z<|sN<|WC.lU Z Z<|sM Z<|sF h ?_ ?_<;>intro h
 ·refine mM Z<|sV (rB (x4.2==(0:Int)))<|sF h ?_ ?_<;>intro h
  ·refine mM Z<|sV (rB (x5.2==(0:Int)))<|sF h ?_ ?_<;>intro h
   ·refine sM Z<|sV (.d (aj.pd x5.1))<|bE h fun x11 h11 h=>cD (iw h11)<|bE h fun x12 h12 h=>cD (jd h12)<|sF h ?_ ?_<;>intro h
    ·refine mM Z<|sV (rB (x7.2==(3:Int)))<|sF h ?_ ?_<;>intro h
     ·refine mM Z<|sV (.d (aB.pd (aB.mk 2 0 x4.1)))<|sM Z<|sV (.d (aB.pd (aB.mk 0 0 x2.1)))<|sV (.d (.lst ([(aB.mk 2 0 x4.1),(aB.mk 0 0 x2.1)].map aB.pd)))<|bE h fun x15 h15 h=>cD (nw h15)<|sE (rI (x15.length:Int)) (oM _ _)<|sV (rB ((x15.length:Int)==(1:Int)))<|sF h ?_ ?_<;>intro h
      ·refine sM Z<|bE h fun x17 h17 h=>cD (iw h17)<|bE h fun x18 h18 h=>cD (iw h18)<|sG (.d (.lst ([x17,x18].map aj.pd)))<|bE h fun x19 h19 h=>cD (feed_History_ev h19)<|sV (rB x19)<|sA Z ?_
       refine sN<|sO<|qR ?_
       cases oI h
       exact qG
      refine sM Z<|k3<|sK<|sU<|sA Z ?_
      refine sN<|sO<|qR ?_
      cases oI h
      exact qG
     refine sM Z<|k3<|k3<|sK<|sK<|sU<|sM Z<|k3<|sK ?_
     refine sU<|sA Z ?_
     refine sN<|sO<|qR ?_
     cases oI h
     exact qG
    refine sM Z<|sK<|sK<|sU<|sM Z<|k3<|k3<|sK<|sK<|sU<|sM Z ?_
    refine k3<|sK<|sU<|sA Z ?_
    refine sN<|sO<|qR ?_
    cases oI h
    exact qG
   refine sM Z<|k3<|sU<|sM Z<|sK<|sK<|sU<|sM Z<|k3<|sK<|sK ?_
   refine k3<|sU<|sM Z<|k3<|sK<|sU<|sA Z ?_
   refine sN<|sO<|qR ?_
   cases oI h
   exact qG
  refine sM Z<|sK<|sK<|sU<|sM Z<|k3<|sU<|sM Z<|sK<|sK<|sU<|sM Z<|sK ?_
  refine k3<|k3<|sK<|sU<|sM Z<|k3<|sK<|sU<|sA Z ?_
  refine sN<|sO<|qR ?_
  cases oI h
  exact qG
 refine sM Z<|sK<|sK<|sU<|sM Z<|sK<|sK<|sU<|sM Z<|k3<|sU<|sM Z<|sK ?_
 refine sK<|sU<|sM Z<|k3<|k3<|sK<|sK<|sU<|sM Z<|sK<|sK ?_
 refine sK<|sK<|sU<|sA Z ?_
 refine sN<|sO<|qR ?_
 cases oI h
 exact qG
theorem jL{a0:am}{r:Bool}(h:iK a0=some r):EvP prog aV ext 61 [.d (am.pd a0)] [] (rB r,[]):=by
 refine Ev.body Z Tryz.func61 Z Zk<|gU Z<|sB (.ptr 16 0) 16 (.var (am.rc a0))<|sU<|sN<|gU Z<|sV (.d (am.pd a0))<|bE h fun x1 h1 h=>cD (gW h1)<|sV (rB (!x1))<|sA Z<|sN<|qR ?_
 exact oI h▸qD
theorem jp{a0:(List am)}{r:Int}(h:dt a0=some r):EvP prog aV ext 125 [rM am.pd a0,.d (.raw (.func (.func 61) #[] #[]))] [] (rI r,[]):=by
 refine Ev.body Z Tryz.func125 Z Zk<|gU Z<|sV (r0)<|sN<|qS<|gU Z<|sM Z<|sE (rI (a0.length:Int)) (oM _ _)<|sV (r0)<|sN<|bE h fun o8 ho8 h=>WC.block (WC.loop (WL.pJ ho8 (fun s=>gI 0 125 2 [(0,rM am.pd a0),(1,.d (.raw (.func (.func 61) #[] #[]))),(7,rI (a0.length:Int)),(8,rI s)] []) (fun o=>match o with| .inl y=>gX 0 0 125 7 [] []| .inr r=>gF 125 Tryz.f125 0 (rI r,[])) Z ?_ ?_))
 ·rintro s1 R' B' q2 hI h
  refine gS Z hI<|sF h ?_ ?_<;>intro h
  ·refine sN<|qS<|cT<|qK<|qS<|qB<|gU Z<|sM Z<|sA Z<|sN<|gU Z<|mM Z<|sM Z<|bE h fun x4 h4 h=>?_
   refine eG h4 Z<|sV (.d (am.pd x4))<|bE h fun x5 h5 h=>pP h (fun hb6 h=>?_) (fun hb6 h=>?_)
   ·refine WO.pV (v:=rB true) (u:=[]) Z Z (fun _=>Z) Z Z Z Z Z (jL h5) Z Z (congrArg (fun b=>RV.d (.bool b)) hb6) Z<|sN<|cT<|gU Z<|sM Z<|sA Z<|sN<|qR ?_
    cases oI h
    exact⟨nofun,rfl,rfl⟩
   refine WO.pV (v:=rB false) (u:=[]) Z Z (fun _=>Z) Z Z Z Z Z (jL h5) Z Z (congrArg (fun b=>RV.d (.bool b)) hb6) Z<|sN<|cF<|qK<|WC.region Z Z<|sV (rI (rW (s1+(1:Int))))<|sM Z<|sN ?_
   cases oI h
   exact⟨rfl,rfl⟩
  refine sN<|qS<|cF<|qX ?_
  cases oI h
  exact⟨nofun,rfl,rfl⟩
 intro e R' B' he hq
 rcases o8 with y9|r10
 ·obtain⟨rfl,hI⟩:=hq
  refine qE<|gS Z hI<|sV (rI (-1))<|sN<|qR ?_
  exact oI h▸qD
 obtain⟨rfl,hf⟩:=hq
 cases oI h
 exact hf
theorem dW{a0:(List am)}{r:Bool}(h:bO a0=some r):EvP prog aV ext 62 [rM am.pd a0,.d (.raw (.func (.func 61) #[] #[]))] [] (rB r,[]):=by
 refine Ev.body Z Tryz.func62 Z Zk<|gU Z<|sU<|sN<|gU Z<|mM Z<|bE h fun x1 h1 h=>cD (jp h1)<|sV (rB (decide (x1>=(0:Int))))<|sA Z<|sN<|qR ?_
 exact oI h▸qD
theorem pp{a0:aC}{r:aC×(List (List UInt8))×Int}(h:l7 a0=some r):EvP prog aV ext 63 [.d (aC.pd a0)] [] (.tup [.d (aC.pd r.1),.d (.lst (r.2.1.map PD.str)),rI r.2.2],[]):=by
 refine Ev.body Z Tryz.func63 Z Zk<|gU Z<|sB (.ptr 16 0) 16 (.var (aC.rc a0))<|sB (.ptr 32 0) 32 (.var [r0,r0,.mo])<|sV .mo<|sV (r0)<|sN<|qS<|gU Z<|sV (.d (aC.pd a0))<|bE h fun x1 h1 h=>cD (jy h1)<|sF h ?_ ?_<;>intro h
 ·refine sN<|cT<|gU Z<|sV (.agg [r0,r0,.mo])<|sS 32 (.var [r0,r0,.mo])<|sV .mo<|sV (rI 1)<|sN<|qR ?_
  exact oI h▸qD
 refine sN<|cF<|qK<|qS<|gU Z<|sV (.ptr 16 0)<|sL Z<|sF h ?_ ?_<;>intro h
 ·refine sN<|cT<|gU Z<|sV (.agg [r0,r0,.mo])<|sS 32 (.var [r0,r0,.mo])<|sV .mo<|sV (rI 8)<|sN<|qR ?_
  exact oI h▸qD
 refine sN<|cF<|qK<|gU Z<|sV (.ptr 16 0)<|sL Z<|sV (rI (rW (a0.bt+(1:Int))))<|sV (.ptr 16 0)<|sS 16 (.var [rI (rW (a0.bt+(1:Int))),rI a0.ba,rM ak.pd a0.bq])<|sN<|gU Z<|sV .mo<|sN<|gU Z<|sV (r0) ?_
 refine sN<|qS<|bE h fun o15 ho15 h=>WC.block (WC.loop (WL.pJ ho15 (fun s=>gI 0 63 8 [(1,.ptr 16 0),(2,.ptr 32 0),(5,.ref 720 0),(6,rI s.1)] [(16,.var [rI (rW (a0.bt+(1:Int))),rI a0.ba,rM ak.pd a0.bq]),(32,.var [r0,r0,.mo]),(720,.arr 0 9 (s.2.map PD.str))]) (fun o=>gX 0 0 63 11 [(1,.ptr 16 0),(2,.ptr 32 0),(5,.ref 720 0),(6,rI o.1)] [(16,.var [rI (rW (a0.bt+(1:Int))),rI a0.ba,rM ak.pd a0.bq]),(32,.var [r0,r0,.mo]),(720,.arr 0 9 (o.2.map PD.str))]) Z ?_ ?_))
 ·rintro⟨s4,s5⟩ R' B' q8 hI h
  refine qS<|WC.lU hI Z<|sM Z<|sV (.ptr 16 2)<|sL Z<|sE (rI (a0.bq.length:Int)) (oM _ _)<|sF h ?_ ?_<;>intro h
  ·refine sM Z<|sV (.ptr 16 2)<|sL Z<|sM Z<|bE h fun x10 h10 h=>eG h10 Z<|sV (.cptr [.int .i64 x10.fAt,.int .i64 x10.ba,.str x10.ch])<|sC Z<|sV (.ptr 16 0)<|sL Z<|sV (rB (x10.fAt==(rW (a0.bt+(1:Int)))))<|sF h ?_ ?_<;>intro h
   ·refine sN<|sO<|cT<|qK<|qS<|qB<|WC.region Z Z<|sM Z<|sV (.ptr 16 2)<|sL Z<|sM Z<|bE h fun x12 h12 h=>eG h12 Z<|sV (.cptr [.str x12.ch])<|sC Z<|sV (.d (.lst ([x12.ch].map PD.str))) ?_
    refine bE h fun x13 h13 h=>aR h13 (fun _=>Z) Z<|sA Z<|sN<|WC.region Z Z<|sM Z<|sV (rI (rW (s4+(1:Int))))<|sA Z<|sN ?_
    cases oI h
    exact⟨rfl,rfl⟩
   refine sN<|sO<|cF<|qX ?_
   cases oI h
   exact⟨nofun,rfl,rfl⟩
  refine sM Z<|k3<|k3<|k3<|sU ?_
  refine sN<|sO<|cF<|qX ?_
  cases oI h
  exact⟨nofun,rfl,rfl⟩
 intro e R' B' he hq
 obtain⟨rfl,hI⟩:=hq
 refine qE<|gS Z hI<|sV (.ptr 16 2)<|sL Z<|sM Z<|bE h fun x16 h16 h=>WO.cutL (sz:=3) (g:=ak.pd) h16 (fun _=>Z) Z Z Z Z Z Z Z Z Z Z Z<|bE h fun x17 h17 h=>cR (.ref 800 0) [(800,.arr 0 210 (x17.map ak.pd))] (oc h17)<|sV (.ptr 16 2)<|sS 16 (.var [rI (rW (a0.bt+(1:Int))),rI a0.ba,.ref 800 0])<|sN<|gU Z<|sV (.agg [rI (rW (a0.bt+(1:Int))),rI a0.ba,.ref 800 0])<|sM Z ?_
 refine sS 32 (.var [rI (rW (a0.bt+(1:Int))),rI a0.ba,.ref 800 0])<|sA Z<|sV (r0)<|sN<|qR ?_
 exact oI h▸qD
theorem crc_Check_ev{a0:(List UInt8)}{r:Bool}(h:ky a0=some r):EvP prog aV ext 235 [rS a0] [] (rB r,[]):=by
 refine Ev.body Z Tryz.func235 Z Zk<|gU Z<|sU<|sN<|gU Z<|sM Z<|sV (rI (a0.length:Int))<|sV (rI (rW ((a0.length:Int)-(4:Int))))<|sA Z<|sN<|gU Z<|sM Z<|sF h ?_ ?_<;>intro h
 ·refine mM Z<|sM Z<|bE h fun x2 h2 h=>WO.cutG h2 Z Z Z Z Z Z Z Z Z Z<|bE h fun x3 h3 h=>cD (jw h3)<|sM Z<|sV (rB (x3==a0))<|sV (rB (x3==a0))<|sA Z<|sN<|qR ?_
  exact oI h▸qD
 refine sM Z<|k3<|k3<|sU<|sA Z<|sN<|qR ?_
 exact oI h▸qD
theorem jW{a0:(List UInt8)}{a1:(List UInt8)}{a2:Int}{r:(List UInt8)×Int}(h:ej a0 a1 a2=some r):EvP prog aV ext 190 [rS a0,rS a1,rI a2] [] (.tup [rS r.1,rI r.2],[]):=by
 refine Ev.body Z Tryz.func190 Z Zk<|gU Z<|sV (rS [])<|sV (r0)<|sN<|gU Z<|sM Z<|sV (rI (a0.length:Int))<|sV (rI (rW ((a0.length:Int)-(4:Int))))<|sA Z<|sN<|qS<|qB<|gU Z<|sM Z ?_
 refine sV (rI (a0.length:Int))<|sM Z<|sF h ?_ ?_<;>intro h
 ·refine sA Z<|sN<|cT<|gU Z<|sV (rS [])<|sV (rI 4)<|sN<|qR ?_
  exact oI h▸qD
 refine sA Z<|sN<|cF<|gU Z<|sM Z<|bE h fun x2 h2 h=>cD (crc_Check_ev h2)<|sF h ?_ ?_<;>intro h
 ·refine sA Z<|sN<|cT<|gU Z<|sV (rS [])<|sV (rI 5)<|sN<|qR ?_
  exact oI h▸qD
 refine sA Z<|sN<|cF<|gU Z<|sM Z<|bE h fun x4 h4 h=>WO.cutG h4 Z Z Z Z Z Z Z Z Z Z<|sM Z<|sF h ?_ ?_<;>intro h
 ·refine sA Z<|sN<|cT<|gU Z<|sV (rS [])<|sV (rI 3)<|sN<|qR ?_
  exact oI h▸qD
 refine sA Z<|sN<|cF<|qK<|gU Z<|mM Z<|bE h fun x6 h6 h=>WO.cutG h6 Z Z Z Z Z Z Z Z Z Z<|sA Z<|sV (r0)<|sN<|qR ?_
 exact oI h▸qD
theorem bits_Get_ev{a0:(List UInt8)}{a1:Int}{a2:Int}{r:Int×Int}(h:kF a0 a1 a2=some r):EvP prog aV ext 236 [rS a0,rI a1,rI a2] [] (.tup [rI r.1,rI r.2],[]):=by
 refine Ev.body Z Tryz.func236 Z Zk<|gU Z<|sV (r0)<|sV (r0)<|sN<|qS<|gU Z<|sM Z<|bE h fun x1 h1 h=>cD (oL h1)<|sF h ?_ ?_<;>intro h
 ·refine sM Z<|sK<|sK<|sT<|sN<|cT<|gU Z<|sV (r0)<|sV (rI 2)<|sN<|qR ?_
  exact oI h▸qD
 refine mM Z<|sV (rB (decide (a1<(0:Int))))<|sF h ?_ ?_<;>intro h
 ·refine sN<|cT<|gU Z<|sV (r0)<|sV (rI 2)<|sN<|qR ?_
  exact oI h▸qD
 refine sN<|cF<|qK<|qS<|gU Z<|mM Z<|sV (rI (a0.length:Int))<|sM Z<|sV (rI (rW ((a0.length:Int)-a2)))<|sF h ?_ ?_<;>intro h
 ·refine sN<|cT<|gU Z<|sV (r0)<|sV (rI 4)<|sN<|qR ?_
  exact oI h▸qD
 refine sN<|cF<|qK<|gU Z<|sV (r0)<|sN<|qS<|gU Z<|sM Z<|sV (r0)<|sN<|bE h fun o12 ho12 h=>WC.block (WC.loop (WL.pJ ho12 (fun s=>gI 0 236 7 [(0,rS a0),(1,rI a1),(8,rI s.1),(23,rI a2),(24,rI s.2)] []) (fun o=>gX 0 0 236 11 [(8,rI o)] []) Z ?_ ?_))
 ·rintro⟨s5,s6⟩ R' B' q8 hI h
  refine gS Z hI<|sF h ?_ ?_<;>intro h
  ·refine sN<|qS<|cT<|qK<|qS<|qB<|gU Z<|sM Z<|sA Z<|sN<|WC.region Z Z<|sM Z<|sV (rI (xJ .i64 s5 (8:Int)))<|sM Z<|sM Z ?_
   refine sM Z<|sV (rI (rW (a1+s6)))<|bE h fun x10 h10 h=>WO.byteG h10 Z Z Z Z Z Z<|sV (rI (IntKind.wrap .i64 x10))<|sV (rI (orI .i64 (xJ .i64 s5 (8:Int)) (IntKind.wrap .i64 x10)))<|sA Z<|sN<|WC.region Z Z<|sV (rI (rW (s6+(1:Int))))<|sM Z<|sN ?_
   cases oI h
   exact⟨rfl,rfl⟩
  refine sN<|qS<|cF<|qX ?_
  cases oI h
  exact⟨nofun,rfl,rfl⟩
 intro e R' B' he hq
 obtain⟨rfl,hI⟩:=hq
 refine qE<|gS Z hI<|sM Z<|sA Z<|sV (r0)<|sN<|qR ?_
 exact oI h▸qD
theorem dg{a0:(List UInt8)}{a1:Int}{r:Int}(h:bK a0 a1=some r):EvP prog aV ext 191 [rS a0,rI a1] [] (rI r,[]):=by
 refine Ev.body Z Tryz.func191 Z Zk<|gU Z<|sV (r0)<|sN<|gU Z<|mM Z<|sV (rI (rW (a1*(4:Int))))<|bE h fun x1 h1 h=>cR (.tup [rI x1.1,rI x1.2]) [] (bits_Get_ev h1)<|sM Z<|sV (rI x1.1)<|sV (rI x1.2)<|sA Z<|sA Z ?_
 refine sN<|gU Z<|sM Z<|sA Z<|sN<|qR ?_
 exact oI h▸qD
theorem nP{a0:(List UInt8)}{r:Int×Int×(List UInt8)×Int}(h:df a0=some r):EvP prog aV ext 126 [rS a0] [] (.tup [rI r.1,rI r.2.1,rS r.2.2.1,rI r.2.2.2],[]):=by
 refine Ev.body Z Tryz.func126 Z Zk<|gU Z<|sV (r0)<|sV (r0)<|sV (rS [])<|sV (r0)<|sN<|gU Z<|sM Z<|bE h fun x1 h1 h=>cR (.tup [rS x1.1,rI x1.2]) [] (jW h1)<|sM Z<|sV (rS x1.1)<|sV (rI x1.2)<|sA Z ?_
 refine sA Z<|sN<|qS<|gU Z<|sM Z<|sF h ?_ ?_<;>intro h
 ·refine sN<|cT<|gU Z<|sM Z<|sV (r0)<|sV (r0)<|sV (rS [])<|sA Z<|sN<|qR ?_
  exact oI h▸qD
 refine sN<|cF<|qK<|gU Z<|sM Z<|bE h fun x3 h3 h=>cD (dg h3)<|sM Z<|bE h fun x4 h4 h=>cD (dg h4)<|sA Z<|sA Z<|sN<|qS<|gU Z ?_
 refine sM Z<|sF h ?_ ?_<;>intro h
 ·refine sM Z<|sK<|sK<|sT<|sN<|cT<|gU Z<|sV (r0)<|sV (r0)<|sV (rS [])<|sV (rI 3)<|sN<|qR ?_
  exact oI h▸qD
 refine mM Z<|sV (rB (decide (x4>(1073741825:Int))))<|sF h ?_ ?_<;>intro h
 ·refine sN<|cT<|gU Z<|sV (r0)<|sV (r0)<|sV (rS [])<|sV (rI 3)<|sN<|qR ?_
  exact oI h▸qD
 refine sN<|cF<|qK<|WC.lU Z Z<|mM Z<|sM Z<|bE h fun x7 h7 h=>WO.cutG h7 Z Z Z Z Z Z Z Z Z Z<|sA Z<|sA Z<|sA Z<|sV (r0) ?_
 refine sN<|sO<|qR ?_
 exact oI h▸qD
theorem iy{a0:Int}{a1:Int}{a2:Int}{r:Bool}(h:ib a0 a1 a2=some r):EvP prog aV ext 192 [rI a0,rI a1,rI a2] [] (rB r,[]):=by
 refine Ev.body Z Tryz.func192 Z Zk<|gU Z<|sU<|sN<|gU Z<|mM Z<|sF h ?_ ?_<;>intro h
 ·refine mM Z<|sM Z<|sV (rB (decide (a0<=a2)))<|sV (rB (decide (a0<=a2)))<|sA Z<|sN<|qR ?_
  exact oI h▸qD
 refine sM Z<|k3<|sU<|sA Z<|sN<|qR ?_
 exact oI h▸qD
theorem ou{a0:Int}{r:(List ae)}(h:gh a0=some r):EvP prog aV ext 264 [.mo,rI a0] [] (.ref 0 0,[.arr 0 207 (r.map ae.pd)]):=by
 refine Ev.body Z Tryz.func264 Z Zk<|gU Z<|sV .mo<|sN<|qS<|gU Z<|sM Z<|sF h ?_ ?_<;>intro h
 ·refine sN<|cT<|WC.region Z Z ?_
  cases h
 refine sN<|cF<|qK<|WC.join (α:=(List ae)) (fun x R' B'=>p6 prog 0 (A R' B') (aV.at_ 264 0 6)=some (A [(0,.ref 90097 0)] [(90097,.arr 0 207 (x.map ae.pd))])) (fun x=>eF x=some r) ?_ ?_
 ·refine gU Z<|mM Z<|sV (r0)<|sM Z<|sV (r0)<|sV (r0)<|sV (rI (rW (a0-(0:Int))))<|sA Z<|sN<|gU Z<|sM Z<|sF h ?_ ?_<;>intro h
  ·refine sN<|cT<|WC.region Z Z<|mM Z<|sV (r0)<|sV .mo<|sM Z<|bE h fun x5 h5 h=>WO.appZ (g:=ae.pd) h5 Z Z Z Z Z Z Z Z Z Z Z Z Z Z Z Z<|sM Z<|sV (r0)<|bE h fun x6 h6 h=>WO.resl h6 Z Z Z Z Z Z Z Z Z Z Z Z<|sA Z ?_
   exact sN<|⟨(x5.take (0:Int).toNat),rfl,h⟩
  exact sN<|cF<|qK<|⟨([]:List ae),rfl,h⟩
 rintro j2 R' B' hI h
 refine gS Z hI<|sM Z<|sA Z<|sN<|qR ?_
 exact oI h▸qD
theorem nl{a0:(List (List ae))}{r:(List ae)}(h:fb a0=some r):EvP prog aV ext 237 [.d (.lst (a0.map (fun l=>PD.lst (l.map ae.pd))))] [] (rM ae.pd r,[]):=by
 refine Ev.body Z Tryz.func237 Z Zk<|gU Z<|sV .mo<|sN<|gU Z<|sV (r0)<|sN<|qS<|gU Z<|sM Z<|sE (rI (a0.length:Int)) (oM _ _)<|sV (r0)<|sN<|bE h fun o9 ho9 h=>WC.block (WC.loop (WL.pJ ho9 (fun s=>gI 0 237 3 [(0,.d (.lst (a0.map (fun l=>PD.lst (l.map ae.pd))))),(3,rI s.1),(9,.d (.lst (a0.map (fun l=>PD.lst (l.map ae.pd))))),(10,rI (a0.length:Int)),(11,rI s.2)] []) (fun o=>gX 0 0 237 9 [(0,.d (.lst (a0.map (fun l=>PD.lst (l.map ae.pd))))),(3,rI o)] []) Z ?_ ?_))
 ·rintro⟨s1,s2⟩ R' B' q4 hI h
  refine gS Z hI<|sF h ?_ ?_<;>intro h
  ·refine sN<|qS<|cT<|qK<|qS<|qB<|gU Z<|bE h fun x6 h6 h=>eG h6 Z<|sC Z<|sA Z<|sN<|gU Z<|sM Z<|sM Z ?_
   refine sE (rI (x6.length:Int)) (oM _ _)<|sV (rI (rW (s1+(x6.length:Int))))<|sA Z<|sN<|gU Z<|sM Z<|sF h ?_ ?_<;>intro h
   ·refine sN<|cT<|WC.region Z Z ?_
    cases h
   refine sN<|cF<|qK<|WC.region Z Z<|sV (rI (rW (s2+(1:Int))))<|sM Z<|sN ?_
   cases oI h
   exact⟨rfl,rfl⟩
  refine sN<|qS<|cF<|qX ?_
  cases oI h
  exact⟨nofun,rfl,rfl⟩
 intro e R' B' he hq
 obtain⟨rfl,hI⟩:=hq
 refine qE<|gS Z hI<|sM Z<|bE h fun x10 h10 h=>cR (.ref 384 0) [(384,.arr 0 207 (x10.map ae.pd))] (ou h10)<|sA Z<|sN<|qS<|gU Z<|sM Z<|sE (rI (a0.length:Int)) (oM _ _)<|sV (r0)<|sN<|bE h fun o19 ho19 h=>WC.block (WC.loop (WL.pJ ho19 (fun s=>gI 0 237 11 [(6,.ref 384 0),(25,.d (.lst (a0.map (fun l=>PD.lst (l.map ae.pd))))),(26,rI (a0.length:Int)),(27,rI s.1)] [(384,.arr 0 207 (s.2.map ae.pd))]) (fun o=>gX 2 0 237 15 [(6,.ref 384 0)] [(384,.arr 0 207 (o.map ae.pd))]) Z ?_ ?_))
 ·rintro⟨s11,s12⟩ R' B' q14 hI h
  refine gS Z hI<|sF h ?_ ?_<;>intro h
  ·refine sN<|qS<|cT<|qK<|qS<|qB<|gU Z<|bE h fun x16 h16 h=>eG h16 Z<|sC Z<|sA Z<|sN<|WC.region Z Z<|sM Z<|sM Z ?_
   refine bE h fun x17 h17 h=>aR h17 (fun _=>Z) Z<|sA Z<|sN<|WC.region Z Z<|sV (rI (rW (s11+(1:Int))))<|sM Z<|sN ?_
   cases oI h
   exact⟨rfl,rfl⟩
  refine sN<|qS<|cF<|qX ?_
  cases oI h
  exact⟨nofun,rfl,rfl⟩
 intro e R' B' he hq
 obtain⟨rfl,hI⟩:=hq
 refine qE<|gS Z hI<|sM Z<|sA Z<|sN<|qR ?_
 exact oI h▸qD
theorem lR{a0:(List ae)}{a1:(List ae)}{r:(List ae)}(h:f9 a0 a1=some r):EvP prog aV ext 194 [rM ae.pd a0,rM ae.pd a1] [] (rM ae.pd r,[]):=by
 refine Ev.body Z Tryz.func194 Z Zk<|gU Z<|sV .mo<|sN<|gU Z<|mM Z<|sV (.d (.lst ([a0,a1].map (fun l=>PD.lst (l.map ae.pd)))))<|bE h fun x1 h1 h=>cD (nl h1)<|bE h fun x2 h2 h=>cD (eQ h2)<|sA Z<|sN<|qR ?_
 exact oI h▸qD
theorem lQ{a0:(List ae)}{a1:(List ae)}{r:(List ae)}(h:f8 a0 a1=some r):EvP prog aV ext 195 [rM ae.pd a0,rM ae.pd a1] [] (rM ae.pd r,[]):=by
 refine Ev.body Z Tryz.func195 Z Zk<|gU Z<|sV .mo<|sN<|gU Z<|sM Z<|bE h fun x1 h1 h=>cD (eQ h1)<|sA Z<|sN<|gU Z<|sV .mo<|sN<|qS<|gU Z ?_
 refine sM Z<|bE h fun x2 h2 h=>cD (eQ h2)<|sE (rI (x2.length:Int)) (oM _ _)<|sV (r0)<|sN<|bE h fun o27 ho27 h=>WC.block (WC.loop (WL.pJ ho27 (fun s=>gI 0 195 4 [(1,rM ae.pd x1),(5,.ref 784 0),(14,rM ae.pd x2),(15,rI (x2.length:Int)),(16,rI s.1)] [(784,.arr 0 207 (s.2.map ae.pd))]) (fun o=>gX 0 0 195 18 [(5,.ref 784 0)] [(784,.arr 0 207 (o.map ae.pd))]) Z ?_ ?_))
 ·rintro⟨s3,s4⟩ R' B' q6 hI h
  refine gS Z hI<|sF h ?_ ?_<;>intro h
  ·refine sN<|qS<|cT<|qK<|qS<|qB<|gU Z<|bE h fun x8 h8 h=>eG h8 Z<|sV (.d (ae.pd x8))<|sB (.ptr 112 0) 112 (.var [r0,r0])<|sS 112 (.var (ae.rc x8))<|sN<|gU Z<|sV (.ptr 112 0) ?_
   refine sL Z<|sA Z<|sN<|qS<|gU Z<|sM Z<|sE (rI (x1.length:Int)) (oM _ _)<|sV (r0)<|sN<|bE h fun o23 ho23 h=>WC.block (WC.loop (WL.pJ ho23 (fun s=>gI 0 195 8 [(1,rM ae.pd x1),(5,.ref 784 0),(7,.ptr 112 0),(8,rI s.1),(14,rM ae.pd x2),(15,rI (x2.length:Int)),(16,rI s3),(22,rM ae.pd x1),(23,rI (x1.length:Int)),(24,rI s.2.1)] [(112,.var (ae.rc x8)),(784,.arr 0 207 (s.2.2.map ae.pd))]) (fun o=>gX 2 0 195 15 [(1,rM ae.pd x1),(5,.ref 784 0),(7,.ptr 112 0),(8,rI o.1),(14,rM ae.pd x2),(15,rI (x2.length:Int)),(16,rI o.2.1)] [(112,.var (ae.rc x8)),(784,.arr 0 207 (o.2.2.map ae.pd))]) Z ?_ ?_))
   ·rintro⟨s9,s10,s11⟩ R' B' q15 hI h
    refine gS Z hI<|sF h ?_ ?_<;>intro h
    ·refine sN<|qS<|cT<|qK<|qS<|qB<|gU Z<|bE h fun x17 h17 h=>eG h17 Z<|sV (.d (ae.pd x17))<|sB (.ptr 160 0) 160 (.var [r0,r0])<|sS 160 (.var (ae.rc x17))<|sN<|qS<|gU Z ?_
     refine sV (.ptr 160 1)<|sL Z<|sM Z<|sF h ?_ ?_<;>intro h
     ·refine sM Z<|k3<|sK<|sK<|sT<|sN<|cT<|qX<|qE<|WC.region Z Z<|sV (rI (rW (s10+(1:Int))))<|sM Z<|sN ?_
      cases oI h
      exact⟨rfl,rfl⟩
     refine sM Z<|sV (.ptr 160 0)<|sL Z<|sV (.ptr 112 1)<|sL Z<|sV (rB (decide (x17.bd>=x8.fTo)))<|sF h ?_ ?_<;>intro h
     ·refine sN<|cT<|qX<|qE<|WC.region Z Z<|sV (rI (rW (s10+(1:Int))))<|sM Z<|sN ?_
      cases oI h
      exact⟨rfl,rfl⟩
     refine sN<|cF<|qK<|qS<|gU Z<|sM Z<|sV (.ptr 160 0)<|sL Z<|sF h ?_ ?_<;>intro h
     ·refine sN<|cT<|WC.region Z Z<|mM Z<|sV (.ptr 160 0)<|sL Z<|sV (.d (ae.pd (ae.mk s9 x17.bd)))<|sV (.d (.lst ([(ae.mk s9 x17.bd)].map ae.pd)))<|bE h fun x21 h21 h=>aR h21 (fun _=>Z) Z<|sA Z<|sN<|WC.region Z Z<|sM Z ?_
      refine sV (.ptr 160 1)<|sL Z<|sV (rI (if x17.fTo>s9 then x17.fTo else s9))<|sA Z<|sN<|WC.region Z Z<|sV (rI (rW (s10+(1:Int))))<|sM Z<|sN ?_
      cases oI h
      exact⟨rfl,rfl⟩
     refine sN<|cF<|qK<|WC.region Z Z<|sM Z<|sV (.ptr 160 1)<|sL Z<|sV (rI (if x17.fTo>s9 then x17.fTo else s9))<|sA Z<|sN<|WC.region Z Z<|sV (rI (rW (s10+(1:Int))))<|sM Z<|sN ?_
     cases oI h
     exact⟨rfl,rfl⟩
    refine sN<|qS<|cF<|qX ?_
    cases oI h
    exact⟨nofun,rfl,rfl⟩
   intro e R' B' he hq
   obtain⟨rfl,hI⟩:=hq
   refine qE<|gS Z hI<|sM Z<|sV (.ptr 112 1)<|sL Z<|sF h ?_ ?_<;>intro h
   ·refine sN<|cT<|WC.region Z Z<|mM Z<|sV (.ptr 112 1)<|sL Z<|sV (.d (ae.pd (ae.mk o23.1 x8.fTo)))<|sV (.d (.lst ([(ae.mk o23.1 x8.fTo)].map ae.pd)))<|bE h fun x25 h25 h=>aR h25 (fun _=>Z) Z<|sA Z<|sN<|WC.region Z Z<|sV (rI (rW (o23.2.1+(1:Int)))) ?_
    refine sM Z<|sN ?_
    cases oI h
    exact⟨rfl,rfl⟩
   refine sN<|cF<|qK<|WC.region Z Z<|sV (rI (rW (o23.2.1+(1:Int))))<|sM Z<|sN ?_
   cases oI h
   exact⟨rfl,rfl⟩
  refine sN<|qS<|cF<|qX ?_
  cases oI h
  exact⟨nofun,rfl,rfl⟩
 intro e R' B' he hq
 obtain⟨rfl,hI⟩:=hq
 refine qE<|gS Z hI<|sM Z<|sA Z<|sN<|qR ?_
 exact oI h▸qD
theorem kc{a0:(List ae)}{a1:(List ae)}{r:aw×Int}(h:cV a0 a1=some r):EvP prog aV ext 193 [rM ae.pd a0,rM ae.pd a1] [] (.tup [.d (aw.pd r.1),rI r.2],[]):=by
 refine Ev.body Z Tryz.func193 Z Zk<|gU Z<|sB (.ptr 64 0) 64 (.var [.mo,.mo])<|sV (r0)<|sN<|qS<|gU Z<|sM Z<|sE (rI (a0.length:Int)) (oM _ _)<|sF h ?_ ?_<;>intro h
 ·refine sM Z<|k3<|sT<|sN<|cT<|gU Z<|sV (.agg [.mo,.mo])<|sS 64 (.var [.mo,.mo])<|sV (rI 8)<|sN<|qR ?_
  exact oI h▸qD
 refine mM Z<|sE (rI (a1.length:Int)) (oM _ _)<|sV (rB (decide ((a1.length:Int)>(4096:Int))))<|sF h ?_ ?_<;>intro h
 ·refine sN<|cT<|gU Z<|sV (.agg [.mo,.mo])<|sS 64 (.var [.mo,.mo])<|sV (rI 8)<|sN<|qR ?_
  exact oI h▸qD
 refine sN<|cF<|qK<|gU Z<|mM Z<|sV (.d (aw.pd (aw.mk a0 a1)))<|sS 64 (.var [rM ae.pd a0,rM ae.pd a1])<|sV (r0)<|sN<|qR ?_
 exact oI h▸qD
theorem oW{a0:aw}{a1:Int}{r:aw×Bool×Int}(h:gJ a0 a1=some r):EvP prog aV ext 127 [.d (aw.pd a0),rI a1] [] (.tup [.d (aw.pd r.1),rB r.2.1,rI r.2.2],[]):=by
 refine Ev.body Z Tryz.func127 Z Zk<|gU Z<|sB (.ptr 32 0) 32 (.var (aw.rc a0))<|sB (.ptr 64 0) 64 (.var [.mo,.mo])<|sU<|sV (r0)<|sN<|qS<|gU Z<|sV (.d (aw.pd a0))<|bE h fun x1 h1 h=>cD (ef h1)<|sF h ?_ ?_<;>intro h
 ·refine sN<|cT<|gU Z<|sV (.agg [.mo,.mo])<|sS 64 (.var [.mo,.mo])<|sU<|sV (rI 1)<|sN<|qR ?_
  exact oI h▸qD
 refine sN<|cF<|qK<|qS<|gU Z<|sM Z<|bE h fun x3 h3 h=>cD (iy h3)<|sF h ?_ ?_<;>intro h
 ·refine sN<|cT<|gU Z<|sV (.agg [.mo,.mo])<|sS 64 (.var [.mo,.mo])<|sU<|sV (rI 2)<|sN<|qR ?_
  exact oI h▸qD
 refine sN<|cF<|qK<|gU Z<|mM Z<|sV (rI (rW (a1+(1:Int))))<|sV (.d (ae.pd (ae.mk a1 (rW (a1+(1:Int))))))<|sV (.d (.lst ([(ae.mk a1 (rW (a1+(1:Int))))].map ae.pd)))<|sA Z<|sN<|gU Z<|sV (.ptr 32 0)<|sL Z<|sM Z ?_
 refine bE h fun x5 h5 h=>cD (span_Has_ev h5)<|sV (rB (!x5))<|sA Z<|sN<|WC.lU Z Z<|sV (.ptr 32 0)<|sL Z<|sM Z<|bE h fun x6 h6 h=>cD (lR h6)<|sV (.ptr 32 1)<|sL Z<|sM Z<|bE h fun x7 h7 h=>?_
 refine cD (lQ h7)<|bE h fun x8 h8 h=>cR (.tup [.d (aw.pd x8.1),rI x8.2]) [] (kc h8)<|sM Z<|sV (.d (aw.pd x8.1))<|sV (rI x8.2)<|sS 32 (.var (aw.rc x8.1))<|sA Z ?_
 refine sN<|sO<|gU Z<|sV (.d (aw.pd x8.1))<|sF h ?_ ?_<;>intro h
 ·refine mM Z<|sV (rB (x8.2==(0:Int)))<|sV (rB (x8.2==(0:Int)))<|sM Z<|sS 64 (.var (aw.rc x8.1))<|sA Z<|sA Z<|sN<|qR ?_
  exact oI h▸qD
 refine sM Z<|sK<|sK<|sU<|sM Z<|sS 64 (.var (aw.rc x8.1))<|sA Z<|sA Z<|sN<|qR ?_
 exact oI h▸qD
theorem ma{a0:aw}{a1:Int}{r:aw×Int}(h:gA a0 a1=some r):EvP prog aV ext 128 [.d (aw.pd a0),rI a1] [] (.tup [.d (aw.pd r.1),rI r.2],[]):=by
 refine Ev.body Z Tryz.func128 Z Zk<|gU Z<|sB (.ptr 32 0) 32 (.var (aw.rc a0))<|sB (.ptr 64 0) 64 (.var [.mo,.mo])<|sV (r0)<|sN<|qS<|gU Z<|sV (.d (aw.pd a0))<|bE h fun x1 h1 h=>cD (ef h1)<|sF h ?_ ?_<;>intro h
 ·refine sN<|cT<|gU Z<|sV (.agg [.mo,.mo])<|sS 64 (.var [.mo,.mo])<|sV (rI 1)<|sN<|qR ?_
  exact oI h▸qD
 refine sN<|cF<|qK<|qS<|gU Z<|sM Z<|bE h fun x3 h3 h=>cD (iy h3)<|sF h ?_ ?_<;>intro h
 ·refine sN<|cT<|gU Z<|sV (.agg [.mo,.mo])<|sS 64 (.var [.mo,.mo])<|sV (rI 2)<|sN<|qR ?_
  exact oI h▸qD
 refine sN<|cF<|qK<|gU Z<|sM Z<|sV (.d (ae.pd (ae.mk 0 a1)))<|sV (.d (.lst ([(ae.mk 0 a1)].map ae.pd)))<|sV (.ptr 32 0)<|sL Z<|bE h fun x5 h5 h=>cD (lQ h5)<|sA Z<|sN<|WC.lU Z Z<|sV (.ptr 32 0) ?_
 refine sL Z<|bE h fun x6 h6 h=>cR (.ref 368 0) [(368,.arr 0 207 (x6.map ae.pd))] (oa h6)<|sV (.ptr 32 1)<|sL Z<|sM Z<|bE h fun x7 h7 h=>cD (lR h7)<|bE h fun x8 h8 h=>cR (.tup [.d (aw.pd x8.1),rI x8.2]) [(368,.dead)] (kc h8)<|sV (.d (aw.pd x8.1))<|sV (rI x8.2)<|sS 64 (.var (aw.rc x8.1))<|sA Z ?_
 refine sN<|sO<|qR ?_
 exact oI h▸qD
theorem ow{a0:Int}{e1:Int}{e2:Int}{e3:Int}{e4:Int}{e5:Int}{e6:(List (List UInt8))}{e7:(List ae)}{e8:(List ae)}{e9:Int}{e10:Int}{e11:(List ak)}{e12:Int}{e13:Int}{e14:(List ak)}{e15:(List am)}{e16:(List am)}{d1:(List aB)}{r:Int×Int×Int×Int×Int×(List (List UInt8))×(List ae)×(List ae)×Int×Int×(List ak)×Int×Int×(List ak)×(List am)×(List am)}(h:kI a0 e1 e2 e3 e4 e5 e6 e7 e8 e9 e10 e11 e12 e13 e14 e15 e16 d1=some r):EvP prog aV ext 129 [.ptr 0 0,rI a0] [.var [rI e1,rI e2,rI e3,rI e4,rI e5,.d (.lst (e6.map PD.str)),rM ae.pd e7,rM ae.pd e8,rI e9,rI e10,rM ak.pd e11,rI e12,rI e13,rM ak.pd e14,.ref 1 0,rM am.pd e15,rM am.pd e16],.arr 0 123 (d1.map aB.pd)] (.tup [],[.var [rI r.1,rI r.2.1,rI r.2.2.1,rI r.2.2.2.1,rI r.2.2.2.2.1,.d (.lst (r.2.2.2.2.2.1.map PD.str)),rM ae.pd r.2.2.2.2.2.2.1,rM ae.pd r.2.2.2.2.2.2.2.1,rI r.2.2.2.2.2.2.2.2.1,rI r.2.2.2.2.2.2.2.2.2.1,rM ak.pd r.2.2.2.2.2.2.2.2.2.2.1,rI r.2.2.2.2.2.2.2.2.2.2.2.1,rI r.2.2.2.2.2.2.2.2.2.2.2.2.1,rM ak.pd r.2.2.2.2.2.2.2.2.2.2.2.2.2.1,.ref 1 0,rM am.pd r.2.2.2.2.2.2.2.2.2.2.2.2.2.2.1,rM am.pd r.2.2.2.2.2.2.2.2.2.2.2.2.2.2.2],.arr 0 123 (d1.map aB.pd)]):=by
 refine Ev.body Z Tryz.func129 Z Zk<|WC.rC Z Z<|mM Z<|sV (.ptr 0 0)<|sV (.ptr 0 0)<|sV (.ptr 0 2)<|sL Z<|sM Z<|sV (rI (if a0>e3 then a0 else e3))<|sM Z<|sV (.ptr 0 0)<|sV (.ptr 0 0)<|sV (.ptr 0 3)<|sV (.d (aG.pd (aG.mk e4 e5 e6))) ?_
 refine bE h fun x1 h1 h=>cD (dC h1)<|sV (rI (if x1<(if a0>e3 then a0 else e3)then x1 else(if a0>e3 then a0 else e3)))<|sV (.ptr 0 0)<|sV (.ptr 0 0)<|sV (.ptr 0 2)<|sS 0 (.var [rI e1,rI e2,rI (if x1<(if a0>e3 then a0 else e3)then x1 else(if a0>e3 then a0 else e3)),rI e4,rI e5,.d (.lst (e6.map PD.str)),rM ae.pd e7,rM ae.pd e8,rI e9,rI e10,rM ak.pd e11,rI e12,rI e13,rM ak.pd e14,.ref 1 0,rM am.pd e15,rM am.pd e16]) ?_
 refine sN<|sO ?_
 cases oI h
 exact qG
theorem ends_data_ev{a0:(List UInt8)}{e1:Int}{e2:Int}{e3:Int}{e4:Int}{e5:Int}{e6:(List (List UInt8))}{e7:(List ae)}{e8:(List ae)}{e9:Int}{e10:Int}{e11:(List ak)}{e12:Int}{e13:Int}{e14:(List ak)}{e15:(List am)}{e16:(List am)}{d1:(List aB)}{r:Int×Int×Int×Int×Int×(List (List UInt8))×(List ae)×(List ae)×Int×Int×(List ak)×Int×Int×(List ak)×(List am)×(List am)×(List aB)}(h:oe a0 e1 e2 e3 e4 e5 e6 e7 e8 e9 e10 e11 e12 e13 e14 e15 e16 d1=some r):EvP prog aV ext 64 [.ptr 0 0,rS a0] [.var [rI e1,rI e2,rI e3,rI e4,rI e5,.d (.lst (e6.map PD.str)),rM ae.pd e7,rM ae.pd e8,rI e9,rI e10,rM ak.pd e11,rI e12,rI e13,rM ak.pd e14,.ref 1 0,rM am.pd e15,rM am.pd e16],.arr 0 123 (d1.map aB.pd)] (.tup [],[.var [rI r.1,rI r.2.1,rI r.2.2.1,rI r.2.2.2.1,rI r.2.2.2.2.1,.d (.lst (r.2.2.2.2.2.1.map PD.str)),rM ae.pd r.2.2.2.2.2.2.1,rM ae.pd r.2.2.2.2.2.2.2.1,rI r.2.2.2.2.2.2.2.2.1,rI r.2.2.2.2.2.2.2.2.2.1,rM ak.pd r.2.2.2.2.2.2.2.2.2.2.1,rI r.2.2.2.2.2.2.2.2.2.2.2.1,rI r.2.2.2.2.2.2.2.2.2.2.2.2.1,rM ak.pd r.2.2.2.2.2.2.2.2.2.2.2.2.2.1,.ref 1 1,rM am.pd r.2.2.2.2.2.2.2.2.2.2.2.2.2.2.1,rM am.pd r.2.2.2.2.2.2.2.2.2.2.2.2.2.2.2.1],.arr 1 123 (r.2.2.2.2.2.2.2.2.2.2.2.2.2.2.2.2.map aB.pd)]):=by
 refine Ev.body Z Tryz.func64 Z Zk<|gU Z<|sM Z<|bE h fun x1 h1 h=>cR (.tup [rI x1.1,rI x1.2.1,rS x1.2.2.1,rI x1.2.2.2]) [] (nP h1)<|sM Z<|sV (rI x1.1)<|sV (rI x1.2.1)<|sV (rS x1.2.2.1)<|sV (rI x1.2.2.2)<|sA Z<|sA Z<|sA Z<|sA Z<|sN ?_
 refine qS<|WC.qv (R0:=[(0,.ptr 0 0),(4,rI x1.1),(5,rI x1.2.1),(6,rS x1.2.2.1),(7,rI x1.2.2.2)]) (B0:=[(0,.var [rI e1,rI e2,rI e3,rI e4,rI e5,.d (.lst (e6.map PD.str)),rM ae.pd e7,rM ae.pd e8,rI e9,rI e10,rM ak.pd e11,rI e12,rI e13,rM ak.pd e14,.ref 1 1,rM am.pd e15,rM am.pd e16]),(1,.arr 1 123 (d1.map aB.pd))]) Z Z<|sM Z<|sF h ?_ ?_<;>intro h
 ·refine sN<|cT<|qR ?_
  cases oI h
  exact qG
 refine sN<|cF<|qK<|gU Z<|sM Z<|sV (.ptr 0 0)<|sV (.ptr 0 0)<|sV (.ptr 0 6)<|sV (.d (aw.pd (aw.mk e7 e8)))<|sM Z<|bE h fun x3 h3 h=>cR (.tup [.d (aw.pd x3.1),rB x3.2.1,rI x3.2.2]) [] (oW h3)<|sM Z<|sV (.d (aw.pd x3.1))<|sV (rB x3.2.1) ?_
 refine sV (rI x3.2.2)<|sB (.ptr 128 0) 128 (.var [.mo,.mo])<|sS 128 (.var (aw.rc x3.1))<|sA Z<|sA Z<|sN<|qS<|gU Z<|sM Z<|sF h ?_ ?_<;>intro h
 ·refine sN<|cT<|qR ?_
  cases oI h
  exact qG
 refine sN<|cF<|qK<|qS<|gU Z<|sV (.d (aw.pd x3.1))<|sM Z<|bE h fun x5 h5 h=>cR (.tup [.d (aw.pd x5.1),rI x5.2]) [] (ma h5)<|sM Z<|sV (.d (aw.pd x5.1))<|sV (rI x5.2)<|sS 128 (.var (aw.rc x5.1))<|sA Z<|sN ?_
 refine gU Z<|sM Z<|sF h ?_ ?_<;>intro h
 ·refine sN<|cT<|qR ?_
  cases oI h
  exact qG
 refine sN<|cF<|qK<|gU Z<|sM Z<|sV (.d (aw.pd x5.1))<|sV (.ptr 0 0)<|sV (.ptr 0 0)<|sV (.ptr 0 6)<|sS 0 (.var (rI e1::rI e2::rI e3::rI e4::rI e5:: .d (.lst (e6.map PD.str))::aw.rc x5.1++[rI e9,rI e10,rM ak.pd e11,rI e12,rI e13,rM ak.pd e14,.ref 1 1,rM am.pd e15,rM am.pd e16]))<|sN<|gU Z<|mM Z<|sV (rI (rW (x1.1+(1:Int)))) ?_
 refine bE h fun x7 h7 h=>cR (.tup []) [(0,.var [rI x7.1,rI x7.2.1,rI x7.2.2.1,rI x7.2.2.2.1,rI x7.2.2.2.2.1,.d (.lst (x7.2.2.2.2.2.1.map PD.str)),rM ae.pd x7.2.2.2.2.2.2.1,rM ae.pd x7.2.2.2.2.2.2.2.1,rI x7.2.2.2.2.2.2.2.2.1,rI x7.2.2.2.2.2.2.2.2.2.1,rM ak.pd x7.2.2.2.2.2.2.2.2.2.2.1,rI x7.2.2.2.2.2.2.2.2.2.2.2.1,rI x7.2.2.2.2.2.2.2.2.2.2.2.2.1,rM ak.pd x7.2.2.2.2.2.2.2.2.2.2.2.2.2.1,.ref 1 1,rM am.pd x7.2.2.2.2.2.2.2.2.2.2.2.2.2.2.1,rM am.pd x7.2.2.2.2.2.2.2.2.2.2.2.2.2.2.2]),(1,.arr 1 123 (d1.map aB.pd))] (ow h7)<|sN<|gU Z<|sF h ?_ ?_<;>intro h
 ·refine mM Z<|sV (.ptr 0 0)<|sV (.ptr 0 0)<|sV (.ptr 0 14)<|sL Z<|WO.tD Z Z Z Z Z Z Z Z Z<|sV (rB (decide ((d1.length:Int)<(4096:Int))))<|sF h ?_ ?_<;>intro h
  ·refine sN<|cT<|WC.rC Z Z<|mM Z<|sV (.ptr 0 0)<|sV (.ptr 0 0)<|sV (.ptr 0 14)<|sL Z<|mM Z<|sV (.ptr 0 0)<|sV (.ptr 0 0)<|sV (.ptr 0 0)<|sL Z ?_
   refine sM Z<|sV (.d (aB.pd (aB.mk x1.1 x7.1 x1.2.2.1)))<|sV (.d (.lst ([(aB.mk x1.1 x7.1 x1.2.2.1)].map aB.pd)))<|bE h fun x10 h10 h=>aR h10 (fun _=>Z) Z<|sV (.ptr 0 0)<|sV (.ptr 0 0)<|sV (.ptr 0 14)<|sS 0 (.var [rI x7.1,rI x7.2.1,rI x7.2.2.1,rI x7.2.2.2.1,rI x7.2.2.2.2.1,.d (.lst (x7.2.2.2.2.2.1.map PD.str)),rM ae.pd x7.2.2.2.2.2.2.1,rM ae.pd x7.2.2.2.2.2.2.2.1,rI x7.2.2.2.2.2.2.2.2.1,rI x7.2.2.2.2.2.2.2.2.2.1,rM ak.pd x7.2.2.2.2.2.2.2.2.2.2.1,rI x7.2.2.2.2.2.2.2.2.2.2.2.1,rI x7.2.2.2.2.2.2.2.2.2.2.2.2.1,rM ak.pd x7.2.2.2.2.2.2.2.2.2.2.2.2.2.1,.ref 1 2,rM am.pd x7.2.2.2.2.2.2.2.2.2.2.2.2.2.2.1,rM am.pd x7.2.2.2.2.2.2.2.2.2.2.2.2.2.2.2]) ?_
   refine sN<|sO ?_
   cases oI h
   exact qG
  refine sN<|cF<|qK ?_
  cases oI h
  exact qG
 refine sM Z<|k3<|k3<|sK<|sU<|sN<|cF<|qK ?_
 cases oI h
 exact qG
theorem mT{a0:(List UInt8)}{r:Int×Int×Int}(h:cH a0=some r):EvP prog aV ext 130 [rS a0] [] (.tup [rI r.1,rI r.2.1,rI r.2.2],[]):=by
 refine Ev.body Z Tryz.func130 Z Zk<|gU Z<|sV (r0)<|sV (r0)<|sV (r0)<|sN<|gU Z<|sM Z<|bE h fun x1 h1 h=>cR (.tup [rS x1.1,rI x1.2]) [] (jW h1)<|sM Z<|sV (rS x1.1)<|sV (rI x1.2)<|sA Z<|sA Z ?_
 refine sN<|qS<|gU Z<|sM Z<|sF h ?_ ?_<;>intro h
 ·refine sN<|cT<|gU Z<|sM Z<|sV (r0)<|sV (r0)<|sA Z<|sN<|qR ?_
  exact oI h▸qD
 refine sN<|cF<|qK<|gU Z<|sM Z<|bE h fun x3 h3 h=>cD (dg h3)<|sM Z<|bE h fun x4 h4 h=>cD (dg h4)<|sA Z<|sA Z<|sN<|qS<|gU Z ?_
 refine sM Z<|sV (rI (x1.1.length:Int))<|sF h ?_ ?_<;>intro h
 ·refine sM Z<|k3<|sT<|sM Z<|sK<|sK<|sT<|sN<|cT<|gU Z<|sV (r0)<|sV (r0)<|sV (rI 3) ?_
  refine sN<|qR ?_
  exact oI h▸qD
 refine mM Z<|sM Z<|sV (rB (decide (x3>x4)))<|sF h ?_ ?_<;>intro h
 ·refine sM Z<|sK<|sK<|sT<|sN<|cT<|gU Z<|sV (r0)<|sV (r0)<|sV (rI 3)<|sN<|qR ?_
  exact oI h▸qD
 refine mM Z<|sV (rB (decide (x4>(1073741825:Int))))<|sF h ?_ ?_<;>intro h
 ·refine sN<|cT<|gU Z<|sV (r0)<|sV (r0)<|sV (rI 3)<|sN<|qR ?_
  exact oI h▸qD
 refine sN<|cF<|qK<|gU Z<|mM Z<|sA Z<|sA Z<|sV (r0)<|sN<|qR ?_
 exact oI h▸qD
theorem ends_status_ev{a0:(List UInt8)}{e1:Int}{e2:Int}{e3:Int}{e4:Int}{e5:Int}{e6:(List (List UInt8))}{e7:(List ae)}{e8:(List ae)}{e9:Int}{e10:Int}{e11:(List ak)}{e12:Int}{e13:Int}{e14:(List ak)}{e15:(List am)}{e16:(List am)}{d1:(List aB)}{r:Int×Int×Int×Int×Int×(List (List UInt8))×(List ae)×(List ae)×Int×Int×(List ak)×Int×Int×(List ak)×(List am)×(List am)}(h:lc a0 e1 e2 e3 e4 e5 e6 e7 e8 e9 e10 e11 e12 e13 e14 e15 e16 d1=some r):EvP prog aV ext 65 [.ptr 0 0,rS a0] [.var [rI e1,rI e2,rI e3,rI e4,rI e5,.d (.lst (e6.map PD.str)),rM ae.pd e7,rM ae.pd e8,rI e9,rI e10,rM ak.pd e11,rI e12,rI e13,rM ak.pd e14,.ref 1 0,rM am.pd e15,rM am.pd e16],.arr 0 123 (d1.map aB.pd)] (.tup [],[.var [rI r.1,rI r.2.1,rI r.2.2.1,rI r.2.2.2.1,rI r.2.2.2.2.1,.d (.lst (r.2.2.2.2.2.1.map PD.str)),rM ae.pd r.2.2.2.2.2.2.1,rM ae.pd r.2.2.2.2.2.2.2.1,rI r.2.2.2.2.2.2.2.2.1,rI r.2.2.2.2.2.2.2.2.2.1,rM ak.pd r.2.2.2.2.2.2.2.2.2.2.1,rI r.2.2.2.2.2.2.2.2.2.2.2.1,rI r.2.2.2.2.2.2.2.2.2.2.2.2.1,rM ak.pd r.2.2.2.2.2.2.2.2.2.2.2.2.2.1,.ref 1 0,rM am.pd r.2.2.2.2.2.2.2.2.2.2.2.2.2.2.1,rM am.pd r.2.2.2.2.2.2.2.2.2.2.2.2.2.2.2],.arr 0 123 (d1.map aB.pd)]):=by
 refine Ev.body Z Tryz.func65 Z Zk<|gU Z<|sM Z<|bE h fun x1 h1 h=>cR (.tup [rI x1.1,rI x1.2.1,rI x1.2.2]) [] (mT h1)<|sM Z<|sV (rI x1.1)<|sV (rI x1.2.1)<|sV (rI x1.2.2)<|sA Z<|sA Z<|sA Z<|sN<|qS<|gU Z ?_
 refine sM Z<|sF h ?_ ?_<;>intro h
 ·refine sN<|cT<|qR ?_
  cases oI h
  exact qG
 refine sN<|cF<|qK<|gU Z<|sM Z<|sV (.ptr 0 0)<|sV (.ptr 0 0)<|sV (.ptr 0 6)<|sV (.d (aw.pd (aw.mk e7 e8)))<|sM Z<|bE h fun x3 h3 h=>cR (.tup [.d (aw.pd x3.1),rI x3.2]) [] (ma h3)<|sM Z<|sV (.d (aw.pd x3.1))<|sV (rI x3.2) ?_
 refine sB (.ptr 112 0) 112 (.var [.mo,.mo])<|sS 112 (.var (aw.rc x3.1))<|sA Z<|sN<|gU Z<|sM Z<|sF h ?_ ?_<;>intro h
 ·refine sN<|cT<|gU Z<|sM Z<|sV (.d (aw.pd x3.1))<|sV (.ptr 0 0)<|sV (.ptr 0 0)<|sV (.ptr 0 6)<|sS 0 (.var (rI e1::rI e2::rI e3::rI e4::rI e5:: .d (.lst (e6.map PD.str))::aw.rc x3.1++[rI e9,rI e10,rM ak.pd e11,rI e12,rI e13,rM ak.pd e14,.ref 1 0,rM am.pd e15,rM am.pd e16]))<|sN<|WC.region Z Z<|mM Z<|bE h fun x5 h5 h=>cR (.tup []) [(0,.var [rI x5.1,rI x5.2.1,rI x5.2.2.1,rI x5.2.2.2.1,rI x5.2.2.2.2.1,.d (.lst (x5.2.2.2.2.2.1.map PD.str)),rM ae.pd x5.2.2.2.2.2.2.1,rM ae.pd x5.2.2.2.2.2.2.2.1,rI x5.2.2.2.2.2.2.2.2.1,rI x5.2.2.2.2.2.2.2.2.2.1,rM ak.pd x5.2.2.2.2.2.2.2.2.2.2.1,rI x5.2.2.2.2.2.2.2.2.2.2.2.1,rI x5.2.2.2.2.2.2.2.2.2.2.2.2.1,rM ak.pd x5.2.2.2.2.2.2.2.2.2.2.2.2.2.1,.ref 1 0,rM am.pd x5.2.2.2.2.2.2.2.2.2.2.2.2.2.2.1,rM am.pd x5.2.2.2.2.2.2.2.2.2.2.2.2.2.2.2]),(1,.arr 0 123 (d1.map aB.pd))] (ow h5) ?_
  refine sN ?_
  cases oI h
  exact qG
 refine sN<|cF<|qK ?_
 cases oI h
 exact qG
theorem pC{a0:(List ae)}{a1:Int}{r:Bool}(h:kW a0 a1=some r):EvP prog aV ext 196 [rM ae.pd a0,rI a1] [] (rB r,[]):=by
 refine Ev.body Z Tryz.func196 Z Zk<|gU Z<|sU<|sN<|gU Z<|sM Z<|bE h fun x1 h1 h=>pP h (fun hb2 h=>?_) (fun hb2 h=>?_)
 ·refine WO.pV (v:=rB true) (u:=[]) Z Z (fun _=>Z) Z Z Z Z Z (jE h1) Z Z (congrArg (fun b=>RV.d (.bool b)) hb2) Z<|mM Z<|sE (rI (a0.length:Int)) (oM _ _)<|sF h ?_ ?_<;>intro h
  ·refine sM Z<|k3<|k3<|k3<|k3<|sK<|sK ?_
   refine sK<|sK<|sT<|sT<|sA Z<|sN<|qR ?_
   exact oI h▸qD
  refine mM Z<|bE h fun x4 h4 h=>eG h4 Z<|sV (.cptr [.int .i64 x4.bd,.int .i64 x4.fTo])<|sC Z<|sF h ?_ ?_<;>intro h
  ·refine mM Z<|sM Z<|sE (rI (a0.length:Int)) (oM _ _)<|sV (rI (rW ((a0.length:Int)-(1:Int))))<|bE h fun x6 h6 h=>eG h6 Z<|sV (.cptr [.int .i64 x6.fTo])<|sC Z<|sM Z<|sV (rB (decide (x6.fTo<=a1)))<|sV (rB (decide (x6.fTo<=a1)))<|sV (rB (decide (x6.fTo<=a1)))<|sV (rB (decide (x6.fTo<=a1)))<|sA Z ?_
   refine sN<|qR ?_
   exact oI h▸qD
  refine sM Z<|k3<|k3<|k3<|sU<|sU<|sU<|sA Z<|sN ?_
  refine qR ?_
  exact oI h▸qD
 refine WO.pV (v:=rB false) (u:=[]) Z Z (fun _=>Z) Z Z Z Z Z (jE h1) Z Z (congrArg (fun b=>RV.d (.bool b)) hb2) Z<|sM Z<|k3<|k3<|k3<|k3<|sK ?_
 refine k3<|k3<|sK<|sK<|sU<|sA Z<|sN<|qR ?_
 exact oI h▸qD
theorem nV{d0:(List ae)}{r:Bool×(List ae)}(h:lq d0=some r):EvP prog aV ext 228 [.ref 0 0] [.arr 0 207 (d0.map ae.pd)] (rB r.1,[.arr 0 207 (r.2.map ae.pd)]):=by
 refine Ev.body Z Tryz.func228 Z Zk<|gU Z<|sU<|sN<|qS<|gU Z<|sM Z<|WO.tD Z Z Z Z Z Z Z Z Z<|sV (r0)<|sN<|bE h fun o15 ho15 h=>WC.block (WC.loop (WL.pJ ho15 (fun s=>gI 1 228 2 [(0,.ref 0 0),(5,.ref 0 0),(6,rI (d0.length:Int)),(7,rI s)] [(0,.arr 0 207 (d0.map ae.pd))]) (fun o=>match o with| .inl y=>gX 0 1 228 7 [] [(0,.arr 0 207 (d0.map ae.pd))]| .inr r=>gF 228 Tryz.f228 1 (rB r.1,[.arr 0 207 (r.2.map ae.pd)])) Z ?_ ?_))
 ·rintro s1 R' B' q2 hI h
  refine gS Z hI<|sF h ?_ ?_<;>intro h
  ·refine sN<|qS<|cT<|qK<|qS<|qB<|gU Z<|sM Z<|bE h fun x5 h5 h=>WO.tz h5 Z Z Z Z Z Z Z Z<|bE h fun x6 h6 h=>WO.sn h6 Z Z Z Z Z Z<|sB (.ptr 64 0) 64 (.var [r0,r0])<|sA Z<|sS 64 (.var (ae.rc x6)) ?_
   refine sN<|WC.lU Z Z<|sV (.d (ae.pd x6))<|bE h fun x7 h7 h=>cD (iV h7)<|sF h ?_ ?_<;>intro h
   ·refine sM Z<|k3<|k3<|k3<|k3<|sK<|sT ?_
    refine sN<|sO<|cT<|gU Z<|sU<|sN<|qR ?_
    cases oI h
    exact⟨nofun,rfl,rfl⟩
   refine mM Z<|sF h ?_ ?_<;>intro h
   ·refine sM Z<|sV (.ptr 64 0)<|sL Z<|mM Z<|sV (rI (rW (s1-(1:Int))))<|bE h fun x11 h11 h=>WO.tz h11 Z Z Z Z Z Z Z Z<|sV (.elt 0 0 ((rW (s1-(1:Int)))).toNat 1)<|bE h fun x12 h12 h=>WO.sn h12 Z Z Z Z Z Z<|sV (rB (decide (x6.bd<=x12.fTo)))<|sV (rB (decide (x6.bd<=x12.fTo)))<|sF h ?_ ?_<;>intro h
    ·refine sN<|sO<|cT<|gU Z<|sU<|sN<|qR ?_
     cases oI h
     exact⟨nofun,rfl,rfl⟩
    refine sN<|sO<|cF<|qK<|WC.region Z Z<|sV (rI (rW (s1+(1:Int))))<|sM Z<|sN ?_
    cases oI h
    exact⟨rfl,rfl⟩
   refine sM Z<|k3<|k3<|k3<|sU<|sU ?_
   refine sN<|sO<|cF<|qK<|WC.region Z Z<|sV (rI (rW (s1+(1:Int))))<|sM Z<|sN ?_
   cases oI h
   exact⟨rfl,rfl⟩
  refine sN<|qS<|cF<|qX ?_
  cases oI h
  exact⟨nofun,rfl,rfl⟩
 intro e R' B' he hq
 rcases o15 with y16|r17
 ·obtain⟨rfl,hI⟩:=hq
  refine qE<|gS Z hI<|sT<|sN<|qR ?_
  exact oI h▸qD
 obtain⟨rfl,hf⟩:=hq
 cases oI h
 exact hf
theorem o6{a1:Int}{d0:(List ae)}{r:Bool×(List ae)}(h:jX a1 d0=some r):EvP prog aV ext 196 [.ref 0 0,rI a1] [.arr 0 207 (d0.map ae.pd)] (rB r.1,[.arr 0 207 (r.2.map ae.pd)]):=by
 refine Ev.body Z Tryz.func196 Z Zk<|gU Z<|sU<|sN<|gU Z<|sM Z<|bE h fun x1 h1 h=>pP h (fun hb2 h=>?_) (fun hb2 h=>?_)
 ·refine WO.pV (v:=rB true) (u:=[(0,.arr 0 207 (x1.2.map ae.pd))]) Z Z (fun _=>Z) Z Z Z Z Z (nV h1) Z Z (congrArg (fun b=>RV.d (.bool b)) hb2) Z<|mM Z<|WO.tD Z Z Z Z Z Z Z Z Z<|sF h ?_ ?_<;>intro h
  ·refine sM Z<|k3<|k3<|k3<|k3<|sK<|sK ?_
   refine sK<|sK<|sT<|sT<|sA Z<|sN<|qR ?_
   exact oI h▸qD
  refine mM Z<|bE h fun x5 h5 h=>WO.tz h5 Z Z Z Z Z Z Z Z<|sV (.elt 0 0 ((0:Int)).toNat 0)<|bE h fun x6 h6 h=>WO.sn h6 Z Z Z Z Z Z<|sF h ?_ ?_<;>intro h
  ·refine mM Z<|sM Z<|WO.tD Z Z Z Z Z Z Z Z Z<|sV (rI (rW ((x1.2.length:Int)-(1:Int))))<|bE h fun x9 h9 h=>WO.tz h9 Z Z Z Z Z Z Z Z<|sV (.elt 0 0 ((rW ((x1.2.length:Int)-(1:Int)))).toNat 1)<|bE h fun x10 h10 h=>WO.sn h10 Z Z Z Z Z Z<|sM Z<|sV (rB (decide (x10.fTo<=a1)))<|sV (rB (decide (x10.fTo<=a1)))<|sV (rB (decide (x10.fTo<=a1)))<|sV (rB (decide (x10.fTo<=a1))) ?_
   refine sA Z<|sN<|qR ?_
   exact oI h▸qD
  refine sM Z<|k3<|k3<|k3<|sU<|sU<|sU<|sA Z<|sN ?_
  refine qR ?_
  exact oI h▸qD
 refine WO.pV (v:=rB false) (u:=[(0,.arr 0 207 (x1.2.map ae.pd))]) Z Z (fun _=>Z) Z Z Z Z Z (nV h1) Z Z (congrArg (fun b=>RV.d (.bool b)) hb2) Z<|sM Z<|k3<|k3<|k3<|k3<|sK ?_
 refine k3<|k3<|sK<|sK<|sU<|sA Z<|sN<|qR ?_
 exact oI h▸qD
theorem lM{a0:(List UInt8)}{r:(List ae)×Int}(h:dG a0=some r):EvP prog aV ext 131 [rS a0] [] (.tup [rM ae.pd r.1,rI r.2],[]):=by
 refine Ev.body Z Tryz.func131 Z Zk<|gU Z<|sV .mo<|sV (r0)<|sN<|gU Z<|sM Z<|bE h fun x1 h1 h=>cR (.tup [rS x1.1,rI x1.2]) [] (jW h1)<|sM Z<|sV (rS x1.1)<|sV (rI x1.2)<|sA Z<|sA Z<|sN ?_
 refine qS<|gU Z<|sM Z<|sF h ?_ ?_<;>intro h
 ·refine sN<|cT<|gU Z<|sM Z<|sV .mo<|sA Z<|sN<|qR ?_
  exact oI h▸qD
 refine sN<|cF<|qK<|gU Z<|sM Z<|sV (rI (x1.1.length:Int))<|bE h fun x3 h3 h=>WO.quoG h3 Z Z Z Z Z Z<|sA Z<|sN<|qS<|gU Z<|sM Z<|sV (rI (x1.1.length:Int))<|bE h fun x4 h4 h=>?_
 refine WO.remG h4 Z Z Z Z Z Z<|sF h ?_ ?_<;>intro h
 ·refine sM Z<|sK<|sK<|sT<|sN<|cT<|gU Z<|sV .mo<|sV (rI 3)<|sN<|qR ?_
  exact oI h▸qD
 refine mM Z<|sV (rB (decide (x3>(16:Int))))<|sF h ?_ ?_<;>intro h
 ·refine sN<|cT<|gU Z<|sV .mo<|sV (rI 3)<|sN<|qR ?_
  exact oI h▸qD
 refine sN<|cF<|qK<|gU Z<|sV .mo<|sN<|qS<|gU Z<|sM Z<|sV (r0)<|sN<|bE h fun o16 ho16 h=>WC.block (WC.loop (WL.pJ ho16 (fun s=>gI 0 131 9 [(4,rS x1.1),(7,.ref 704 0),(28,rI x3),(29,rI s.1)] [(704,.arr 0 207 (s.2.map ae.pd))]) (fun o=>gX 0 0 131 13 [(7,.ref 704 0)] [(704,.arr 0 207 (o.map ae.pd))]) Z ?_ ?_))
 ·rintro⟨s7,s8⟩ R' B' q10 hI h
  refine gS Z hI<|sF h ?_ ?_<;>intro h
  ·refine sN<|qS<|cT<|qK<|qS<|qB<|gU Z<|sM Z<|sA Z<|sN<|WC.region Z Z<|mM Z<|sM Z<|sV (rI (rW ((2:Int)*s7))) ?_
   refine bE h fun x12 h12 h=>cD (dg h12)<|mM Z<|sV (rI (rW ((2:Int)*s7)))<|sV (rI (rW ((rW ((2:Int)*s7))+(1:Int))))<|bE h fun x13 h13 h=>cD (dg h13)<|sV (.d (ae.pd (ae.mk x12 x13)))<|sV (.d (.lst ([(ae.mk x12 x13)].map ae.pd)))<|bE h fun x14 h14 h=>aR h14 (fun _=>Z) Z<|sA Z<|sN<|WC.region Z Z ?_
   refine sV (rI (rW (s7+(1:Int))))<|sM Z<|sN ?_
   cases oI h
   exact⟨rfl,rfl⟩
  refine sN<|qS<|cF<|qX ?_
  cases oI h
  exact⟨nofun,rfl,rfl⟩
 intro e R' B' he hq
 obtain⟨rfl,hI⟩:=hq
 refine qE<|qS<|gS Z hI<|sM Z<|bE h fun x17 h17 h=>cR (rB x17.1) [(704,.arr 0 207 (x17.2.map ae.pd))] (o6 h17)<|sF h ?_ ?_<;>intro h
 ·refine sN<|cT<|gU Z<|sV .mo<|sV (rI 3)<|sN<|qR ?_
  exact oI h▸qD
 refine sN<|cF<|qK<|gU Z<|sM Z<|sA Z<|sV (r0)<|sN<|qR ?_
 exact oI h▸qD
theorem je{a0:ae}{d0:Int}{r:Bool}(h:hF a0 d0=some r):EvP prog aV ext 198 [.d (ae.pd a0),.ptr 0 0] [.var [rI d0]] (rB r,[.var [rI d0]]):=by
 refine Ev.body Z Tryz.func198 Z Zk<|gU Z<|sB (.ptr 32 0) 32 (.var (ae.rc a0))<|sU<|sN<|gU Z<|sV (.ptr 32 0)<|sL Z<|sL Z<|sF h ?_ ?_<;>intro h
 ·refine sM Z<|sL Z<|sV (.ptr 32 1)<|sL Z<|sV (rB (decide (d0<a0.fTo)))<|sV (rB (decide (d0<a0.fTo)))<|sA Z<|sN<|qR ?_
  exact oI h▸qD
 refine sM Z<|k3<|sK<|sU<|sA Z<|sN<|qR ?_
 exact oI h▸qD
theorem i8{a0:(List ae)}{d0:Int}{r:Int}(h:dm a0 d0=some r):EvP prog aV ext 238 [rM ae.pd a0,.clo 198 [.ptr 0 0]] [.var [rI d0]] (rI r,[.var [rI d0]]):=by
 refine Ev.body Z Tryz.func238 Z Zk<|gU Z<|sV (r0)<|sN<|qS<|gU Z<|sM Z<|sE (rI (a0.length:Int)) (oM _ _)<|sV (r0)<|sN<|bE h fun o8 ho8 h=>WC.block (WC.loop (WL.pJ ho8 (fun s=>gI 1 238 2 [(0,rM ae.pd a0),(1,.clo 198 [.ptr 0 0]),(7,rI (a0.length:Int)),(8,rI s)] [(0,.var [rI d0])]) (fun o=>match o with| .inl y=>gX 0 1 238 7 [] [(0,.var [rI d0])]| .inr r=>gF 238 Tryz.f238 1 (rI r,[.var [rI d0]])) Z ?_ ?_))
 ·rintro s1 R' B' q2 hI h
  refine gS Z hI<|sF h ?_ ?_<;>intro h
  ·refine sN<|qS<|cT<|qK<|qS<|qB<|gU Z<|sM Z<|sA Z<|sN<|gU Z<|mM Z<|sM Z<|bE h fun x4 h4 h=>?_
   refine eG h4 Z<|sV (.d (ae.pd x4))<|bE h fun x5 h5 h=>pP h (fun hb6 h=>?_) (fun hb6 h=>?_)
   ·refine WO.pV (v:=rB true) (u:=[(0,.var [rI d0])]) Z Z (fun _=>Z) Z Z Z Z Z (je h5) Z Z (congrArg (fun b=>RV.d (.bool b)) hb6) Z<|sN<|cT<|gU Z<|sM Z<|sA Z<|sN<|qR ?_
    cases oI h
    exact⟨nofun,rfl,rfl⟩
   refine WO.pV (v:=rB false) (u:=[(0,.var [rI d0])]) Z Z (fun _=>Z) Z Z Z Z Z (je h5) Z Z (congrArg (fun b=>RV.d (.bool b)) hb6) Z<|sN<|cF<|qK<|WC.region Z Z<|sV (rI (rW (s1+(1:Int))))<|sM Z<|sN ?_
   cases oI h
   exact⟨rfl,rfl⟩
  refine sN<|qS<|cF<|qX ?_
  cases oI h
  exact⟨nofun,rfl,rfl⟩
 intro e R' B' he hq
 rcases o8 with y9|r10
 ·obtain⟨rfl,hI⟩:=hq
  refine qE<|gS Z hI<|sV (rI (-1))<|sN<|qR ?_
  exact oI h▸qD
 obtain⟨rfl,hf⟩:=hq
 cases oI h
 exact hf
theorem dX{a0:(List ae)}{d0:Int}{r:Bool}(h:cf a0 d0=some r):EvP prog aV ext 197 [rM ae.pd a0,.clo 198 [.ptr 0 0]] [.var [rI d0]] (rB r,[.var [rI d0]]):=by
 refine Ev.body Z Tryz.func197 Z Zk<|gU Z<|sU<|sN<|gU Z<|mM Z<|bE h fun x1 h1 h=>cR (rI x1) [(0,.var [rI d0])] (i8 h1)<|sV (rB (decide (x1>=(0:Int))))<|sA Z<|sN<|qR ?_
 exact oI h▸qD
theorem sender_Answer_ev{a0:aG}{a1:(List ae)}{a2:Int}{r:(List Int)×Int}(h:jD a0 a1 a2=some r):EvP prog aV ext 132 [.d (aG.pd a0),rM ae.pd a1,rI a2] [] (.tup [rL r.1,rI r.2],[]):=by
 refine Ev.body Z Tryz.func132 Z Zk<|gU Z<|sB (.ptr 48 0) 48 (.var (aG.rc a0))<|sV .mo<|sV (r0)<|sN<|qS<|gU Z<|sV (.d (aG.pd a0))<|bE h fun x1 h1 h=>cD (fo h1)<|sF h ?_ ?_<;>intro h
 ·refine sN<|cT<|gU Z<|sV .mo<|sV (rI 1)<|sN<|qR ?_
  exact oI h▸qD
 refine sN<|cF<|qK<|qS<|gU Z<|sM Z<|bE h fun x3 h3 h=>cD (iH h3)<|sF h ?_ ?_<;>intro h
 ·refine sN<|cT<|gU Z<|sV .mo<|sV (rI 2)<|sN<|qR ?_
  exact oI h▸qD
 refine sN<|cF<|qK<|gU Z<|sV .mo<|sN<|qS<|gU Z<|sV (.ptr 48 1)<|sL Z<|sB (.ptr 144 0) 144 (.var [r0])<|sS 144 (.var [rI a0.bJ])<|sN<|bE h fun o16 ho16 h=>WC.block (WC.loop (WL.pJ ho16 (fun s=>gI 0 132 7 [(1,rM ae.pd a1),(2,rI a2),(3,.ptr 48 0),(8,.ref 576 0),(9,.ptr 144 0)] [(48,.var (aG.rc a0)),(144,.var [rI s.2]),(576,.arr 0 3 (s.1.map (PD.int .i64)))]) (fun o=>gX 0 0 132 13 [(8,.ref 576 0)] [(576,.arr 0 3 (o.map (PD.int .i64)))]) Z ?_ ?_))
 ·rintro⟨s5,s6⟩ R' B' q8 hI h
  unfold iF at h
  refine qS<|WC.lU hI Z<|sL Z<|sV (.d (aG.pd a0))<|bE h fun x9 h9 h=>cD (dC h9)<|sF h ?_ ?_<;>intro h
  ·refine mM Z<|WO.tD Z Z Z Z Z Z Z Z Z<|sM Z<|sV (rB (decide ((s5.length:Int)<a2)))<|sF h ?_ ?_<;>intro h
   ·refine sN<|sO<|cT<|qK<|qS<|qB<|gU Z<|sM Z<|sV (.clo 198 [.ptr 144 0])<|bE h fun x12 h12 h=>pP h (fun hb13 h=>?_) (fun hb13 h=>?_)
    ·refine WO.pV (v:=rB true) (u:=[(144,.var [rI s6])]) Z Z (fun _=>Z) Z Z Z Z Z (dX h12) Z Z (congrArg (fun b=>RV.d (.bool b)) hb13) Z<|sN<|cT<|WC.region Z Z<|sM Z<|sL Z<|sV (.d (.lst ([s6].map (PD.int .i64))))<|bE h fun x14 h14 h=>aR h14 (fun _=>Z) Z<|sA Z<|sN<|qS<|gU Z<|sL Z<|sN ?_
     refine WC.region (R0:=[(1,rM ae.pd a1),(2,rI a2),(3,.ptr 48 0),(8,.ref 576 0),(37,rI s6)]) (B0:=[(48,.var (aG.rc a0)),(576,.arr 0 3 (x14.map (PD.int .i64)))]) Z Z<|sB (.ptr 144 0) 144 (.var [r0])<|sS 144 (.var [rI s6])<|sN<|WC.region Z Z<|sL Z<|sV (rI (rW (s6+(1:Int))))<|sS 144 (.var [rI (rW (s6+(1:Int)))])<|sN ?_
     cases oI h
     exact⟨rfl,rfl⟩
    refine WO.pV (v:=rB false) (u:=[(144,.var [rI s6])]) Z Z (fun _=>Z) Z Z Z Z Z (dX h12) Z Z (congrArg (fun b=>RV.d (.bool b)) hb13) Z<|sN<|cF<|qK<|qS<|gU Z<|sL Z<|sN<|WC.region (R0:=[(1,rM ae.pd a1),(2,rI a2),(3,.ptr 48 0),(8,.ref 576 0),(37,rI s6)]) (B0:=[(48,.var (aG.rc a0)),(576,.arr 0 3 (s5.map (PD.int .i64)))]) Z Z<|sB (.ptr 144 0) 144 (.var [r0])<|sS 144 (.var [rI s6])<|sN<|WC.region Z Z<|sL Z<|sV (rI (rW (s6+(1:Int)))) ?_
    refine sS 144 (.var [rI (rW (s6+(1:Int)))])<|sN ?_
    cases oI h
    exact⟨rfl,rfl⟩
   refine sN<|sO<|cF<|qX ?_
   cases oI h
   exact⟨nofun,rfl,rfl⟩
  refine sM Z<|k3<|sK<|sU ?_
  refine sN<|sO<|cF<|qX ?_
  cases oI h
  exact⟨nofun,rfl,rfl⟩
 intro e R' B' he hq
 obtain⟨rfl,hI⟩:=hq
 refine qE<|gS Z hI<|sM Z<|sA Z<|sV (r0)<|sN<|qR ?_
 exact oI h▸qD
theorem sender_Get_ev{a0:aG}{a1:Int}{r:(List UInt8)×Bool}(h:mS a0 a1=some r):EvP prog aV ext 133 [.d (aG.pd a0),rI a1] [] (.tup [rS r.1,rB r.2],[]):=by
 refine Ev.body Z Tryz.func133 Z Zk<|gU Z<|sB (.ptr 32 0) 32 (.var (aG.rc a0))<|sV (rS [])<|sU<|sN<|qS<|WC.lU Z Z<|sV (.d (aG.pd a0))<|bE h fun x1 h1 h=>cD (fo h1)<|sF h ?_ ?_<;>intro h
 ·refine sM Z<|k3<|k3<|sK<|sK<|sT ?_
  refine sN<|sO<|cT<|gU Z<|sV (rS [])<|sU<|sN<|qR ?_
  exact oI h▸qD
 refine mM Z<|sV (.ptr 32 1)<|sL Z<|sV (.d (aG.pd a0))<|bE h fun x3 h3 h=>cD (dC h3)<|sV (rI (rW (x3-(1:Int))))<|bE h fun x4 h4 h=>cD (iH h4)<|sV (rB (!x4))<|sF h ?_ ?_<;>intro h
 ·refine sN<|sO<|cT<|gU Z<|sV (rS [])<|sU<|sN<|qR ?_
  exact oI h▸qD
 refine sN<|sO<|cF<|qK<|gU Z<|sV (.ptr 32 2)<|sL Z<|sM Z<|sV (.ptr 32 1)<|sL Z<|sV (rI (rW (a1-a0.bJ)))<|bE h fun x6 h6 h=>eG h6 Z<|sC Z<|sA Z<|sT ?_
 refine sN<|qR ?_
 exact oI h▸qD
theorem nf{a0:(List am)}{r:am×(List am)}(h:iL a0=some r):EvP prog aV ext 199 [rM am.pd a0] [] (.tup [.d (am.pd r.1),rM am.pd r.2],[]):=by
 refine Ev.body Z Tryz.func199 Z Zk<|gU Z<|sB (.ptr 32 0) 32 (.var [rB false,r0,r0])<|sV .mo<|sN<|qS<|gU Z<|sM Z<|sE (rI (a0.length:Int)) (oM _ _)<|sF h ?_ ?_<;>intro h
 ·refine sN<|cT<|gU Z<|sV (.d (am.pd (am.mk false 0 0)))<|sS 32 (.var [rB false,r0,r0])<|sV .mo<|sN<|qR ?_
  exact oI h▸qD
 refine sN<|cF<|qK<|WC.lU Z Z<|sM Z<|bE h fun x2 h2 h=>eG h2 Z<|sV (.d (am.pd x2))<|sM Z<|bE h fun x3 h3 h=>WO.cutL (sz:=3) (g:=am.pd) h3 (fun _=>Z) Z Z Z Z Z Z Z Z Z Z Z<|sS 32 (.var (am.rc x2))<|sA Z ?_
 refine sN<|sO<|qR ?_
 exact oI h▸qD
theorem pj{a0:(List UInt8)}{e1:Int}{e2:Int}{e3:Int}{e4:Int}{e5:Int}{e6:(List (List UInt8))}{e7:(List ae)}{e8:(List ae)}{e9:Int}{e10:Int}{e11:(List ak)}{e12:Int}{e13:Int}{e14:(List ak)}{e15:(List am)}{e16:(List am)}{d1:(List aB)}{r:Int×Int×Int×Int×Int×(List (List UInt8))×(List ae)×(List ae)×Int×Int×(List ak)×Int×Int×(List ak)×(List am)×(List am)}(h:lW a0 e1 e2 e3 e4 e5 e6 e7 e8 e9 e10 e11 e12 e13 e14 e15 e16 d1=some r):EvP prog aV ext 134 [.ptr 0 0,rS a0] [.var [rI e1,rI e2,rI e3,rI e4,rI e5,.d (.lst (e6.map PD.str)),rM ae.pd e7,rM ae.pd e8,rI e9,rI e10,rM ak.pd e11,rI e12,rI e13,rM ak.pd e14,.ref 1 0,rM am.pd e15,rM am.pd e16],.arr 0 123 (d1.map aB.pd)] (.tup [],[.var [rI r.1,rI r.2.1,rI r.2.2.1,rI r.2.2.2.1,rI r.2.2.2.2.1,.d (.lst (r.2.2.2.2.2.1.map PD.str)),rM ae.pd r.2.2.2.2.2.2.1,rM ae.pd r.2.2.2.2.2.2.2.1,rI r.2.2.2.2.2.2.2.2.1,rI r.2.2.2.2.2.2.2.2.2.1,rM ak.pd r.2.2.2.2.2.2.2.2.2.2.1,rI r.2.2.2.2.2.2.2.2.2.2.2.1,rI r.2.2.2.2.2.2.2.2.2.2.2.2.1,rM ak.pd r.2.2.2.2.2.2.2.2.2.2.2.2.2.1,.ref 1 0,rM am.pd r.2.2.2.2.2.2.2.2.2.2.2.2.2.2.1,rM am.pd r.2.2.2.2.2.2.2.2.2.2.2.2.2.2.2],.arr 0 123 (d1.map aB.pd)]):=by
 refine Ev.body Z Tryz.func134 Z Zk<|gU Z<|sM Z<|sV (.ptr 0 0)<|sV (.ptr 0 15)<|sL Z<|bE h fun x1 h1 h=>cR (.tup [.d (am.pd x1.1),rM am.pd x1.2]) [] (nf h1)<|sM Z<|sV (.d (am.pd x1.1))<|sV (rM am.pd x1.2)<|sB (.ptr 64 0) 64 (.var [rB false,r0,r0])<|sS 64 (.var (am.rc x1.1))<|sA Z<|sN ?_
 refine gU Z<|mM Z<|sV (.ptr 0 0)<|sV (.ptr 0 15)<|sS 0 (.var [rI e1,rI e2,rI e3,rI e4,rI e5,.d (.lst (e6.map PD.str)),rM ae.pd e7,rM ae.pd e8,rI e9,rI e10,rM ak.pd e11,rI e12,rI e13,rM ak.pd e14,.ref 1 0,rM am.pd x1.2,rM am.pd e16])<|sN<|WC.lU Z Z<|sM Z<|sV (.ptr 0 0)<|sV (.ptr 0 0)<|sV (.ptr 0 8)<|sV (.d (aC.pd (aC.mk e9 e10 e11)))<|sM Z<|sV (.d (am.pd x1.1)) ?_
 refine bE h fun x2 h2 h=>cR (.tup [.d (aC.pd x2.1),rI x2.2]) [] (mE h2)<|sM Z<|sV (.d (aC.pd x2.1))<|sV (rI x2.2)<|sB (.ptr 96 0) 96 (.var [r0,r0,.mo])<|sS 96 (.var (aC.rc x2.1))<|sA Z ?_
 refine sN<|sO<|gU Z<|sM Z<|sF h ?_ ?_<;>intro h
 ·refine sN<|cT<|WC.region Z Z<|sM Z<|sV (.d (aC.pd x2.1))<|sV (.ptr 0 0)<|sV (.ptr 0 0)<|sV (.ptr 0 8)<|sS 0 (.var (rI e1::rI e2::rI e3::rI e4::rI e5:: .d (.lst (e6.map PD.str))::rM ae.pd e7::rM ae.pd e8::aC.rc x2.1++[rI e12,rI e13,rM ak.pd e14,.ref 1 0,rM am.pd x1.2,rM am.pd e16]))<|sN ?_
  cases oI h
  exact qG
 refine sN<|cF<|qK ?_
 cases oI h
 exact qG
theorem ends_repeat_ev{a0:(List UInt8)}{e1:Int}{e2:Int}{e3:Int}{e4:Int}{e5:Int}{e6:(List (List UInt8))}{e7:(List ae)}{e8:(List ae)}{e9:Int}{e10:Int}{e11:(List ak)}{e12:Int}{e13:Int}{e14:(List ak)}{e15:(List am)}{e16:(List am)}{d1:(List aB)}{r:Int×Int×Int×Int×Int×(List (List UInt8))×(List ae)×(List ae)×Int×Int×(List ak)×Int×Int×(List ak)×(List am)×(List am)}(h:la a0 e1 e2 e3 e4 e5 e6 e7 e8 e9 e10 e11 e12 e13 e14 e15 e16 d1=some r):EvP prog aV ext 66 [.ptr 0 0,rS a0] [.var [rI e1,rI e2,rI e3,rI e4,rI e5,.d (.lst (e6.map PD.str)),rM ae.pd e7,rM ae.pd e8,rI e9,rI e10,rM ak.pd e11,rI e12,rI e13,rM ak.pd e14,.ref 1 0,rM am.pd e15,rM am.pd e16],.arr 0 123 (d1.map aB.pd)] (.tup [],[.var [rI r.1,rI r.2.1,rI r.2.2.1,rI r.2.2.2.1,rI r.2.2.2.2.1,.d (.lst (r.2.2.2.2.2.1.map PD.str)),rM ae.pd r.2.2.2.2.2.2.1,rM ae.pd r.2.2.2.2.2.2.2.1,rI r.2.2.2.2.2.2.2.2.1,rI r.2.2.2.2.2.2.2.2.2.1,rM ak.pd r.2.2.2.2.2.2.2.2.2.2.1,rI r.2.2.2.2.2.2.2.2.2.2.2.1,rI r.2.2.2.2.2.2.2.2.2.2.2.2.1,rM ak.pd r.2.2.2.2.2.2.2.2.2.2.2.2.2.1,.ref 1 0,rM am.pd r.2.2.2.2.2.2.2.2.2.2.2.2.2.2.1,rM am.pd r.2.2.2.2.2.2.2.2.2.2.2.2.2.2.2],.arr 0 123 (d1.map aB.pd)]):=by
 refine Ev.body Z Tryz.func66 Z Zk<|gU Z<|sM Z<|bE h fun x1 h1 h=>cR (.tup [rM ae.pd x1.1,rI x1.2]) [] (lM h1)<|sM Z<|sV (rM ae.pd x1.1)<|sV (rI x1.2)<|sA Z<|sA Z<|sN<|qS<|gU Z<|sM Z<|sF h ?_ ?_<;>intro h
 ·refine sN<|cT<|qR ?_
  cases oI h
  exact qG
 refine sN<|cF<|qK<|gU Z<|sM Z<|sV (.ptr 0 0)<|sV (.ptr 0 0)<|sV (.ptr 0 3)<|sV (.d (aG.pd (aG.mk e4 e5 e6)))<|sM Z<|bE h fun x3 h3 h=>cR (.tup [rL x3.1,rI x3.2]) [] (sender_Answer_ev h3)<|sM Z<|sV (rL x3.1)<|sV (rI x3.2) ?_
 refine sA Z<|sA Z<|sN<|gU Z<|sM Z<|sE (rI (x3.1.length:Int)) (oM _ _)<|sV (r0)<|sN<|bE h fun o30 ho30 h=>?_
 cases oI h
 refine WC.block (WC.loop (WL.xa ho30 (fun s=>gI 2 66 4 [(0,.ptr 0 0),(31,rL x3.1),(32,rI (x3.1.length:Int)),(33,rI s.1)] [(0,.var [rI s.2.1,rI s.2.2.1,rI s.2.2.2.1,rI s.2.2.2.2.1,rI s.2.2.2.2.2.1,.d (.lst (s.2.2.2.2.2.2.1.map PD.str)),rM ae.pd s.2.2.2.2.2.2.2.1,rM ae.pd s.2.2.2.2.2.2.2.2.1,rI s.2.2.2.2.2.2.2.2.2.1,rI s.2.2.2.2.2.2.2.2.2.2.1,rM ak.pd s.2.2.2.2.2.2.2.2.2.2.2.1,rI s.2.2.2.2.2.2.2.2.2.2.2.2.1,rI s.2.2.2.2.2.2.2.2.2.2.2.2.2.1,rM ak.pd s.2.2.2.2.2.2.2.2.2.2.2.2.2.2.1,.ref 1 0,rM am.pd s.2.2.2.2.2.2.2.2.2.2.2.2.2.2.2.1,rM am.pd s.2.2.2.2.2.2.2.2.2.2.2.2.2.2.2.2]),(1,.arr 0 123 (d1.map aB.pd))]) Z ?_))
 rintro⟨s4,s5,s6,s7,s8,s9,s10,s11,s12,s13,s14,s15,s16,s17,s18,s19,s20⟩ R' B' q21 hI h
 refine gS Z hI<|sF h ?_ ?_<;>intro h
 ·refine sN<|qS<|cT<|qK<|qS<|qB<|gU Z<|bE h fun x23 h23 h=>eG h23 Z<|sC Z<|sA Z<|sN<|gU Z<|sM Z<|sV (.ptr 0 0) ?_
  refine sV (.ptr 0 0)<|sV (.ptr 0 3)<|sV (.d (aG.pd (aG.mk s8 s9 s10)))<|sM Z<|bE h fun x24 h24 h=>cR (.tup [rS x24.1,rB x24.2]) [] (sender_Get_ev h24)<|sM Z<|sV (rS x24.1)<|sV (rB x24.2)<|sA Z<|sA Z<|sN<|gU Z<|sM Z<|sM Z ?_
  refine sV (.ptr 0 0)<|sV (.ptr 0 0)<|sV (.ptr 0 3)<|sV (.ptr 0 4)<|sL Z<|sM Z<|bE h fun x25 h25 h=>cR (.tup [rS x25.1,rI x25.2]) [] (nd h25)<|sM Z<|sV (rS x25.1)<|sV (rI x25.2)<|sA Z<|sA Z<|sN<|gU Z ?_
  refine sM Z<|sF h ?_ ?_<;>intro h
  ·refine sN<|cT<|WC.region Z Z<|mM Z<|bE h fun x27 h27 h=>cR (.tup []) [(0,.var [rI x27.1,rI x27.2.1,rI x27.2.2.1,rI x27.2.2.2.1,rI x27.2.2.2.2.1,.d (.lst (x27.2.2.2.2.2.1.map PD.str)),rM ae.pd x27.2.2.2.2.2.2.1,rM ae.pd x27.2.2.2.2.2.2.2.1,rI x27.2.2.2.2.2.2.2.2.1,rI x27.2.2.2.2.2.2.2.2.2.1,rM ak.pd x27.2.2.2.2.2.2.2.2.2.2.1,rI x27.2.2.2.2.2.2.2.2.2.2.2.1,rI x27.2.2.2.2.2.2.2.2.2.2.2.2.1,rM ak.pd x27.2.2.2.2.2.2.2.2.2.2.2.2.2.1,.ref 1 0,rM am.pd x27.2.2.2.2.2.2.2.2.2.2.2.2.2.2.1,rM am.pd x27.2.2.2.2.2.2.2.2.2.2.2.2.2.2.2]),(1,.arr 0 123 (d1.map aB.pd))] (pj h27)<|sN<|WC.region Z Z<|sV (rI (rW (s4+(1:Int))))<|sM Z<|sN ?_
   cases oI h
   exact⟨rfl,rfl⟩
  refine sN<|cF<|qK<|WC.region Z Z<|sV (rI (rW (s4+(1:Int))))<|sM Z<|sN ?_
  cases oI h
  exact⟨rfl,rfl⟩
 refine sN<|qS<|cF<|qX<|vq h (fun z28 hkz28 hz=>?_)
 obtain rfl:=Option.some.inj hz
 refine⟨(fun he=>by cases he),fun hz2=>?_⟩
 subst hz2
 have h:=hkz28
 refine qE ?_
 cases oI h
 exact qG
theorem pB{a0:aG}{r:(List UInt8)×Int}(h:iJ a0=some r):EvP prog aV ext 135 [.d (aG.pd a0)] [] (.tup [rS r.1,rI r.2],[]):=by
 refine Ev.body Z Tryz.func135 Z Zk<|gU Z<|sB (.ptr 16 0) 16 (.var (aG.rc a0))<|sV (rS [])<|sV (r0)<|sN<|qS<|gU Z<|sV (.d (aG.pd a0))<|bE h fun x1 h1 h=>cD (fo h1)<|sF h ?_ ?_<;>intro h
 ·refine sN<|cT<|gU Z<|sV (rS [])<|sV (rI 1)<|sN<|qR ?_
  exact oI h▸qD
 refine sN<|cF<|qK<|WC.lU Z Z<|sV (.ptr 16 1)<|sL Z<|sV (.d (aG.pd a0))<|bE h fun x3 h3 h=>cD (dC h3)<|sV (.d (.lst ([a0.bJ,x3].map (PD.int .i64))))<|bE h fun x4 h4 h=>cD (hJ h4)<|bE h fun x5 h5 h=>cD (jw h5)<|sA Z ?_
 refine sV (r0) ?_
 refine sN<|sO<|qR ?_
 exact oI h▸qD
theorem receiver_High_ev{a0:aw}{r:Int}(h:jB a0=some r):EvP prog aV ext 239 [.d (aw.pd a0)] [] (rI r,[]):=by
 refine Ev.body Z Tryz.func239 Z Zk<|gU Z<|sB (.ptr 16 0) 16 (.var (aw.rc a0))<|sV (r0)<|sN<|qS<|gU Z<|sV (.d (aw.pd a0))<|bE h fun x1 h1 h=>cD (ef h1)<|sF h ?_ ?_<;>intro h
 ·refine sN<|cT<|gU Z<|sV (r0)<|sN<|qR ?_
  exact oI h▸qD
 refine sN<|cF<|qK<|gU Z<|sV (r0)<|sN<|qS<|gU Z<|sV (.ptr 16 0)<|sL Z<|sV (.ptr 16 1)<|sL Z<|sV (.d (.lst ([a0.eU,a0.c7].map (fun l=>PD.lst (l.map ae.pd)))))<|sV (rI 2)<|sV (r0) ?_
 refine sN<|WC.block (WC.loop ?_)
 refine WL.round<|WC.qv (R0:=[(3,r0),(13,.d (.lst ([a0.eU,a0.c7].map (fun l=>PD.lst (l.map ae.pd))))),(14,rI 2),(15,r0)]) (B0:=[]) Z Z<|sT<|sN<|qS<|cT<|qK<|WC.join (α:=Int) (fun x R' B'=>p6 prog 0 (A R' B') (aV.at_ 239 0 9)=some (A [(3,rI x),(13,.d (.lst ([a0.eU,a0.c7].map (fun l=>PD.lst (l.map ae.pd))))),(14,rI 2),(15,r0)] [])) (fun x=>gc a0 x=some r) ?_ ?_
 ·refine qB<|gU Z<|sV (.cptr [.lst (a0.eU.map ae.pd)])<|sC Z<|sA Z<|sN<|gU Z<|sM Z<|sE (rI (a0.eU.length:Int)) (oM _ _)<|sF h ?_ ?_<;>intro h
  ·refine sN<|cT<|WC.region Z Z<|mM Z<|sM Z<|sE (rI (a0.eU.length:Int)) (oM _ _)<|sV (rI (rW ((a0.eU.length:Int)-(1:Int))))<|bE h fun x10 h10 h=>eG h10 Z<|sV (.cptr [.int .i64 x10.fTo])<|sC Z<|sV (rI (if x10.fTo>(0:Int)then x10.fTo else(0:Int)))<|sA Z<|sN ?_
   exact⟨(if x10.fTo>(0:Int)then x10.fTo else(0:Int)),rfl,h⟩
  exact sN<|cF<|qK<|⟨0,rfl,h⟩
 rintro j3 R' B' hI h
 refine WC.region hI Z<|sV (rI 1)<|sM Z<|sN<|WL.round<|WC.qv (R0:=[(3,rI j3),(13,.d (.lst ([a0.eU,a0.c7].map (fun l=>PD.lst (l.map ae.pd))))),(14,rI 2),(15,rI 1)]) (B0:=[]) Z Z<|sT<|sN<|qS<|cT<|qK<|WC.join (α:=Int) (fun x R' B'=>p6 prog 0 (A R' B') (aV.at_ 239 0 9)=some (A [(3,rI x),(13,.d (.lst ([a0.eU,a0.c7].map (fun l=>PD.lst (l.map ae.pd))))),(14,rI 2),(15,rI 1)] [])) (fun x=>gb x=some r) ?_ ?_
 ·refine qB<|gU Z<|sV (.cptr [.lst (a0.c7.map ae.pd)])<|sC Z<|sA Z<|sN<|gU Z<|sM Z<|sE (rI (a0.c7.length:Int)) (oM _ _)<|sF h ?_ ?_<;>intro h
  ·refine sN<|cT<|WC.region Z Z<|mM Z<|sM Z<|sE (rI (a0.c7.length:Int)) (oM _ _)<|sV (rI (rW ((a0.c7.length:Int)-(1:Int))))<|bE h fun x7 h7 h=>eG h7 Z<|sV (.cptr [.int .i64 x7.fTo])<|sC Z<|sV (rI (if x7.fTo>j3 then x7.fTo else j3))<|sA Z<|sN ?_
   exact⟨(if x7.fTo>j3 then x7.fTo else j3),rfl,h⟩
  exact sN<|cF<|qK<|⟨j3,rfl,h⟩
 rintro j4 R' B' hI h
 refine WC.region hI Z<|sV (rI 2)<|sM Z<|sN<|WL.round<|WC.qv (R0:=[(3,rI j4),(13,.d (.lst ([a0.eU,a0.c7].map (fun l=>PD.lst (l.map ae.pd))))),(14,rI 2),(15,rI 2)]) (B0:=[]) Z Z<|sU<|sN<|qS<|cF<|qX<|qE<|gU Z<|sM Z<|sA Z ?_
 refine sN<|qR ?_
 exact oI h▸qD
theorem pz{a0:aw}{r:(List ae)}(h:kQ a0=some r):EvP prog aV ext 240 [.d (aw.pd a0)] [] (rM ae.pd r,[]):=by
 refine Ev.body Z Tryz.func240 Z Zk<|gU Z<|sB (.ptr 16 0) 16 (.var (aw.rc a0))<|sV .mo<|sN<|gU Z<|sV (.ptr 16 0)<|sL Z<|sV (.ptr 16 1)<|sL Z<|bE h fun x1 h1 h=>cD (lR h1)<|sA Z<|sN<|qR ?_
 exact oI h▸qD
theorem oo{a0:aw}{a1:Int}{r:(List ae)×Int}(h:jk a0 a1=some r):EvP prog aV ext 200 [.d (aw.pd a0),rI a1] [] (.tup [rM ae.pd r.1,rI r.2],[]):=by
 refine Ev.body Z Tryz.func200 Z Zk<|gU Z<|sB (.ptr 32 0) 32 (.var (aw.rc a0))<|sV .mo<|sV (r0)<|sN<|qS<|gU Z<|sV (.d (aw.pd a0))<|bE h fun x1 h1 h=>cD (ef h1)<|sF h ?_ ?_<;>intro h
 ·refine sN<|cT<|gU Z<|sV .mo<|sV (rI 1)<|sN<|qR ?_
  exact oI h▸qD
 refine sN<|cF<|qK<|qS<|gU Z<|sM Z<|bE h fun x3 h3 h=>cD (iy h3)<|sF h ?_ ?_<;>intro h
 ·refine sN<|cT<|gU Z<|sV .mo<|sV (rI 2)<|sN<|qR ?_
  exact oI h▸qD
 refine sN<|cF<|qK<|WC.lU Z Z<|sM Z<|sV (.d (aw.pd a0))<|bE h fun x5 h5 h=>cD (receiver_High_ev h5)<|sV (rI (if x5>a1 then x5 else a1))<|sV (.d (ae.pd (ae.mk 0 (if x5>a1 then x5 else a1))))<|sV (.d (.lst ([(ae.mk 0 (if x5>a1 then x5 else a1))].map ae.pd)))<|sV (.d (aw.pd a0))<|bE h fun x6 h6 h=>cD (pz h6)<|bE h fun x7 h7 h=>?_
 refine cD (lQ h7)<|sA Z<|sV (r0) ?_
 refine sN<|sO<|qR ?_
 exact oI h▸qD
theorem span_First_ev{a0:(List ae)}{a1:Int}{r:(List ae)}(h:mV a0 a1=some r):EvP prog aV ext 201 [rM ae.pd a0,rI a1] [] (rM ae.pd r,[]):=by
 refine Ev.body Z Tryz.func201 Z Zk<|gU Z<|sV .mo<|sN<|gU Z<|sV .mo<|sN<|qS<|gU Z<|sM Z<|bE h fun x1 h1 h=>cD (eQ h1)<|sE (rI (x1.length:Int)) (oM _ _)<|sV (r0)<|sN ?_
 refine bE h fun o14 ho14 h=>WC.block (WC.loop (WL.pJ ho14 (fun s=>gI 0 201 3 [(1,rI s.1),(5,.ref 656 0),(10,rM ae.pd x1),(11,rI (x1.length:Int)),(12,rI s.2.1)] [(656,.arr 0 207 (s.2.2.map ae.pd))]) (fun o=>gX 0 0 201 12 [(5,.ref 656 0)] [(656,.arr 0 207 (o.map ae.pd))]) Z ?_ ?_))
 ·rintro⟨s2,s3,s4⟩ R' B' q6 hI h
  refine gS Z hI<|sF h ?_ ?_<;>intro h
  ·refine sN<|qS<|cT<|qK<|qS<|qB<|gU Z<|bE h fun x8 h8 h=>eG h8 Z<|sV (.d (ae.pd x8))<|sB (.ptr 112 0) 112 (.var [r0,r0])<|sS 112 (.var (ae.rc x8))<|sN<|qS<|gU Z ?_
   refine sM Z<|sF h ?_ ?_<;>intro h
   ·refine sN<|cT<|qX<|⟨fun he=>(by cases he),fun _=>?_⟩
    cases oI h
    exact⟨nofun,rfl,rfl⟩
   refine sN<|cF<|qK<|qS<|gU Z<|sV (.ptr 112 1)<|sL Z<|sV (.d (.int .u64 (IntKind.wrap .u64 x8.fTo)))<|sV (.ptr 112 0)<|sL Z<|sV (.d (.int .u64 (IntKind.wrap .u64 x8.bd)))<|sV (.d (.int .u64 (IntKind.wrap .u64 ((IntKind.wrap .u64 x8.fTo)-(IntKind.wrap .u64 x8.bd)))))<|sA Z<|sN<|gU Z ?_
   refine mM Z<|sV (.d (.int .u64 (IntKind.wrap .u64 s2)))<|sF h ?_ ?_<;>intro h
   ·refine sN<|cT<|WC.region Z Z<|sV (.ptr 112 0)<|sL Z<|sM Z<|sV (rI (rW (x8.bd+s2)))<|sV (.ptr 112 1)<|sS 112 (.var [rI x8.bd,rI (rW (x8.bd+s2))])<|sV (r0)<|sN<|WC.region Z Z<|sM Z<|sV (.d (ae.pd (ae.mk x8.bd (rW (x8.bd+s2)))))<|sV (.d (.lst ([(ae.mk x8.bd (rW (x8.bd+s2)))].map ae.pd))) ?_
    refine bE h fun x11 h11 h=>aR h11 (fun _=>Z) Z<|sA Z<|sN<|WC.region Z Z<|sV (rI (rW (s3+(1:Int))))<|sM Z<|sN ?_
    cases oI h
    exact⟨rfl,rfl⟩
   refine sN<|cF<|WC.region Z Z<|mM Z<|sV (rI (rW (IntKind.wrap .u64 ((IntKind.wrap .u64 x8.fTo)-(IntKind.wrap .u64 x8.bd)))))<|sV (rI (rW (s2-(rW (IntKind.wrap .u64 ((IntKind.wrap .u64 x8.fTo)-(IntKind.wrap .u64 x8.bd)))))))<|sA Z<|sN<|WC.region Z Z<|sM Z<|sV (.d (ae.pd x8))<|sV (.d (.lst ([x8].map ae.pd)))<|bE h fun x12 h12 h=>aR h12 (fun _=>Z) Z ?_
   refine sA Z<|sN<|WC.region Z Z<|sV (rI (rW (s3+(1:Int))))<|sM Z<|sN ?_
   cases oI h
   exact⟨rfl,rfl⟩
  refine sN<|qS<|cF<|qX ?_
  cases oI h
  exact⟨nofun,rfl,rfl⟩
 intro e R' B' he hq
 obtain⟨rfl,hI⟩:=hq
 refine qE<|gS Z hI<|sM Z<|sA Z<|sN<|qR ?_
 exact oI h▸qD
theorem oq{a0:aw}{a1:Int}{a2:Int}{r:(List ae)×Int}(h:gd a0 a1 a2=some r):EvP prog aV ext 136 [.d (aw.pd a0),rI a1,rI a2] [] (.tup [rM ae.pd r.1,rI r.2],[]):=by
 refine Ev.body Z Tryz.func136 Z Zk<|gU Z<|sB (.ptr 48 0) 48 (.var (aw.rc a0))<|sV .mo<|sV (r0)<|sN<|gU Z<|sV (.d (aw.pd a0))<|sM Z<|bE h fun x1 h1 h=>cR (.tup [rM ae.pd x1.1,rI x1.2]) [] (oo h1)<|sM Z<|sV (rM ae.pd x1.1)<|sV (rI x1.2)<|sA Z ?_
 refine sA Z<|sN<|qS<|gU Z<|sM Z<|sF h ?_ ?_<;>intro h
 ·refine sN<|cT<|gU Z<|sM Z<|sV .mo<|sA Z<|sN<|qR ?_
  exact oI h▸qD
 refine sN<|cF<|qK<|qS<|gU Z<|sM Z<|bE h fun x3 h3 h=>cD (iy h3)<|sF h ?_ ?_<;>intro h
 ·refine sN<|cT<|gU Z<|sV .mo<|sV (rI 2)<|sN<|qR ?_
  exact oI h▸qD
 refine sN<|cF<|qK<|gU Z<|mM Z<|bE h fun x5 h5 h=>cD (span_First_ev h5)<|sA Z<|sV (r0)<|sN<|qR ?_
 exact oI h▸qD
theorem ot{a0:Int}{a1:(List ae)}{r:(List UInt8)×Int}(h:gg a0 a1=some r):EvP prog aV ext 137 [rI a0,rM ae.pd a1] [] (.tup [rS r.1,rI r.2],[]):=by
 refine Ev.body Z Tryz.func137 Z Zk<|gU Z<|sV (rS [])<|sV (r0)<|sN<|qS<|gU Z<|sM Z<|bE h fun x1 h1 h=>cD (cx h1)<|sF h ?_ ?_<;>intro h
 ·refine sM Z<|k3<|sK<|sT<|sN<|cT<|gU Z<|sV (rS [])<|sV (rI 1)<|sN<|qR ?_
  exact oI h▸qD
 refine mM Z<|sM Z<|bE h fun x3 h3 h=>cD (pC h3)<|sV (rB (!x3))<|sF h ?_ ?_<;>intro h
 ·refine sN<|cT<|gU Z<|sV (rS [])<|sV (rI 1)<|sN<|qR ?_
  exact oI h▸qD
 refine sN<|cF<|qK<|qS<|gU Z<|sM Z<|sE (rI (a1.length:Int)) (oM _ _)<|sF h ?_ ?_<;>intro h
 ·refine sN<|cT<|gU Z<|sV (rS [])<|sV (rI 8)<|sN<|qR ?_
  exact oI h▸qD
 refine sN<|cF<|qK<|gU Z<|sV (rS [82])<|sN<|qS<|gU Z<|sM Z<|sE (rI (a1.length:Int)) (oM _ _)<|sV (r0)<|sN<|bE h fun o14 ho14 h=>WC.block (WC.loop (WL.pJ ho14 (fun s=>gI 0 137 7 [(6,rS s.1),(21,rM ae.pd a1),(22,rI (a1.length:Int)),(23,rI s.2)] []) (fun o=>gX 0 0 137 11 [(6,rS o)] []) Z ?_ ?_))
 ·rintro⟨s6,s7⟩ R' B' q9 hI h
  refine gS Z hI<|sF h ?_ ?_<;>intro h
  ·refine sN<|qS<|cT<|qK<|qS<|qB<|gU Z<|bE h fun x11 h11 h=>eG h11 Z<|sV (.d (ae.pd x11))<|sB (.ptr 128 0) 128 (.var [r0,r0])<|sS 128 (.var (ae.rc x11))<|sN<|WC.region Z Z<|sM Z ?_
   refine sV (.ptr 128 0)<|sL Z<|sV (.ptr 128 1)<|sL Z<|sV (.d (.lst ([x11.bd,x11.fTo].map (PD.int .i64))))<|bE h fun x12 h12 h=>cD (hJ h12)<|sA Z<|sN<|WC.region Z Z<|sV (rI (rW (s7+(1:Int))))<|sM Z<|sN ?_
   cases oI h
   exact⟨rfl,rfl⟩
  refine sN<|qS<|cF<|qX ?_
  cases oI h
  exact⟨nofun,rfl,rfl⟩
 intro e R' B' he hq
 obtain⟨rfl,hI⟩:=hq
 refine qE<|gS Z hI<|sM Z<|bE h fun x15 h15 h=>cD (jw h15)<|sA Z<|sV (r0)<|sN<|qR ?_
 exact oI h▸qD
theorem ends_ask_ev{a0:(List UInt8)}{e1:Int}{e2:Int}{e3:Int}{e4:Int}{e5:Int}{e6:(List (List UInt8))}{e7:(List ae)}{e8:(List ae)}{e9:Int}{e10:Int}{e11:(List ak)}{e12:Int}{e13:Int}{e14:(List ak)}{e15:(List am)}{e16:(List am)}{d1:(List aB)}{r:Int×Int×Int×Int×Int×(List (List UInt8))×(List ae)×(List ae)×Int×Int×(List ak)×Int×Int×(List ak)×(List am)×(List am)}(h:pg a0 e1 e2 e3 e4 e5 e6 e7 e8 e9 e10 e11 e12 e13 e14 e15 e16 d1=some r):EvP prog aV ext 138 [.ptr 0 0,rS a0] [.var [rI e1,rI e2,rI e3,rI e4,rI e5,.d (.lst (e6.map PD.str)),rM ae.pd e7,rM ae.pd e8,rI e9,rI e10,rM ak.pd e11,rI e12,rI e13,rM ak.pd e14,.ref 1 0,rM am.pd e15,rM am.pd e16],.arr 0 123 (d1.map aB.pd)] (.tup [],[.var [rI r.1,rI r.2.1,rI r.2.2.1,rI r.2.2.2.1,rI r.2.2.2.2.1,.d (.lst (r.2.2.2.2.2.1.map PD.str)),rM ae.pd r.2.2.2.2.2.2.1,rM ae.pd r.2.2.2.2.2.2.2.1,rI r.2.2.2.2.2.2.2.2.1,rI r.2.2.2.2.2.2.2.2.2.1,rM ak.pd r.2.2.2.2.2.2.2.2.2.2.1,rI r.2.2.2.2.2.2.2.2.2.2.2.1,rI r.2.2.2.2.2.2.2.2.2.2.2.2.1,rM ak.pd r.2.2.2.2.2.2.2.2.2.2.2.2.2.1,.ref 1 0,rM am.pd r.2.2.2.2.2.2.2.2.2.2.2.2.2.2.1,rM am.pd r.2.2.2.2.2.2.2.2.2.2.2.2.2.2.2],.arr 0 123 (d1.map aB.pd)]):=by
 refine Ev.body Z Tryz.func138 Z Zk<|gU Z<|sM Z<|sV (.ptr 0 0)<|sV (.ptr 0 16)<|sL Z<|bE h fun x1 h1 h=>cR (.tup [.d (am.pd x1.1),rM am.pd x1.2]) [] (nf h1)<|sM Z<|sV (.d (am.pd x1.1))<|sV (rM am.pd x1.2)<|sB (.ptr 64 0) 64 (.var [rB false,r0,r0])<|sS 64 (.var (am.rc x1.1))<|sA Z<|sN ?_
 refine gU Z<|mM Z<|sV (.ptr 0 0)<|sV (.ptr 0 16)<|sS 0 (.var [rI e1,rI e2,rI e3,rI e4,rI e5,.d (.lst (e6.map PD.str)),rM ae.pd e7,rM ae.pd e8,rI e9,rI e10,rM ak.pd e11,rI e12,rI e13,rM ak.pd e14,.ref 1 0,rM am.pd e15,rM am.pd x1.2])<|sN<|WC.lU Z Z<|sM Z<|sV (.ptr 0 0)<|sV (.ptr 0 0)<|sV (.ptr 0 11)<|sV (.d (aC.pd (aC.mk e12 e13 e14)))<|sM Z<|sV (.d (am.pd x1.1)) ?_
 refine bE h fun x2 h2 h=>cR (.tup [.d (aC.pd x2.1),rI x2.2]) [] (mE h2)<|sM Z<|sV (.d (aC.pd x2.1))<|sV (rI x2.2)<|sB (.ptr 96 0) 96 (.var [r0,r0,.mo])<|sS 96 (.var (aC.rc x2.1))<|sA Z ?_
 refine sN<|sO<|gU Z<|sM Z<|sF h ?_ ?_<;>intro h
 ·refine sN<|cT<|WC.region Z Z<|sM Z<|sV (.d (aC.pd x2.1))<|sV (.ptr 0 0)<|sV (.ptr 0 0)<|sV (.ptr 0 11)<|sS 0 (.var (rI e1::rI e2::rI e3::rI e4::rI e5:: .d (.lst (e6.map PD.str))::rM ae.pd e7::rM ae.pd e8::rI e9::rI e10::rM ak.pd e11::aC.rc x2.1++[.ref 1 0,rM am.pd e15,rM am.pd x1.2]))<|sN ?_
  cases oI h
  exact qG
 refine sN<|cF<|qK ?_
 cases oI h
 exact qG
theorem ends_request_ev{e0:Int}{e1:Int}{e2:Int}{e3:Int}{e4:Int}{e5:(List (List UInt8))}{e6:(List ae)}{e7:(List ae)}{e8:Int}{e9:Int}{e10:(List ak)}{e11:Int}{e12:Int}{e13:(List ak)}{e14:(List am)}{e15:(List am)}{d1:(List aB)}{r:Int×Int×Int×Int×Int×(List (List UInt8))×(List ae)×(List ae)×Int×Int×(List ak)×Int×Int×(List ak)×(List am)×(List am)}(h:ke e0 e1 e2 e3 e4 e5 e6 e7 e8 e9 e10 e11 e12 e13 e14 e15 d1=some r):EvP prog aV ext 67 [.ptr 0 0] [.var [rI e0,rI e1,rI e2,rI e3,rI e4,.d (.lst (e5.map PD.str)),rM ae.pd e6,rM ae.pd e7,rI e8,rI e9,rM ak.pd e10,rI e11,rI e12,rM ak.pd e13,.ref 1 0,rM am.pd e14,rM am.pd e15],.arr 0 123 (d1.map aB.pd)] (.tup [],[.var [rI r.1,rI r.2.1,rI r.2.2.1,rI r.2.2.2.1,rI r.2.2.2.2.1,.d (.lst (r.2.2.2.2.2.1.map PD.str)),rM ae.pd r.2.2.2.2.2.2.1,rM ae.pd r.2.2.2.2.2.2.2.1,rI r.2.2.2.2.2.2.2.2.1,rI r.2.2.2.2.2.2.2.2.2.1,rM ak.pd r.2.2.2.2.2.2.2.2.2.2.1,rI r.2.2.2.2.2.2.2.2.2.2.2.1,rI r.2.2.2.2.2.2.2.2.2.2.2.2.1,rM ak.pd r.2.2.2.2.2.2.2.2.2.2.2.2.2.1,.ref 1 0,rM am.pd r.2.2.2.2.2.2.2.2.2.2.2.2.2.2.1,rM am.pd r.2.2.2.2.2.2.2.2.2.2.2.2.2.2.2],.arr 0 123 (d1.map aB.pd)]):=by
 refine Ev.body Z Tryz.func67 Z Zk<|gU Z<|sM Z<|sV (.ptr 0 0)<|sV (.ptr 0 0)<|sV (.ptr 0 3)<|sV (.d (aG.pd (aG.mk e3 e4 e5)))<|bE h fun x1 h1 h=>cR (.tup [rS x1.1,rI x1.2]) [] (pB h1)<|sM Z<|sV (rS x1.1)<|sV (rI x1.2)<|sA Z<|sA Z<|sN ?_
 refine gU Z<|mM Z<|bE h fun x2 h2 h=>cR (.tup []) [(0,.var [rI x2.1,rI x2.2.1,rI x2.2.2.1,rI x2.2.2.2.1,rI x2.2.2.2.2.1,.d (.lst (x2.2.2.2.2.2.1.map PD.str)),rM ae.pd x2.2.2.2.2.2.2.1,rM ae.pd x2.2.2.2.2.2.2.2.1,rI x2.2.2.2.2.2.2.2.2.1,rI x2.2.2.2.2.2.2.2.2.2.1,rM ak.pd x2.2.2.2.2.2.2.2.2.2.2.1,rI x2.2.2.2.2.2.2.2.2.2.2.2.1,rI x2.2.2.2.2.2.2.2.2.2.2.2.2.1,rM ak.pd x2.2.2.2.2.2.2.2.2.2.2.2.2.2.1,.ref 1 0,rM am.pd x2.2.2.2.2.2.2.2.2.2.2.2.2.2.2.1,rM am.pd x2.2.2.2.2.2.2.2.2.2.2.2.2.2.2.2]),(1,.arr 0 123 (d1.map aB.pd))] (pj h2)<|sN<|WC.lU Z Z<|sM Z<|sV (.ptr 0 0)<|sV (.ptr 0 0)<|sV (.ptr 0 6)<|sV (.d (aw.pd (aw.mk x2.2.2.2.2.2.2.1 x2.2.2.2.2.2.2.2.1)))<|sM Z<|sV (.ptr 0 0)<|sV (.ptr 0 0) ?_
 refine sV (.ptr 0 2)<|sL Z<|bE h fun x3 h3 h=>cR (.tup [rM ae.pd x3.1,rI x3.2]) [] (oq h3)<|sM Z<|sV (rM ae.pd x3.1)<|sV (rI x3.2)<|sA Z<|sA Z ?_
 refine sN<|sO<|qS<|gU Z<|sM Z<|sF h ?_ ?_<;>intro h
 ·refine sM Z<|k3<|sT<|sN<|cT<|qR ?_
  cases oI h
  exact qG
 refine mM Z<|sE (rI (x3.1.length:Int)) (oM _ _)<|sV (rB ((x3.1.length:Int)==(0:Int)))<|sF h ?_ ?_<;>intro h
 ·refine sN<|cT<|qR ?_
  cases oI h
  exact qG
 refine sN<|cF<|qK<|gU Z<|mM Z<|sE (rI (x3.1.length:Int)) (oM _ _)<|sV (rI (rW ((x3.1.length:Int)-(1:Int))))<|bE h fun x6 h6 h=>eG h6 Z<|sV (.cptr [.int .i64 x6.fTo])<|sC Z<|sM Z<|bE h fun x7 h7 h=>cR (.tup [rS x7.1,rI x7.2]) [] (ot h7) ?_
 refine sM Z<|sV (rS x7.1)<|sV (rI x7.2)<|sA Z<|sA Z<|sN<|gU Z<|sM Z<|sF h ?_ ?_<;>intro h
 ·refine sN<|cT<|WC.region Z Z<|mM Z<|bE h fun x9 h9 h=>cR (.tup []) [(0,.var [rI x9.1,rI x9.2.1,rI x9.2.2.1,rI x9.2.2.2.1,rI x9.2.2.2.2.1,.d (.lst (x9.2.2.2.2.2.1.map PD.str)),rM ae.pd x9.2.2.2.2.2.2.1,rM ae.pd x9.2.2.2.2.2.2.2.1,rI x9.2.2.2.2.2.2.2.2.1,rI x9.2.2.2.2.2.2.2.2.2.1,rM ak.pd x9.2.2.2.2.2.2.2.2.2.2.1,rI x9.2.2.2.2.2.2.2.2.2.2.2.1,rI x9.2.2.2.2.2.2.2.2.2.2.2.2.1,rM ak.pd x9.2.2.2.2.2.2.2.2.2.2.2.2.2.1,.ref 1 0,rM am.pd x9.2.2.2.2.2.2.2.2.2.2.2.2.2.2.1,rM am.pd x9.2.2.2.2.2.2.2.2.2.2.2.2.2.2.2]),(1,.arr 0 123 (d1.map aB.pd))] (ends_ask_ev h9)<|sN ?_
  cases oI h
  exact qG
 refine sN<|cF<|qK ?_
 cases oI h
 exact qG
theorem session_Tick_ev{a0:aK}{a1:(List am)}{a2:(List am)}{r:aK×Int}(h:ks a0 a1 a2=some r):EvP prog aV ext 21 [.d (aK.pd a0),rM am.pd a1,rM am.pd a2] [] (.tup [.d (aK.pd r.1),rI r.2],[]):=by
 refine Ev.body Z Tryz.func21 Z Zk<|gU Z<|sB (.ptr 48 0) 48 (.var (aK.rc a0))<|sB (.ptr 96 0) 96 (.var zZ4)<|sV (r0)<|sN<|gU Z<|sV (.d (.raw (.func (.func 61) #[] #[])))<|sN<|qS<|gU Z<|sV (.d (aK.pd a0))<|bE h fun x1 h1 h=>cD (mn h1)<|sF h ?_ ?_<;>intro h
 ·refine sM Z<|k3<|sT<|sM Z<|k3<|sT<|sN<|cT<|gU Z<|sG (.agg zZ4)<|sH 96 (.var zZ4) ?_
  refine sV (rI 1)<|sN<|qR ?_
  cases oI h
  exact qG
 refine mM Z<|sM Z<|bE h fun x3 h3 h=>cD (dW h3)<|sF h ?_ ?_<;>intro h
 ·refine sM Z<|k3<|sT<|sN<|cT<|gU Z<|sG (.agg zZ4)<|sH 96 (.var zZ4)<|sV (rI 1)<|sN<|qR ?_
  cases oI h
  exact qG
 refine mM Z<|sM Z<|bE h fun x5 h5 h=>cD (dW h5)<|sF h ?_ ?_<;>intro h
 ·refine sN<|cT<|gU Z<|sG (.agg zZ4)<|sH 96 (.var zZ4)<|sV (rI 1)<|sN<|qR ?_
  cases oI h
  exact qG
 refine sN<|cF<|qK<|qS<|gU Z<|sV (.ptr 48 0)<|sL Z<|sF h ?_ ?_<;>intro h
 ·refine sN<|cT<|gU Z<|sG (.agg zZ4)<|sH 96 (.var zZ4)<|sV (rI 8)<|sN<|qR ?_
  cases oI h
  exact qG
 refine sN<|cF<|qK<|gU Z<|sV (.d (aK.pd a0))<|bE h fun x8 h8 h=>cR (.agg (rI x8.bt::rI x8.br::rI x8.bY::aG.rc x8.bj++aw.rc x8.bo++aC.rc x8.bF++aC.rc x8.fUp++[.ref 544 0])) [(544,.arr 0 123 (x8.bp.map aB.pd))] (lp h8)<|mM Z<|sG (.agg (rI x8.bt::rI x8.br::rI x8.bY::aG.rc x8.bj++aw.rc x8.bo++aC.rc x8.bF++aC.rc x8.fUp++[.ref 544 0,rM am.pd a1,rM am.pd a2]))<|sB (.ptr 608 0) 608 (.var (rI x8.bt::rI x8.br::rI x8.bY::aG.rc x8.bj++aw.rc x8.bo++aC.rc x8.bF++aC.rc x8.fUp++[.ref 544 0,rM am.pd a1,rM am.pd a2]))<|sA Z<|sN<|gU Z<|sM Z ?_
 refine sV (.ptr 608 0)<|sV (.ptr 608 0)<|sV (.ptr 608 0)<|sL Z<|sV (rI (rW (x8.bt+(1:Int))))<|sV (.ptr 608 0)<|sV (.ptr 608 0)<|sV (.ptr 608 0)<|sS 608 (.var (rI (rW (x8.bt+(1:Int)))::rI x8.br::rI x8.bY::aG.rc x8.bj++aw.rc x8.bo++aC.rc x8.bF++aC.rc x8.fUp++[.ref 544 0,rM am.pd a1,rM am.pd a2]))<|sN<|gU Z<|sV .mo<|sN<|gU Z<|sM Z ?_
 refine sM Z<|sV (.ptr 608 0)<|sV (.ptr 608 0)<|sV (.ptr 608 8)<|sV (.d (aC.pd x8.bF))<|bE h fun x9 h9 h=>cR (.tup [.d (aC.pd x9.1),.d (.lst (x9.2.1.map PD.str)),rI x9.2.2]) [] (pp h9)<|sM Z<|sV (.d (aC.pd x9.1))<|sV (.d (.lst (x9.2.1.map PD.str)))<|sV (rI x9.2.2)<|sV (.ptr 608 0)<|sV (.ptr 608 0)<|sV (.ptr 608 8)<|sS 608 (.var (rI (rW (x8.bt+(1:Int)))::rI x8.br::rI x8.bY::aG.rc x8.bj++aw.rc x8.bo++aC.rc x9.1++aC.rc x8.fUp++[.ref 544 0,rM am.pd a1,rM am.pd a2])) ?_
 refine sA Z<|sN<|qS<|gU Z<|sM Z<|sE (rI (x9.2.1.length:Int)) (oM _ _)<|sV (r0)<|sN<|bE h fun o51 ho51 h=>WC.block (WC.loop (WL.pJ ho51 (fun s=>gI 0 21 11 [(6,.ptr 96 0),(9,.ptr 608 0),(62,.d (.lst (x9.2.1.map PD.str))),(63,rI (x9.2.1.length:Int)),(64,rI s.1)] [(96,.var zZ4),(544,.arr 0 123 (s.2.2.2.2.2.2.2.2.2.2.2.2.2.2.2.2.2.map aB.pd)),(608,.var [rI s.2.1,rI s.2.2.1,rI s.2.2.2.1,rI s.2.2.2.2.1,rI s.2.2.2.2.2.1,.d (.lst (s.2.2.2.2.2.2.1.map PD.str)),rM ae.pd s.2.2.2.2.2.2.2.1,rM ae.pd s.2.2.2.2.2.2.2.2.1,rI s.2.2.2.2.2.2.2.2.2.1,rI s.2.2.2.2.2.2.2.2.2.2.1,rM ak.pd s.2.2.2.2.2.2.2.2.2.2.2.1,rI s.2.2.2.2.2.2.2.2.2.2.2.2.1,rI s.2.2.2.2.2.2.2.2.2.2.2.2.2.1,rM ak.pd s.2.2.2.2.2.2.2.2.2.2.2.2.2.2.1,.ref 544 0,rM am.pd s.2.2.2.2.2.2.2.2.2.2.2.2.2.2.2.1,rM am.pd s.2.2.2.2.2.2.2.2.2.2.2.2.2.2.2.2.1])]) (fun o=>gX 0 0 21 16 [(6,.ptr 96 0),(9,.ptr 608 0)] [(96,.var zZ4),(544,.arr 0 123 (o.2.2.2.2.2.2.2.2.2.2.2.2.2.2.2.2.map aB.pd)),(608,.var [rI o.1,rI o.2.1,rI o.2.2.1,rI o.2.2.2.1,rI o.2.2.2.2.1,.d (.lst (o.2.2.2.2.2.1.map PD.str)),rM ae.pd o.2.2.2.2.2.2.1,rM ae.pd o.2.2.2.2.2.2.2.1,rI o.2.2.2.2.2.2.2.2.1,rI o.2.2.2.2.2.2.2.2.2.1,rM ak.pd o.2.2.2.2.2.2.2.2.2.2.1,rI o.2.2.2.2.2.2.2.2.2.2.2.1,rI o.2.2.2.2.2.2.2.2.2.2.2.2.1,rM ak.pd o.2.2.2.2.2.2.2.2.2.2.2.2.2.1,.ref 544 0,rM am.pd o.2.2.2.2.2.2.2.2.2.2.2.2.2.2.1,rM am.pd o.2.2.2.2.2.2.2.2.2.2.2.2.2.2.2.1])]) Z ?_ ?_))
 ·rintro⟨s10,s11,s12,s13,s14,s15,s16,s17,s18,s19,s20,s21,s22,s23,s24,s25,s26,s27⟩ R' B' q45 hI h
  refine gS Z hI<|sF h ?_ ?_<;>intro h
  ·refine sN<|qS<|cT<|qK<|qS<|qB<|gU Z<|bE h fun x47 h47 h=>eG h47 Z<|sC Z<|sA Z<|sN<|gU Z<|sM Z<|sM Z ?_
   refine bE h fun x48 h48 h=>cR (.tup []) [(608,.var [rI x48.1,rI x48.2.1,rI x48.2.2.1,rI x48.2.2.2.1,rI x48.2.2.2.2.1,.d (.lst (x48.2.2.2.2.2.1.map PD.str)),rM ae.pd x48.2.2.2.2.2.2.1,rM ae.pd x48.2.2.2.2.2.2.2.1,rI x48.2.2.2.2.2.2.2.2.1,rI x48.2.2.2.2.2.2.2.2.2.1,rM ak.pd x48.2.2.2.2.2.2.2.2.2.2.1,rI x48.2.2.2.2.2.2.2.2.2.2.2.1,rI x48.2.2.2.2.2.2.2.2.2.2.2.2.1,rM ak.pd x48.2.2.2.2.2.2.2.2.2.2.2.2.2.1,.ref 544 1,rM am.pd x48.2.2.2.2.2.2.2.2.2.2.2.2.2.2.1,rM am.pd x48.2.2.2.2.2.2.2.2.2.2.2.2.2.2.2.1]),(544,.arr 1 123 (x48.2.2.2.2.2.2.2.2.2.2.2.2.2.2.2.2.map aB.pd))] (ends_data_ev h48)<|sN<|WC.region Z Z<|mM Z<|bE h fun x49 h49 h=>cR (.tup []) [(608,.var [rI x49.1,rI x49.2.1,rI x49.2.2.1,rI x49.2.2.2.1,rI x49.2.2.2.2.1,.d (.lst (x49.2.2.2.2.2.1.map PD.str)),rM ae.pd x49.2.2.2.2.2.2.1,rM ae.pd x49.2.2.2.2.2.2.2.1,rI x49.2.2.2.2.2.2.2.2.1,rI x49.2.2.2.2.2.2.2.2.2.1,rM ak.pd x49.2.2.2.2.2.2.2.2.2.2.1,rI x49.2.2.2.2.2.2.2.2.2.2.2.1,rI x49.2.2.2.2.2.2.2.2.2.2.2.2.1,rM ak.pd x49.2.2.2.2.2.2.2.2.2.2.2.2.2.1,.ref 544 1,rM am.pd x49.2.2.2.2.2.2.2.2.2.2.2.2.2.2.1,rM am.pd x49.2.2.2.2.2.2.2.2.2.2.2.2.2.2.2]),(544,.arr 1 123 (x48.2.2.2.2.2.2.2.2.2.2.2.2.2.2.2.2.map aB.pd))] (ends_status_ev h49)<|sN<|WC.region Z Z<|sV (rI (rW (s10+(1:Int))))<|sM Z<|sN ?_
   cases oI h
   exact⟨rfl,rfl⟩
  refine sN<|qS<|cF<|qX ?_
  cases oI h
  exact⟨nofun,rfl,rfl⟩
 intro e R' B' he hq
 obtain⟨rfl,hI⟩:=hq
 refine qE<|gS Z hI<|mM Z<|sV (.ptr 608 0)<|sV (.ptr 608 0)<|sV (.ptr 608 11)<|sV (.d (aC.pd (aC.mk o51.2.2.2.2.2.2.2.2.2.2.2.1 o51.2.2.2.2.2.2.2.2.2.2.2.2.1 o51.2.2.2.2.2.2.2.2.2.2.2.2.2.1)))<|bE h fun x52 h52 h=>cR (.tup [.d (aC.pd x52.1),.d (.lst (x52.2.1.map PD.str)),rI x52.2.2]) [] (pp h52)<|sM Z<|sV (.d (aC.pd x52.1))<|sV (.d (.lst (x52.2.1.map PD.str)))<|sV (rI x52.2.2)<|sV (.ptr 608 0) ?_
 refine sV (.ptr 608 0)<|sV (.ptr 608 11)<|sS 608 (.var (rI o51.1::rI o51.2.1::rI o51.2.2.1::rI o51.2.2.2.1::rI o51.2.2.2.2.1:: .d (.lst (o51.2.2.2.2.2.1.map PD.str))::rM ae.pd o51.2.2.2.2.2.2.1::rM ae.pd o51.2.2.2.2.2.2.2.1::rI o51.2.2.2.2.2.2.2.2.1::rI o51.2.2.2.2.2.2.2.2.2.1::rM ak.pd o51.2.2.2.2.2.2.2.2.2.2.1::aC.rc x52.1++[.ref 544 0,rM am.pd o51.2.2.2.2.2.2.2.2.2.2.2.2.2.2.1,rM am.pd o51.2.2.2.2.2.2.2.2.2.2.2.2.2.2.2.1]))<|sA Z<|sN<|qS<|gU Z<|sM Z<|sE (rI (x52.2.1.length:Int)) (oM _ _)<|sV (r0)<|sN<|bE h fun o91 ho91 h=>WC.block (WC.loop (WL.pJ ho91 (fun s=>gI 0 21 18 [(6,.ptr 96 0),(9,.ptr 608 0),(89,.d (.lst (x52.2.1.map PD.str))),(90,rI (x52.2.1.length:Int)),(91,rI s.1)] [(96,.var zZ4),(544,.arr 0 123 (o51.2.2.2.2.2.2.2.2.2.2.2.2.2.2.2.2.map aB.pd)),(608,.var [rI s.2.1,rI s.2.2.1,rI s.2.2.2.1,rI s.2.2.2.2.1,rI s.2.2.2.2.2.1,.d (.lst (s.2.2.2.2.2.2.1.map PD.str)),rM ae.pd s.2.2.2.2.2.2.2.1,rM ae.pd s.2.2.2.2.2.2.2.2.1,rI s.2.2.2.2.2.2.2.2.2.1,rI s.2.2.2.2.2.2.2.2.2.2.1,rM ak.pd s.2.2.2.2.2.2.2.2.2.2.2.1,rI s.2.2.2.2.2.2.2.2.2.2.2.2.1,rI s.2.2.2.2.2.2.2.2.2.2.2.2.2.1,rM ak.pd s.2.2.2.2.2.2.2.2.2.2.2.2.2.2.1,.ref 544 0,rM am.pd s.2.2.2.2.2.2.2.2.2.2.2.2.2.2.2.1,rM am.pd s.2.2.2.2.2.2.2.2.2.2.2.2.2.2.2.2])]) (fun o=>gX 2 0 21 22 [(6,.ptr 96 0),(9,.ptr 608 0)] [(96,.var zZ4),(544,.arr 0 123 (o51.2.2.2.2.2.2.2.2.2.2.2.2.2.2.2.2.map aB.pd)),(608,.var [rI o.1,rI o.2.1,rI o.2.2.1,rI o.2.2.2.1,rI o.2.2.2.2.1,.d (.lst (o.2.2.2.2.2.1.map PD.str)),rM ae.pd o.2.2.2.2.2.2.1,rM ae.pd o.2.2.2.2.2.2.2.1,rI o.2.2.2.2.2.2.2.2.1,rI o.2.2.2.2.2.2.2.2.2.1,rM ak.pd o.2.2.2.2.2.2.2.2.2.2.1,rI o.2.2.2.2.2.2.2.2.2.2.2.1,rI o.2.2.2.2.2.2.2.2.2.2.2.2.1,rM ak.pd o.2.2.2.2.2.2.2.2.2.2.2.2.2.1,.ref 544 0,rM am.pd o.2.2.2.2.2.2.2.2.2.2.2.2.2.2.1,rM am.pd o.2.2.2.2.2.2.2.2.2.2.2.2.2.2.2])]) Z ?_ ?_))
 ·rintro⟨s53,s54,s55,s56,s57,s58,s59,s60,s61,s62,s63,s64,s65,s66,s67,s68,s69⟩ R' B' q86 hI h
  refine gS Z hI<|sF h ?_ ?_<;>intro h
  ·refine sN<|qS<|cT<|qK<|qS<|qB<|gU Z<|bE h fun x88 h88 h=>eG h88 Z<|sC Z<|sA Z<|sN<|WC.region Z Z<|sM Z<|sM Z ?_
   refine bE h fun x89 h89 h=>cR (.tup []) [(608,.var [rI x89.1,rI x89.2.1,rI x89.2.2.1,rI x89.2.2.2.1,rI x89.2.2.2.2.1,.d (.lst (x89.2.2.2.2.2.1.map PD.str)),rM ae.pd x89.2.2.2.2.2.2.1,rM ae.pd x89.2.2.2.2.2.2.2.1,rI x89.2.2.2.2.2.2.2.2.1,rI x89.2.2.2.2.2.2.2.2.2.1,rM ak.pd x89.2.2.2.2.2.2.2.2.2.2.1,rI x89.2.2.2.2.2.2.2.2.2.2.2.1,rI x89.2.2.2.2.2.2.2.2.2.2.2.2.1,rM ak.pd x89.2.2.2.2.2.2.2.2.2.2.2.2.2.1,.ref 544 0,rM am.pd x89.2.2.2.2.2.2.2.2.2.2.2.2.2.2.1,rM am.pd x89.2.2.2.2.2.2.2.2.2.2.2.2.2.2.2]),(544,.arr 0 123 (o51.2.2.2.2.2.2.2.2.2.2.2.2.2.2.2.2.map aB.pd))] (ends_repeat_ev h89)<|sN<|WC.region Z Z<|sV (rI (rW (s53+(1:Int))))<|sM Z<|sN ?_
   cases oI h
   exact⟨rfl,rfl⟩
  refine sN<|qS<|cF<|qX ?_
  cases oI h
  exact⟨nofun,rfl,rfl⟩
 intro e R' B' he hq
 obtain⟨rfl,hI⟩:=hq
 refine qE<|qS<|WC.lU hI Z<|sM Z<|sV (.ptr 608 0)<|sV (.ptr 608 0)<|sV (.ptr 608 0)<|sL Z<|sM Z<|sV (.ptr 608 0)<|sV (.ptr 608 0)<|sV (.ptr 608 1)<|sL Z<|bE h fun x92 h92 h=>WO.remG h92 Z Z Z Z Z Z ?_
 refine sF h ?_ ?_<;>intro h
 ·refine sN<|sO<|cT<|WC.region Z Z<|sM Z<|bE h fun x94 h94 h=>cR (.tup []) [(608,.var [rI x94.1,rI x94.2.1,rI x94.2.2.1,rI x94.2.2.2.1,rI x94.2.2.2.2.1,.d (.lst (x94.2.2.2.2.2.1.map PD.str)),rM ae.pd x94.2.2.2.2.2.2.1,rM ae.pd x94.2.2.2.2.2.2.2.1,rI x94.2.2.2.2.2.2.2.2.1,rI x94.2.2.2.2.2.2.2.2.2.1,rM ak.pd x94.2.2.2.2.2.2.2.2.2.2.1,rI x94.2.2.2.2.2.2.2.2.2.2.2.1,rI x94.2.2.2.2.2.2.2.2.2.2.2.2.1,rM ak.pd x94.2.2.2.2.2.2.2.2.2.2.2.2.2.1,.ref 544 0,rM am.pd x94.2.2.2.2.2.2.2.2.2.2.2.2.2.2.1,rM am.pd x94.2.2.2.2.2.2.2.2.2.2.2.2.2.2.2]),(544,.arr 0 123 (o51.2.2.2.2.2.2.2.2.2.2.2.2.2.2.2.2.map aB.pd))] (ends_request_ev h94)<|sN<|gU Z<|sM Z<|sV (.ptr 608 0)<|sV (.ptr 608 0)<|sV (.agg [rI x94.1,rI x94.2.1,rI x94.2.2.1,rI x94.2.2.2.1,rI x94.2.2.2.2.1,.d (.lst (x94.2.2.2.2.2.1.map PD.str)),rM ae.pd x94.2.2.2.2.2.2.1,rM ae.pd x94.2.2.2.2.2.2.2.1,rI x94.2.2.2.2.2.2.2.2.1,rI x94.2.2.2.2.2.2.2.2.2.1,rM ak.pd x94.2.2.2.2.2.2.2.2.2.2.1,rI x94.2.2.2.2.2.2.2.2.2.2.2.1,rI x94.2.2.2.2.2.2.2.2.2.2.2.2.1,rM ak.pd x94.2.2.2.2.2.2.2.2.2.2.2.2.2.1,.ref 544 0])<|sH 96 (.var [rI x94.1,rI x94.2.1,rI x94.2.2.1,rI x94.2.2.2.1,rI x94.2.2.2.2.1,.d (.lst (x94.2.2.2.2.2.1.map PD.str)),rM ae.pd x94.2.2.2.2.2.2.1,rM ae.pd x94.2.2.2.2.2.2.2.1,rI x94.2.2.2.2.2.2.2.2.1,rI x94.2.2.2.2.2.2.2.2.2.1,rM ak.pd x94.2.2.2.2.2.2.2.2.2.2.1,rI x94.2.2.2.2.2.2.2.2.2.2.2.1,rI x94.2.2.2.2.2.2.2.2.2.2.2.2.1,rM ak.pd x94.2.2.2.2.2.2.2.2.2.2.2.2.2.1,.ref 544 0])<|sV (r0)<|sN ?_
  refine qR ?_
  cases oI h
  exact qG
 refine sN<|sO<|cF<|qK<|gU Z<|sM Z<|sV (.ptr 608 0)<|sV (.ptr 608 0)<|sV (.agg [rI o91.1,rI o91.2.1,rI o91.2.2.1,rI o91.2.2.2.1,rI o91.2.2.2.2.1,.d (.lst (o91.2.2.2.2.2.1.map PD.str)),rM ae.pd o91.2.2.2.2.2.2.1,rM ae.pd o91.2.2.2.2.2.2.2.1,rI o91.2.2.2.2.2.2.2.2.1,rI o91.2.2.2.2.2.2.2.2.2.1,rM ak.pd o91.2.2.2.2.2.2.2.2.2.2.1,rI o91.2.2.2.2.2.2.2.2.2.2.2.1,rI o91.2.2.2.2.2.2.2.2.2.2.2.2.1,rM ak.pd o91.2.2.2.2.2.2.2.2.2.2.2.2.2.1,.ref 544 0])<|sH 96 (.var [rI o91.1,rI o91.2.1,rI o91.2.2.1,rI o91.2.2.2.1,rI o91.2.2.2.2.1,.d (.lst (o91.2.2.2.2.2.1.map PD.str)),rM ae.pd o91.2.2.2.2.2.2.1,rM ae.pd o91.2.2.2.2.2.2.2.1,rI o91.2.2.2.2.2.2.2.2.1,rI o91.2.2.2.2.2.2.2.2.2.1,rM ak.pd o91.2.2.2.2.2.2.2.2.2.2.1,rI o91.2.2.2.2.2.2.2.2.2.2.2.1,rI o91.2.2.2.2.2.2.2.2.2.2.2.2.1,rM ak.pd o91.2.2.2.2.2.2.2.2.2.2.2.2.2.1,.ref 544 0])<|sV (r0)<|sN<|qR ?_
 cases oI h
 exact qG
theorem mL{a0:(List aj)}{a1:(List aj)}{r:Bool}(h:eD a0 a1=some r):EvP prog aV ext 23 [rM aj.pd a0,rM aj.pd a1] [] (rB r,[]):=by
 refine Ev.body Z Tryz.func23 Z Zk<|gU Z<|sU<|sN<|qS<|gU Z<|sM Z<|sE (rI (a0.length:Int)) (oM _ _)<|sM Z<|sE (rI (a1.length:Int)) (oM _ _)<|sF h ?_ ?_<;>intro h
 ·refine sN<|cT<|gU Z<|sU<|sN<|qR ?_
  exact oI h▸qD
 refine sN<|cF<|qK<|qS<|gU Z<|sV (r0)<|sN<|bE h fun o10 ho10 h=>WC.block (WC.loop (WL.pJ ho10 (fun s=>gI 0 23 4 [(0,rM aj.pd a0),(1,rM aj.pd a1),(5,rI s)] []) (fun o=>match o with| .inl y=>gX 0 0 23 8 [] []| .inr r=>gF 23 Tryz.f23 0 (rB r,[])) Z ?_ ?_))
 ·rintro s2 R' B' q3 hI h
  refine qS<|gS Z hI<|mM Z<|sE (rI (a0.length:Int)) (oM _ _)<|sF h ?_ ?_<;>intro h
  ·refine sN<|cT<|qK<|qS<|qB<|WC.lU Z Z<|mM Z<|bE h fun x5 h5 h=>eG h5 Z<|sV (.d (aj.pd x5))<|mM Z<|bE h fun x6 h6 h=>eG h6 Z ?_
   refine sV (.d (aj.pd x6))<|bE h fun x7 h7 h=>cD (jd h7)<|sF h ?_ ?_<;>intro h
   ·refine sN<|sO<|cT<|gU Z<|sU<|sN<|qR ?_
    cases oI h
    exact⟨nofun,rfl,rfl⟩
   refine sN<|sO<|cF<|qK<|WC.region Z Z<|sM Z<|sV (rI (rW (s2+(1:Int))))<|sA Z<|sN ?_
   cases oI h
   exact⟨rfl,rfl⟩
  refine sN<|cF<|qX ?_
  cases oI h
  exact⟨nofun,rfl,rfl⟩
 intro e R' B' he hq
 rcases o10 with y11|r12
 ·obtain⟨rfl,hI⟩:=hq
  refine qE<|gS Z hI<|sT<|sN<|qR ?_
  exact oI h▸qD
 obtain⟨rfl,hf⟩:=hq
 cases oI h
 exact hf
theorem nA{a0:(List Int)}{r:Bool}(h:iu a0=some r):EvP prog aV ext 4 [rL a0] [] (rB r,[]):=by
 refine Ev.body Z Tryz.func4 Z Zk<|gU Z<|sU<|sN<|gU Z<|sM Z<|bE h fun x1 h1 h=>cR (.ptr 288 0) [(288,.var (aq.rc x1))] (keep_New_ev h1)<|sA Z<|sN<|gU Z<|sM Z<|bE h fun x2 h2 h=>cR (rM aj.pd x2.1) [(288,.var (aq.rc x2.2))] (law37_told_ev h2)<|sA Z ?_
 refine sN<|gU Z<|sM Z<|bE h fun x3 h3 h=>cR (rI x3.1) [(288,.var (aq.rc x3.2))] (cg h3)<|sV (rI (rW ((1:Int)+x3.1)))<|bE h fun x4 h4 h=>cR (.tup [.d (aK.pd x4.1),rI x4.2]) [] (session_New_ev h4)<|sM Z<|sV (.d (aK.pd x4.1))<|sV (rI x4.2)<|sB (.ptr 80 0) 80 (.var zZ4)<|sH 80 (.var (aK.rc x4.1))<|sA Z<|sN ?_
 refine qS<|gU Z<|sM Z<|sF h ?_ ?_<;>intro h
 ·refine sN<|cT<|gU Z<|sU<|sN<|qR ?_
  cases oI h
  exact qG
 refine sN<|cF<|qK<|gU Z<|sV (r0)<|sN<|qS<|gU Z<|sV (r0)<|sN<|bE h fun o92 ho92 h=>WC.block (WC.loop (WL.pJ ho92 (fun s=>gI 0 4 8 [(3,.ptr 288 0),(4,rM aj.pd x2.1),(5,.ptr 80 0),(7,rI s.1),(8,rI s.2.1)] [(80,.var [rI s.2.2.2.2.1,rI s.2.2.2.2.2.1,rI s.2.2.2.2.2.2.1,rI s.2.2.2.2.2.2.2.1,rI s.2.2.2.2.2.2.2.2.1,.d (.lst (s.2.2.2.2.2.2.2.2.2.1.map PD.str)),rM ae.pd s.2.2.2.2.2.2.2.2.2.2.1,rM ae.pd s.2.2.2.2.2.2.2.2.2.2.2.1,rI s.2.2.2.2.2.2.2.2.2.2.2.2.1,rI s.2.2.2.2.2.2.2.2.2.2.2.2.2.1,rM ak.pd s.2.2.2.2.2.2.2.2.2.2.2.2.2.2.1,rI s.2.2.2.2.2.2.2.2.2.2.2.2.2.2.2.1,rI s.2.2.2.2.2.2.2.2.2.2.2.2.2.2.2.2.1,rM ak.pd s.2.2.2.2.2.2.2.2.2.2.2.2.2.2.2.2.2.1,rM aB.pd s.2.2.2.2.2.2.2.2.2.2.2.2.2.2.2.2.2.2]),(288,.var [rL s.2.2.1,rI s.2.2.2.1])]) (fun o=>match o with| .inl y=>gX 0 0 4 27 [] []| .inr r=>gF 4 Tryz.f4 0 (rB r,[])) Z ?_ ?_))
 ·rintro⟨s6,s7,s8,s9,s10,s11,s12,s13,s14,s15,s16,s17,s18,s19,s20,s21,s22,s23,s24⟩ R' B' q25 hI h
  refine qS<|gS Z hI<|sM Z<|sF h ?_ ?_<;>intro h
  ·refine sN<|cT<|qK<|qS<|qB<|qS<|bE h fun o78 ho78 h=>WC.block (WC.loop (WL.pJ ho78 (fun s=>gI 0 4 10 [(3,.ptr 288 0),(4,rM aj.pd x2.1),(5,.ptr 80 0),(7,rI s.1),(8,rI s7)] [(80,.var [rI s.2.2.2.1,rI s.2.2.2.2.1,rI s.2.2.2.2.2.1,rI s.2.2.2.2.2.2.1,rI s.2.2.2.2.2.2.2.1,.d (.lst (s.2.2.2.2.2.2.2.2.1.map PD.str)),rM ae.pd s.2.2.2.2.2.2.2.2.2.1,rM ae.pd s.2.2.2.2.2.2.2.2.2.2.1,rI s.2.2.2.2.2.2.2.2.2.2.2.1,rI s.2.2.2.2.2.2.2.2.2.2.2.2.1,rM ak.pd s.2.2.2.2.2.2.2.2.2.2.2.2.2.1,rI s.2.2.2.2.2.2.2.2.2.2.2.2.2.2.1,rI s.2.2.2.2.2.2.2.2.2.2.2.2.2.2.2.1,rM ak.pd s.2.2.2.2.2.2.2.2.2.2.2.2.2.2.2.2.1,rM aB.pd s.2.2.2.2.2.2.2.2.2.2.2.2.2.2.2.2.2]),(288,.var [rL s.2.1,rI s.2.2.1])]) (fun o=>match o with| .inl y=>gX 2 0 4 20 [(3,.ptr 288 0),(4,rM aj.pd x2.1),(5,.ptr 80 0),(7,rI y.1),(8,rI y.2.1)] [(80,.var [rI y.2.2.2.2.1,rI y.2.2.2.2.2.1,rI y.2.2.2.2.2.2.1,rI y.2.2.2.2.2.2.2.1,rI y.2.2.2.2.2.2.2.2.1,.d (.lst (y.2.2.2.2.2.2.2.2.2.1.map PD.str)),rM ae.pd y.2.2.2.2.2.2.2.2.2.2.1,rM ae.pd y.2.2.2.2.2.2.2.2.2.2.2.1,rI y.2.2.2.2.2.2.2.2.2.2.2.2.1,rI y.2.2.2.2.2.2.2.2.2.2.2.2.2.1,rM ak.pd y.2.2.2.2.2.2.2.2.2.2.2.2.2.2.1,rI y.2.2.2.2.2.2.2.2.2.2.2.2.2.2.2.1,rI y.2.2.2.2.2.2.2.2.2.2.2.2.2.2.2.2.1,rM ak.pd y.2.2.2.2.2.2.2.2.2.2.2.2.2.2.2.2.2.1,rM aB.pd y.2.2.2.2.2.2.2.2.2.2.2.2.2.2.2.2.2.2]),(288,.var [rL y.2.2.1,rI y.2.2.2.1])]| .inr r=>gF 4 Tryz.f4 0 (rB r,[])) Z ?_ ?_))
   ·rintro⟨s27,s28,s29,s30,s31,s32,s33,s34,s35,s36,s37,s38,s39,s40,s41,s42,s43,s44⟩ R' B' q64 hI h
    refine qS<|gS Z hI<|mM Z<|sE (rI (x2.1.length:Int)) (oM _ _)<|sF h ?_ ?_<;>intro h
    ·refine mM Z<|bE h fun x66 h66 h=>cR (rI x66.1) [(288,.var (aq.rc x66.2))] (cg h66)<|sV (rB (x66.1==(0:Int)))<|sF h ?_ ?_<;>intro h
     ·refine sN<|cT<|qK<|qB<|gU Z<|mM Z<|bE h fun x68 h68 h=>eG h68 Z<|sV (.d (aj.pd x68))<|bE h fun x69 h69 h=>cR (.tup [rS x69.1,rI x69.2]) [] (kK h69)<|sM Z<|sV (rS x69.1)<|sV (rI x69.2) ?_
      refine sA Z<|sA Z<|sN<|qS<|gU Z<|sM Z<|sF h ?_ ?_<;>intro h
      ·refine sN<|cT<|gU Z<|sU<|sN<|qR ?_
       cases oI h
       exact⟨nofun,rfl,rfl⟩
      refine sN<|cF<|qK<|WC.lU Z Z<|sV (.d (aK.pd (aK.mk s30 s31 s32 (aG.mk s33 s34 s35) (aw.mk s36 s37) (aC.mk s38 s39 s40) (aC.mk s41 s42 s43) s44)))<|mM Z<|bE h fun x71 h71 h=>cR (.d (am.pd x71.1)) [(288,.var (aq.rc x71.2))] (iv h71)<|bE h fun x72 h72 h=>cR (.tup [.d (aK.pd x72.1),rI x72.2.1,rI x72.2.2]) [] (session_Push_ev h72)<|sM Z<|sV (.d (aK.pd x72.1))<|sV (rI x72.2.1)<|sV (rI x72.2.2) ?_
      refine sB (.ptr 176 0) 176 (.var zZ4)<|sH 176 (.var (aK.rc x72.1))<|sA Z<|sA Z ?_
      refine sN<|sO<|qS<|gU Z<|sM Z<|sF h ?_ ?_<;>intro h
      ·refine sN<|cT<|gU Z<|bE h fun x74 h74 h=>cD (nB h74)<|sA Z<|sN<|qR ?_
       cases oI h
       exact⟨nofun,rfl,rfl⟩
      refine sN<|cF<|qK<|qS<|gU Z<|sM Z<|sF h ?_ ?_<;>intro h
      ·refine sM Z<|k3<|sT<|sN<|cT<|gU Z<|sU<|sN<|qR ?_
       cases oI h
       exact⟨nofun,rfl,rfl⟩
      refine mM Z<|sM Z<|sV (rB (x72.2.1 != s27))<|sF h ?_ ?_<;>intro h
      ·refine sN<|cT<|gU Z<|sU<|sN<|qR ?_
       cases oI h
       exact⟨nofun,rfl,rfl⟩
      refine sN<|cF<|qK<|WC.region Z Z<|sV (.d (aK.pd x72.1))<|sM Z<|sV (rI (rW (s27+(1:Int))))<|sH 80 (.var (aK.rc x72.1))<|sA Z<|sN ?_
      cases oI h
      exact⟨rfl,rfl⟩
     refine sN<|cF<|qX ?_
     cases oI h
     exact⟨nofun,rfl,rfl⟩
    refine sM Z<|k3<|sU<|sN<|cF<|qX ?_
    cases oI h
    exact⟨nofun,rfl,rfl⟩
   intro e R' B' he hq
   rcases o78 with y79|r80
   ·obtain⟨rfl,hI⟩:=hq
    refine qE<|WC.lU hI Z<|sV (.d (aK.pd (aK.mk y79.2.2.2.2.1 y79.2.2.2.2.2.1 y79.2.2.2.2.2.2.1 (aG.mk y79.2.2.2.2.2.2.2.1 y79.2.2.2.2.2.2.2.2.1 y79.2.2.2.2.2.2.2.2.2.1) (aw.mk y79.2.2.2.2.2.2.2.2.2.2.1 y79.2.2.2.2.2.2.2.2.2.2.2.1) (aC.mk y79.2.2.2.2.2.2.2.2.2.2.2.2.1 y79.2.2.2.2.2.2.2.2.2.2.2.2.2.1 y79.2.2.2.2.2.2.2.2.2.2.2.2.2.2.1) (aC.mk y79.2.2.2.2.2.2.2.2.2.2.2.2.2.2.2.1 y79.2.2.2.2.2.2.2.2.2.2.2.2.2.2.2.2.1 y79.2.2.2.2.2.2.2.2.2.2.2.2.2.2.2.2.2.1) y79.2.2.2.2.2.2.2.2.2.2.2.2.2.2.2.2.2.2)))<|sM Z<|bE h fun x81 h81 h=>cR (.d (am.pd x81.1)) [(288,.var (aq.rc x81.2))] (iv h81)<|sM Z<|bE h fun x82 h82 h=>cR (.d (am.pd x82.1)) [(288,.var (aq.rc x82.2))] (iv h82)<|sV (.d (.lst ([x81.1,x82.1].map am.pd)))<|sM Z<|bE h fun x83 h83 h=>cR (.d (am.pd x83.1)) [(288,.var (aq.rc x83.2))] (iv h83)<|sV (.d (.lst ([x83.1].map am.pd)))<|bE h fun x84 h84 h=>?_
    refine cR (.tup [.d (aK.pd x84.1),rI x84.2]) [] (session_Tick_ev h84)<|sM Z<|sV (.d (aK.pd x84.1))<|sV (rI x84.2)<|sB (.ptr 224 0) 224 (.var zZ4)<|sH 224 (.var (aK.rc x84.1))<|sA Z ?_
    refine sN<|sO<|qS<|gU Z<|sM Z<|sF h ?_ ?_<;>intro h
    ·refine sN<|cT<|gU Z<|sU<|sN<|qR ?_
     cases oI h
     exact⟨nofun,rfl,rfl⟩
    refine sN<|cF<|qK<|gU Z<|sV (.d (aK.pd x84.1))<|sH 80 (.var (aK.rc x84.1))<|sN<|gU Z<|sV (.ptr 80 14)<|sL Z<|bE h fun x86 h86 h=>cD (nw h86)<|sA Z<|sN<|gU Z ?_
    refine sM Z<|sE (rI (x86.length:Int)) (oM _ _)<|sM Z<|sF h ?_ ?_<;>intro h
    ·refine sM Z<|k3<|k3<|sK<|sT<|sN<|cT<|gU Z<|sU<|sN<|qR ?_
     cases oI h
     exact⟨nofun,rfl,rfl⟩
    refine mM Z<|mM Z<|sE (rI (x86.length:Int)) (oM _ _)<|bE h fun x88 h88 h=>WO.cutL (sz:=30) (g:=aj.pd) h88 (fun _=>Z) Z Z Z Z Z Z Z Z Z Z Z<|bE h fun x89 h89 h=>cD (mL h89)<|sV (rB (!x89))<|sF h ?_ ?_<;>intro h
    ·refine sN<|cT<|gU Z<|sU<|sN<|qR ?_
     cases oI h
     exact⟨nofun,rfl,rfl⟩
    refine sN<|cF<|qK<|WC.region Z Z<|sM Z<|sV (rI (rW (y79.2.1+(1:Int))))<|sA Z<|sN ?_
    cases oI h
    exact⟨rfl,rfl⟩
   obtain⟨rfl,hf⟩:=hq
   cases oI h
   exact⟨nofun,rfl,hf⟩
  refine sN<|cF<|qX ?_
  cases oI h
  exact⟨nofun,rfl,rfl⟩
 intro e R' B' he hq
 rcases o92 with y93|r94
 ·obtain⟨rfl,hI⟩:=hq
  refine qE<|gS Z hI<|bE h fun x95 h95 h=>cD (nB h95)<|sA Z<|sN<|qR ?_
  exact oI h▸qD
 obtain⟨rfl,hf⟩:=hq
 cases oI h
 exact hf
end Go.Dw.Fc
