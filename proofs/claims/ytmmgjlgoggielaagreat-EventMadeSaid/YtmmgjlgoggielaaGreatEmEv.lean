
import Derived.Test.YtmmgjlgoggielaaGreatEmEvC

set_option maxRecDepth 100000
set_option maxHeartbeats 4000000
namespace Go.Dw.Em
open Go.Proofs Go.Proofs.Tryz Go.Dw
theorem law34_awake_ev{r:Bool}(h:nw=some r):EvP prog az ext 23 [] [] (rB r,[]):=by
 refine Ev.body Z Tryz.func23 Z Zk<|gU Z<|sU<|sN<|gU Z<|bE h fun x1 h1 h=>cR (.ptr 192 0) [(192,.var (ac.rc x1))] (keep_New_ev h1)<|sA Z<|sN<|gU Z<|sM Z<|bE h fun x2 h2 h=>cR (.d (ar.pd x2.1)) [(192,.var (ac.rc x2.2))] (o5 h2)<|sM Z<|bE h fun x3 h3 h=>?_
 refine cR (.d (al.pd x3.1)) [(192,.var (ac.rc x3.2))] (rq h3)<|sB (.ptr 32 0) 32 (.var [r0,r0,r0,r0,r0,r0,r0,.dO,.dO,r0,r0,r0,r0,r0,r0,.dO,.dO,r0,r0,r0])<|sB (.ptr 48 0) 48 (.var [.dO])<|sH 32 (.var (ar.rc x2.1))<|sS 48 (.var [rM aq.pd x3.1.aJ])<|sN<|gU Z<|bE h fun x4 h4 h=>cD (iF h4)<|sG (.d (ai.pd (ai.mk x4 2500 2500 2500 10 0)))<|sB (.ptr 64 0) 64 (.var zZ2)<|sH 64 (.var (au.rc x4++[rI 2500,rI 2500,rI 2500,rI 10,r0]))<|sN<|gU Z<|sV (.d (ai.pd (ai.mk x4 2500 2500 2500 10 0))) ?_
 refine sB (.ptr 80 0) 80 (.var zZ2)<|sH 80 (.var (au.rc x4++[rI 2500,rI 2500,rI 2500,rI 10,r0]))<|sN<|gU Z<|sV (.ptr 80 7)<|sS 80 (.var (au.rc x4++[rI 2500,rI 2500,rI 2500,rI 11,r0]))<|sN<|gU Z<|sV (.d (ar.pd x2.1))<|sV (.d (.agg [.lst (x3.1.aJ.map aq.pd)]))<|sV (.d (ai.pd (ai.mk x4 2500 2500 2500 11 0)))<|sV (.d (ai.pd (ai.mk x4 2500 2500 2500 10 0)))<|sG (.d (.lst ([(ai.mk x4 2500 2500 2500 11 0),(ai.mk x4 2500 2500 2500 10 0)].map ai.pd)))<|bE h fun x5 h5 h=>cR (.tup [rM aH.pd x5.1,rM ai.pd x5.2.1,rI x5.2.2]) [] (nQ h5) ?_
 refine sM Z<|sV (rM aH.pd x5.1)<|sV (rM ai.pd x5.2.1)<|sV (rI x5.2.2)<|sA Z<|sA Z<|sA Z<|sN<|gU Z<|sV (.d (ar.pd x2.1))<|sV (.d (.agg [.lst (x3.1.aJ.map aq.pd)]))<|bE h fun x6 h6 h=>cR (.tup [rM aH.pd x6.1,rM ai.pd x6.2.1,rI x6.2.2]) [] (nQ h6)<|sM Z<|sV (rM aH.pd x6.1) ?_
 refine sV (rM ai.pd x6.2.1)<|sV (rI x6.2.2)<|sA Z<|sA Z<|sA Z<|sN<|WC.cI Z Z<|sM Z<|sF h ?_ ?_<;>intro h
 ·refine sM Z<|sM Z<|sE (rI (x5.1.length:Int)) (dX _ _)<|sV (rB ((x5.1.length:Int)==(1:Int)))<|sF h ?_ ?_<;>intro h
  ·refine sM Z<|sM Z<|sE (rI (x5.2.1.length:Int)) (dX _ _)<|sV (rB ((x5.2.1.length:Int)==(0:Int)))<|sF h ?_ ?_<;>intro h
   ·refine sM Z<|sM Z<|bE h fun x10 h10 h=>eG h10 Z<|sV (.cptr [.str x10.cb.aw.ba,.str x10.cb.aw.aN,.str x10.cb.aw.av,.str x10.cb.aw.bc,.int .i64 x10.cb.bn,.int .i64 x10.cb.aQ,.int .i64 x10.cb.bw,.int .i64 x10.cb.bg,.int .i64 x10.cb.bz,.lst (x10.aF.ec.map ai.pd),.int .i64 x10.aF.av.aX.fX,.int .i64 x10.aF.av.aX.fY,.int .i64 x10.aF.av.aX.fZ,.int .i64 x10.aF.av.bn,.int .i64 x10.aF.av.bq,.int .i64 x10.aF.av.fq,.int .i64 x10.aF.av.bh.aI.fX,.int .i64 x10.aF.av.bh.aI.fY,.int .i64 x10.aF.av.bh.aI.fZ,.int .i64 x10.aF.av.bh.aC.fX,.int .i64 x10.aF.av.bh.aC.fY,.int .i64 x10.aF.av.bh.aC.fZ,.int .i64 x10.aF.bQ.aI,.int .i64 x10.aF.bQ.aC,.int .i64 x10.aF.lf])<|sV (.d (ai.pd x10.cb))<|sV (.d (ai.pd (ai.mk x4 2500 2500 2500 10 0)))<|WO.bin (eqE_66 x10.cb (ai.mk x4 2500 2500 2500 10 0)) Z Z Z Z Z<|sF h ?_ ?_<;>intro h
    ·refine sM Z<|sM Z<|bE h fun x12 h12 h=>eG h12 Z<|sV (.cptr [.lst (x12.aF.ec.map ai.pd),.int .i64 x12.aF.av.aX.fX,.int .i64 x12.aF.av.aX.fY,.int .i64 x12.aF.av.aX.fZ,.int .i64 x12.aF.av.bn,.int .i64 x12.aF.av.bq,.int .i64 x12.aF.av.fq,.int .i64 x12.aF.av.bh.aI.fX,.int .i64 x12.aF.av.bh.aI.fY,.int .i64 x12.aF.av.bh.aI.fZ,.int .i64 x12.aF.av.bh.aC.fX,.int .i64 x12.aF.av.bh.aC.fY,.int .i64 x12.aF.av.bh.aC.fZ,.int .i64 x12.aF.bQ.aI,.int .i64 x12.aF.bQ.aC,.int .i64 x12.aF.lf])<|sV (.cptr [.lst (x12.aF.ec.map ai.pd),.int .i64 x12.aF.av.aX.fX,.int .i64 x12.aF.av.aX.fY,.int .i64 x12.aF.av.aX.fZ,.int .i64 x12.aF.av.bn,.int .i64 x12.aF.av.bq,.int .i64 x12.aF.av.fq,.int .i64 x12.aF.av.bh.aI.fX,.int .i64 x12.aF.av.bh.aI.fY,.int .i64 x12.aF.av.bh.aI.fZ,.int .i64 x12.aF.av.bh.aC.fX,.int .i64 x12.aF.av.bh.aC.fY,.int .i64 x12.aF.av.bh.aC.fZ,.int .i64 x12.aF.bQ.aI,.int .i64 x12.aF.bQ.aC,.int .i64 x12.aF.lf])<|sC Z<|sE (rI (x12.aF.ec.length:Int)) (dX _ _)<|sV (rB ((x12.aF.ec.length:Int)==(2:Int)))<|sF h ?_ ?_<;>intro h
     ·refine sM Z<|sM Z<|sV (rB (x6.2.2==(0:Int)))<|sF h ?_ ?_<;>intro h
      ·refine sM Z<|sM Z<|sE (rI (x6.1.length:Int)) (dX _ _)<|sV (rB ((x6.1.length:Int)==(0:Int)))<|sF h ?_ ?_<;>intro h
       ·refine sM Z<|sM Z<|sV (.d (ai.pd (ai.mk x4 2500 2500 2500 10 0)))<|bE h fun x16 h16 h=>cD (pz h16)<|sV (rB (x16==(0:Int)))<|sF h ?_ ?_<;>intro h
        ·refine sM Z<|sM Z<|sV (.d (ai.pd (ai.mk x4 2500 2500 2500 11 0)))<|bE h fun x18 h18 h=>cD (pz h18)<|sV (rB (x18==(-1:Int)))<|sV (rB (x18==(-1:Int)))<|sA Z ?_
         refine sN<|sO<|qR ?_
         cases oI h
         exact qG
        refine sM Z<|k3<|sK<|sU<|sA Z ?_
        refine sN<|sO<|qR ?_
        cases oI h
        exact qG
       refine sM Z<|k3<|sK<|sU<|sM Z<|k3<|sK<|sU<|sA Z ?_
       refine sN<|sO<|qR ?_
       cases oI h
       exact qG
      refine sM Z<|k3<|sU<|sM Z<|k3<|sK<|sU<|sM Z<|sK<|sK<|sK ?_
      refine sK<|sU<|sA Z ?_
      refine sN<|sO<|qR ?_
      cases oI h
      exact qG
     refine sM Z<|sK<|sK<|sU<|sM Z<|k3<|sU<|sM Z<|k3<|sK<|sU ?_
     refine sM Z<|k3<|sK<|sU<|sA Z ?_
     refine sN<|sO<|qR ?_
     cases oI h
     exact qG
    refine sM Z<|k3<|k3<|sK<|sU<|sM Z<|sK<|sK<|sU<|sM Z<|sK ?_
    refine sK<|sK<|sU<|sM Z<|k3<|sK<|sU<|sM Z<|k3<|sK<|sU ?_
    refine sA Z ?_
    refine sN<|sO<|qR ?_
    cases oI h
    exact qG
   refine sM Z<|k3<|k3<|sU<|sM Z<|k3<|sK<|sK<|sK ?_
   refine sK<|sU<|sM Z<|sK<|sK<|sU<|sM Z<|k3<|sU<|sM Z<|sK<|sK<|sK ?_
   refine sK<|sU<|sM Z<|k3<|sK<|sU<|sA Z ?_
   refine sN<|sO<|qR ?_
   cases oI h
   exact qG
  refine sM Z<|k3<|sU<|sM Z<|k3<|k3<|sU<|sM Z<|sK ?_
  refine k3<|k3<|sU<|sM Z<|sK<|sK<|sU<|sM Z<|sK<|sK<|sK ?_
  refine sU<|sM Z<|k3<|sK<|sU<|sM Z<|k3<|sK<|sU<|sA Z ?_
  refine sN<|sO<|qR ?_
  cases oI h
  exact qG
 refine sM Z<|k3<|sU<|sM Z<|k3<|sU<|sM Z<|k3<|sK ?_
 refine sK<|sK<|sU<|sM Z<|k3<|k3<|sK<|sU<|sM Z<|sK<|sK ?_
 refine sU<|sM Z<|k3<|sU<|sM Z<|k3<|sK<|sU<|sM Z<|sK<|sK ?_
 refine sK<|sK<|sU<|sA Z ?_
 refine sN<|sO<|qR ?_
 cases oI h
 exact qG
theorem qQ{a0:(List Int)}{r:Bool}(h:me a0=some r):EvP prog az ext 6 [rL a0] [] (rB r,[]):=by
 refine Ev.body Z Tryz.func6 Z Zk<|gU Z<|sU<|sN<|gU Z<|sM Z<|bE h fun x1 h1 h=>cR (.ptr 320 0) [(320,.var (ac.rc x1))] (keep_New_ev h1)<|sA Z<|sN<|gU Z<|sM Z<|bE h fun x2 h2 h=>cR (.d (ar.pd x2.1)) [(320,.var (ac.rc x2.2))] (o5 h2)<|sM Z ?_
 refine bE h fun x3 h3 h=>cR (.d (al.pd x3.1)) [(320,.var (ac.rc x3.2))] (rq h3)<|sB (.ptr 64 0) 64 (.var [r0,r0,r0,r0,r0,r0,r0,.dO,.dO,r0,r0,r0,r0,r0,r0,.dO,.dO,r0,r0,r0])<|sB (.ptr 80 0) 80 (.var [.dO])<|sH 64 (.var (ar.rc x2.1))<|sS 80 (.var [rM aq.pd x3.1.aJ])<|sN<|gU Z<|sV (.ptr 64 0)<|sV (.ptr 64 10)<|sS 64 (.var (ag.rc x2.1.ae.aM++aA.rc x2.1.ae.aW++rI x2.1.ae.cG::r0::rI x2.1.ae.dC::rI x2.1.ae.d9::rI x2.1.ae.co::bo.rc x2.1.cm++[rI x2.1.bf]))<|sV (.ptr 64 0)<|sV (.ptr 64 11)<|sS 64 (.var (ag.rc x2.1.ae.aM++aA.rc x2.1.ae.aW++rI x2.1.ae.cG::r0::rI 2000::rI x2.1.ae.d9::rI x2.1.ae.co::bo.rc x2.1.cm++[rI x2.1.bf]))<|sV (.ptr 64 0) ?_
 refine sV (.ptr 64 13)<|sS 64 (.var (ag.rc x2.1.ae.aM++aA.rc x2.1.ae.aW++rI x2.1.ae.cG::r0::rI 2000::rI x2.1.ae.d9::rI 2::bo.rc x2.1.cm++[rI x2.1.bf]))<|sN<|gU Z<|sM Z<|sV (.ptr 64 0)<|sV (.ptr 64 0)<|sV (.d (ag.pd x2.1.ae.aM))<|bE h fun x4 h4 h=>cR (.d (aa.pd x4.1)) [(320,.var (ac.rc x4.2))] (Src_Point_ev h4)<|sM Z<|bE h fun x5 h5 h=>cR (rI x5.1) [(320,.var (ac.rc x5.2))] (cg h5)<|sV (rI (rW ((2500:Int)+x5.1)))<|sB (.ptr 96 0) 96 (.var [r0,r0,r0]) ?_
 refine sS 96 (.var (aa.rc x4.1))<|sA Z<|sN<|gU Z<|sV .dO<|sN<|qS<|gU Z<|sV (r0)<|sN<|bE h fun o28 ho28 h=>WC.block (WC.loop (WL.fV ho28 (fun s R' B'=>dN prog 0 (A R' B') (az.at_ 6 0 7)=some (A [(3,.ptr 320 0),(4,.ptr 64 0),(5,.ptr 80 0),(6,.ptr 96 0),(7,rI (rW ((2500:Int)+x5.1))),(8,.ref 1792 0),(9,rI s.1)] [(64,.var (ag.rc x2.1.ae.aM++aA.rc x2.1.ae.aW++rI x2.1.ae.cG::r0::rI 2000::rI x2.1.ae.d9::rI 2::bo.rc x2.1.cm++[rI x2.1.bf])),(80,.var [rM aq.pd x3.1.aJ]),(96,.var (aa.rc x4.1)),(320,.var [rL s.2.1,rI s.2.2.1]),(1792,.arr 0 66 (s.2.2.2.map ai.pd))])) (fun o e R' B'=>match o with| .inl y=>e= .exit 0∧dN prog 0 (A R' B') (az.at_ 6 0 19)=some (A [(4,.ptr 64 0),(5,.ptr 80 0),(8,rM ai.pd y)] [(64,.var (ag.rc x2.1.ae.aM++aA.rc x2.1.ae.aW++rI x2.1.ae.cG::r0::rI 2000::rI x2.1.ae.d9::rI 2::bo.rc x2.1.cm++[rI x2.1.bf])),(80,.var [rM aq.pd x3.1.aJ])])| .inr r=>e= .ret∧finish prog (az.own 6) Tryz.f6 0 (A R' B')=some (rB r,[])) Z ?_ ?_))
 ·rintro⟨s6,s7,s8,s9⟩ R' B' q11 hI h
  unfold js at h
  refine qS<|gS Z hI<|sM Z<|sM Z<|bE h fun x12 h12 h=>cR (rI x12.1) [(320,.var (ac.rc x12.2))] (cg h12)<|sV (rI (rW ((3:Int)+x12.1)))<|sF h ?_ ?_<;>intro h
  ·refine sN<|cT<|qK<|qS<|qB<|WC.cI Z Z<|sV (.d (.agg [.lst (x3.1.aJ.map aq.pd)]))<|sM Z<|bE h fun x14 h14 h=>cD (iF h14)<|sM Z<|sV (rI (rW ((rW ((2500:Int)+x5.1))+(100:Int))))<|bE h fun x15 h15 h=>cR (.tup [.d (aa.pd x15.1),rB x15.2]) [] (law34_place_ev h15)<|sM Z ?_
   refine sV (.d (aa.pd x15.1))<|sV (rB x15.2)<|sB (.ptr 160 0) 160 (.var [r0,r0,r0])<|sS 160 (.var (aa.rc x15.1))<|sA Z ?_
   refine sN<|sO<|qS<|gU Z<|sM Z<|sF h ?_ ?_<;>intro h
   ·refine sN<|cT<|gU Z<|sU<|sN<|qR ?_
    cases oI h
    exact⟨nofun,rfl,rfl⟩
   refine sN<|cF<|qK<|WC.cI Z Z<|sV (.d (.agg [.int .i64 x2.1.ae.aM.aI.fX,.int .i64 x2.1.ae.aM.aI.fY,.int .i64 x2.1.ae.aM.aI.fZ,.int .i64 x2.1.ae.aM.aC.fX,.int .i64 x2.1.ae.aM.aC.fY,.int .i64 x2.1.ae.aM.aC.fZ,.int .i64 x2.1.ae.aW.aZ,.lst (x2.1.ae.aW.aI.map (PD.int .i64)),.lst (x2.1.ae.aW.aC.map (PD.int .i64)),.int .i64 x2.1.ae.cG,.int .i64 0,.int .i64 2000,.int .i64 x2.1.ae.d9,.int .i64 2,.int .i64 x2.1.cm.bC.aZ,.lst (x2.1.cm.bC.aI.map (PD.int .i64)),.lst (x2.1.cm.bC.aC.map (PD.int .i64)),.int .i64 x2.1.cm.bd,.int .i64 x2.1.cm.aY,.int .i64 x2.1.bf]))<|sV (.d (.agg [.lst (x3.1.aJ.map aq.pd)]))<|sM Z<|bE h fun x17 h17 h=>cD (iF h17)<|sM Z<|sV (rI (rW ((rW ((2500:Int)+x5.1))+(100:Int))))<|sM Z<|sV (rI (rW ((rW ((2500:Int)+x5.1))+(100:Int))))<|sM Z<|sV (rI (rW ((rW ((2500:Int)+x5.1))+(100:Int)))) ?_
   refine sG (.d (ai.pd (ai.mk x17 (rW ((rW ((2500:Int)+x5.1))+(100:Int))) (rW ((rW ((2500:Int)+x5.1))+(100:Int))) (rW ((rW ((2500:Int)+x5.1))+(100:Int))) 0 0)))<|bE h fun x18 h18 h=>cR (.tup [.d (aj.pd x18.1),rB x18.2]) [] (ref33_Usable_ev h18)<|sM Z<|sV (.d (aj.pd x18.1))<|sV (rB x18.2)<|sB (.ptr 192 0) 192 (.var zZ4)<|sH 192 (.var (aj.rc x18.1))<|sA Z ?_
   refine sN<|sO<|qS<|gU Z<|sV (.ptr 192 0)<|sV (.d (aa.pd x18.1.aN))<|sV (.d (aa.pd x15.1))<|ir h (fun hb19 h=>?_) (fun hb19 h=>?_)
   ·refine WO.uA (eqN_26 x18.1.aN x15.1) hb19 Z Z Z Z Z<|sN<|cT<|gU Z<|sU<|sN<|qR ?_
    cases oI h
    exact⟨nofun,rfl,rfl⟩
   refine WO.uA (eqN_26 x18.1.aN x15.1) hb19 Z Z Z Z Z<|sN<|cF<|qK<|gU Z<|sV (.d (aa.pd x15.1))<|sV (.d (aa.pd x4.1))<|bE h fun x20 h20 h=>cD (law34_root_ev h20)<|sA Z<|sN<|WC.cI Z Z<|sM Z<|bE h fun x21 h21 h=>cD (iF h21) ?_
   refine sM Z<|sV (.ptr 64 0)<|sV (.ptr 64 6)<|sV (.ptr 64 7)<|sL Z<|sM Z<|sV (.ptr 64 0)<|sV (.ptr 64 6)<|sV (.ptr 64 6)<|sL Z<|bE h fun x22 h22 h=>WO.uL h22 Z Z Z Z Z Z<|bE h fun x23 h23 h=>eG h23 Z<|sC Z ?_
   refine sV (rI (rW ((rW ((2500:Int)+x5.1))+x23)))<|sG (.d (ai.pd (ai.mk x21 0 (rW ((rW ((2500:Int)+x5.1))+x23)) 0 100 0)))<|sB (.ptr 240 0) 240 (.var zZ2)<|sH 240 (.var (au.rc x21++[r0,rI (rW ((rW ((2500:Int)+x5.1))+x23)),r0,rI 100,r0])) ?_
   refine sN<|sO<|WC.cI Z Z<|sV (.ptr 240 5)<|sL Z<|sM Z<|bE h fun x24 h24 h=>cR (rI x24.1) [(320,.var (ac.rc x24.2))] (cg h24)<|sV (rI (rW ((rW ((rW ((2500:Int)+x5.1))+x23))+x24.1)))<|sV (.ptr 240 5)<|sL Z<|sV (rI (rW ((rW ((rW ((2500:Int)+x5.1))+x23))+(4:Int))))<|sM Z<|bE h fun x25 h25 h=>cR (rI x25.1) [(320,.var (ac.rc x25.2))] (cg h25)<|sV (rI (rW ((rW ((rW ((rW ((2500:Int)+x5.1))+x23))+(4:Int)))+x25.1))) ?_
   refine sV (.ptr 240 4)<|sS 240 (.var (au.rc x21++[rI (rW ((rW ((rW ((2500:Int)+x5.1))+x23))+x24.1)),rI (rW ((rW ((2500:Int)+x5.1))+x23)),r0,rI 100,r0]))<|sV (.ptr 240 6)<|sS 240 (.var (au.rc x21++[rI (rW ((rW ((rW ((2500:Int)+x5.1))+x23))+x24.1)),rI (rW ((rW ((2500:Int)+x5.1))+x23)),rI (rW ((rW ((rW ((rW ((2500:Int)+x5.1))+x23))+(4:Int)))+x25.1)),rI 100,r0])) ?_
   refine sN<|sO<|WC.region Z Z<|sM Z<|sV (.d (ai.pd (ai.mk x21 (rW ((rW ((rW ((2500:Int)+x5.1))+x23))+x24.1)) (rW ((rW ((2500:Int)+x5.1))+x23)) (rW ((rW ((rW ((rW ((2500:Int)+x5.1))+x23))+(4:Int)))+x25.1)) 100 0)))<|sG (.d (.lst ([(ai.mk x21 (rW ((rW ((rW ((2500:Int)+x5.1))+x23))+x24.1)) (rW ((rW ((2500:Int)+x5.1))+x23)) (rW ((rW ((rW ((rW ((2500:Int)+x5.1))+x23))+(4:Int)))+x25.1)) 100 0)].map ai.pd)))<|bE h fun x26 h26 h=>aR h26 (fun _=>Z) Z<|sA Z<|sN<|WC.region Z Z<|sM Z<|sV (rI (rW (s6+(1:Int))))<|sA Z<|sN ?_
   cases oI h
   exact⟨rfl,rfl⟩
  refine sN<|cF<|qX ?_
  cases oI h
  exact⟨nofun,rfl,rfl⟩
 intro e R' B' he hq
 rcases o28 with y29|r30
 ·obtain⟨rfl,hI⟩:=hq
  refine qE<|gS Z hI<|sV (.d (.agg [.int .i64 x2.1.ae.aM.aI.fX,.int .i64 x2.1.ae.aM.aI.fY,.int .i64 x2.1.ae.aM.aI.fZ,.int .i64 x2.1.ae.aM.aC.fX,.int .i64 x2.1.ae.aM.aC.fY,.int .i64 x2.1.ae.aM.aC.fZ,.int .i64 x2.1.ae.aW.aZ,.lst (x2.1.ae.aW.aI.map (PD.int .i64)),.lst (x2.1.ae.aW.aC.map (PD.int .i64)),.int .i64 x2.1.ae.cG,.int .i64 0,.int .i64 2000,.int .i64 x2.1.ae.d9,.int .i64 2,.int .i64 x2.1.cm.bC.aZ,.lst (x2.1.cm.bC.aI.map (PD.int .i64)),.lst (x2.1.cm.bC.aC.map (PD.int .i64)),.int .i64 x2.1.cm.bd,.int .i64 x2.1.cm.aY,.int .i64 x2.1.bf]))<|sV (.d (.agg [.lst (x3.1.aJ.map aq.pd)]))<|sM Z<|bE h fun x31 h31 h=>cR (.tup [rM aH.pd x31.1,rM ai.pd x31.2.1,rI x31.2.2]) [] (nQ h31)<|sM Z<|sV (rM aH.pd x31.1)<|sV (rM ai.pd x31.2.1)<|sV (rI x31.2.2)<|sA Z<|sA Z<|sA Z<|sN ?_
  refine WC.cI Z Z<|sM Z<|sF h ?_ ?_<;>intro h
  ·refine sM Z<|sM Z<|sE (rI (x31.1.length:Int)) (dX _ _)<|sV (rB ((x31.1.length:Int)==(1:Int)))<|sF h ?_ ?_<;>intro h
   ·refine sM Z<|sM Z<|sE (rI (x31.2.1.length:Int)) (dX _ _)<|sV (rB ((x31.2.1.length:Int)==(0:Int)))<|sF h ?_ ?_<;>intro h
    ·refine sM Z<|sM Z<|bE h fun x35 h35 h=>eG h35 Z<|sV (.cptr [.lst (x35.aF.ec.map ai.pd),.int .i64 x35.aF.av.aX.fX,.int .i64 x35.aF.av.aX.fY,.int .i64 x35.aF.av.aX.fZ,.int .i64 x35.aF.av.bn,.int .i64 x35.aF.av.bq,.int .i64 x35.aF.av.fq,.int .i64 x35.aF.av.bh.aI.fX,.int .i64 x35.aF.av.bh.aI.fY,.int .i64 x35.aF.av.bh.aI.fZ,.int .i64 x35.aF.av.bh.aC.fX,.int .i64 x35.aF.av.bh.aC.fY,.int .i64 x35.aF.av.bh.aC.fZ,.int .i64 x35.aF.bQ.aI,.int .i64 x35.aF.bQ.aC,.int .i64 x35.aF.lf])<|sV (.cptr [.lst (x35.aF.ec.map ai.pd),.int .i64 x35.aF.av.aX.fX,.int .i64 x35.aF.av.aX.fY,.int .i64 x35.aF.av.aX.fZ,.int .i64 x35.aF.av.bn,.int .i64 x35.aF.av.bq,.int .i64 x35.aF.av.fq,.int .i64 x35.aF.av.bh.aI.fX,.int .i64 x35.aF.av.bh.aI.fY,.int .i64 x35.aF.av.bh.aI.fZ,.int .i64 x35.aF.av.bh.aC.fX,.int .i64 x35.aF.av.bh.aC.fY,.int .i64 x35.aF.av.bh.aC.fZ,.int .i64 x35.aF.bQ.aI,.int .i64 x35.aF.bQ.aC,.int .i64 x35.aF.lf])<|sC Z<|sE (rI (x35.aF.ec.length:Int)) (dX _ _)<|sM Z<|sE (rI (y29.length:Int)) (dX _ _)<|sV (rB ((x35.aF.ec.length:Int)==(y29.length:Int)))<|sF h ?_ ?_<;>intro h
     ·refine sM Z<|sM Z<|bE h fun x37 h37 h=>eG h37 Z<|sV (.cptr [.lst (x37.aF.ec.map ai.pd),.int .i64 x37.aF.av.aX.fX,.int .i64 x37.aF.av.aX.fY,.int .i64 x37.aF.av.aX.fZ,.int .i64 x37.aF.av.bn,.int .i64 x37.aF.av.bq,.int .i64 x37.aF.av.fq,.int .i64 x37.aF.av.bh.aI.fX,.int .i64 x37.aF.av.bh.aI.fY,.int .i64 x37.aF.av.bh.aI.fZ,.int .i64 x37.aF.av.bh.aC.fX,.int .i64 x37.aF.av.bh.aC.fY,.int .i64 x37.aF.av.bh.aC.fZ,.int .i64 x37.aF.bQ.aI,.int .i64 x37.aF.bQ.aC,.int .i64 x37.aF.lf])<|sV (.cptr [.int .i64 x37.aF.av.aX.fX,.int .i64 x37.aF.av.aX.fY,.int .i64 x37.aF.av.aX.fZ,.int .i64 x37.aF.av.bn,.int .i64 x37.aF.av.bq,.int .i64 x37.aF.av.fq,.int .i64 x37.aF.av.bh.aI.fX,.int .i64 x37.aF.av.bh.aI.fY,.int .i64 x37.aF.av.bh.aI.fZ,.int .i64 x37.aF.av.bh.aC.fX,.int .i64 x37.aF.av.bh.aC.fY,.int .i64 x37.aF.av.bh.aC.fZ,.int .i64 x37.aF.bQ.aI,.int .i64 x37.aF.bQ.aC,.int .i64 x37.aF.lf])<|sV (.cptr [.int .i64 x37.aF.av.bq,.int .i64 x37.aF.av.fq,.int .i64 x37.aF.av.bh.aI.fX,.int .i64 x37.aF.av.bh.aI.fY,.int .i64 x37.aF.av.bh.aI.fZ,.int .i64 x37.aF.av.bh.aC.fX,.int .i64 x37.aF.av.bh.aC.fY,.int .i64 x37.aF.av.bh.aC.fZ,.int .i64 x37.aF.bQ.aI,.int .i64 x37.aF.bQ.aC,.int .i64 x37.aF.lf])<|sC Z<|sV (.ptr 64 19)<|sL Z<|sV (rB (decide (x37.aF.av.bq<=x2.1.bf)))<|sF h ?_ ?_<;>intro h
      ·refine sM Z<|bE h fun x39 h39 h=>cD (law34_awake_ev h39)<|sV (rB x39)<|sA Z ?_
       refine sN<|sO<|qR ?_
       cases oI h
       exact qG
      refine sM Z<|sK<|sU<|sA Z ?_
      refine sN<|sO<|qR ?_
      cases oI h
      exact qG
     refine sM Z<|k3<|k3<|k3<|sU<|sM Z<|sK<|sU<|sA Z ?_
     refine sN<|sO<|qR ?_
     cases oI h
     exact qG
    refine sM Z<|k3<|k3<|k3<|sU<|sM Z<|sK<|sK<|sK ?_
    refine k3<|k3<|sU<|sM Z<|sK<|sU<|sA Z ?_
    refine sN<|sO<|qR ?_
    cases oI h
    exact qG
   refine sM Z<|k3<|sU<|sM Z<|k3<|k3<|sK<|sK<|sK ?_
   refine sU<|sM Z<|k3<|k3<|k3<|sU<|sM Z<|sK<|sU ?_
   refine sA Z ?_
   refine sN<|sO<|qR ?_
   cases oI h
   exact qG
  refine sM Z<|k3<|sU<|sM Z<|k3<|sU<|sM Z<|k3<|sK ?_
  refine k3<|sK<|sK<|sU<|sM Z<|k3<|k3<|sK<|sK ?_
  refine sK<|sU<|sM Z<|sK<|sU<|sA Z ?_
  refine sN<|sO<|qR ?_
  cases oI h
  exact qG
 obtain⟨rfl,hf⟩:=hq
 cases oI h
 exact hf
end Go.Dw.Em
