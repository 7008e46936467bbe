
import Derived.Test.YtmmgjlgoggielaaGreatEmEvB

set_option maxRecDepth 100000
set_option maxHeartbeats 4000000
namespace Go.Dw.Em
open Go.Proofs Go.Proofs.Tryz Go.Dw
theorem rC{a0:ag}{r:ag×ag×Bool}(h:fg a0=some r):EvP prog az ext 271 [.d (ag.pd a0)] [] (.tup [.d (ag.pd r.1),.d (ag.pd r.2.1),rB r.2.2],[]):=by
 refine Ev.body Z Tryz.func271 Z Zk<|gU Z<|sB (.ptr 16 0) 16 (.var (ag.rc a0))<|sB (.ptr 32 0) 32 (.var zZ4)<|sB (.ptr 48 0) 48 (.var zZ4)<|sU<|sN<|qS<|gU Z<|sV (.d (ag.pd a0))<|bE h fun x1 h1 h=>cD (qM h1)<|sF h ?_ ?_<;>intro h
 ·refine sN<|cT<|gU Z<|sG (.d (ag.pd (ag.mk (aa.mk 0 0 0) (aa.mk 0 0 0))))<|sG (.d (ag.pd (ag.mk (aa.mk 0 0 0) (aa.mk 0 0 0))))<|sH 32 (.var zZ4)<|sH 48 (.var zZ4)<|sU<|sN<|qR ?_
  cases oI h
  exact qG
 refine sN<|cF<|qK<|WC.cI Z Z<|sV (.ptr 16 0)<|sV (.d (aa.pd a0.aI))<|bE h fun x3 h3 h=>cD (bM h3)<|sV (.ptr 16 3)<|sV (.d (aa.pd a0.aC))<|bE h fun x4 h4 h=>cD (bM h4)<|sB (.ptr 80 0) 80 (.var [r0,r0,r0])<|sB (.ptr 96 0) 96 (.var [r0,r0,r0])<|sS 80 (.var [rI x3.a0,rI x3.a1,rI x3.a2]) ?_
 refine sS 96 (.var [rI x4.a0,rI x4.a1,rI x4.a2]) ?_
 refine sN<|sO<|gU Z<|sV (r0)<|sN<|qS<|gU Z<|sV (r0)<|sN<|WC.block (WC.loop ?_)
 refine WL.round<|gU Z<|sT<|sN<|qS<|cT<|qK<|qS<|qB<|gU Z<|sM Z<|sA Z<|sN<|WC.cI Z Z<|sM Z ?_
 refine sV (.ptr 96 0)<|sL Z<|sM Z<|sV (.ptr 80 0)<|sL Z<|sV (rI (rW (x4.a0-x3.a0)))<|sM Z<|sV (.ptr 96 0)<|sL Z<|sM Z<|sV (.ptr 80 0)<|sL Z<|sV (rI (rW (x4.a0-x3.a0)))<|WO.s0 (v':=rB false) Z Z (fun _=>Z) (congrArg (fun b=>RV.d (.bool b)) (decide_eq_false (Int.lt_irrefl _))) ?_
 refine sN<|sO<|cF<|qK<|WC.region Z Z<|sV (rI 1)<|sM Z<|sN<|WL.round<|gU Z<|sT<|sN<|qS<|cT<|qK<|qS ?_
 refine qB<|gU Z<|sM Z<|sA Z<|sN<|WC.cI Z Z<|sM Z<|sV (.ptr 96 1)<|sL Z<|sM Z<|sV (.ptr 80 1)<|sL Z<|sV (rI (rW (x4.a1-x3.a1)))<|sM Z<|sV (.ptr 96 0) ?_
 refine sL Z<|sM Z<|sV (.ptr 80 0)<|sL Z<|sV (rI (rW (x4.a0-x3.a0)))<|sF h ?_ ?_<;>intro h
 ·refine sN<|sO<|cT<|WC.region Z Z<|sM Z<|sA Z<|sN<|WC.region Z Z<|sV (rI 2)<|sM Z<|sN<|WL.round<|gU Z<|sT<|sN<|qS ?_
  refine cT<|qK<|qS<|qB<|gU Z<|sM Z<|sA Z<|sN<|WC.cI Z Z<|sM Z<|sV (.ptr 96 2)<|sL Z<|sM Z<|sV (.ptr 80 2)<|sL Z ?_
  refine sV (rI (rW (x4.a2-x3.a2)))<|sM Z<|sV (.ptr 96 1)<|sL Z<|sM Z<|sV (.ptr 80 1)<|sL Z<|sV (rI (rW (x4.a1-x3.a1)))<|sF h ?_ ?_<;>intro h
  ·refine sN<|sO<|cT<|WC.region Z Z<|sM Z<|sA Z<|sN<|WC.region Z Z<|sV (rI 3)<|sM Z<|sN<|WL.round<|gU Z<|sU<|sN<|qS ?_
   refine cF<|qX<|qE<|WC.cI Z Z<|sV (.d (aS.pd x4))<|sV (.d (aS.pd x3))<|sB (.ptr 144 0) 144 (.var [r0,r0,r0])<|sB (.ptr 160 0) 160 (.var [r0,r0,r0])<|sS 144 (.var [rI x4.a0,rI x4.a1,rI x4.a2])<|sS 160 (.var [rI x3.a0,rI x3.a1,rI x3.a2]) ?_
   refine sN<|sO<|WC.cI Z Z<|sM Z<|sM Z<|sV (.ptr 80 2)<|sL Z<|sM Z<|sV (.ptr 96 2)<|sL Z<|bE h fun x7 h7 h=>cD (dw h7)<|sV (.ptr 144 2)<|sS 144 (.var [rI x4.a0,rI x4.a1,rI x7]) ?_
   refine sN<|sO<|gU Z<|sM Z<|sM Z<|sV (.ptr 144 2)<|sL Z<|sV (rI (rW (x7+(1:Int))))<|sV (.ptr 160 2)<|sS 160 (.var [rI x3.a0,rI x3.a1,rI (rW (x7+(1:Int)))])<|sN<|WC.cI Z Z<|sV (.ptr 16 0)<|sV (.d (aa.pd a0.aI))<|sV (.d (aS.pd (aS.mk x4.a0 x4.a1 x7)))<|bE h fun x8 h8 h=>?_
   refine cD (bT h8)<|sG (.d (ag.pd (ag.mk a0.aI x8)))<|sV (.d (aS.pd (aS.mk x3.a0 x3.a1 (rW (x7+(1:Int))))))<|bE h fun x9 h9 h=>cD (bT h9)<|sV (.ptr 16 3)<|sV (.d (aa.pd a0.aC))<|sG (.d (ag.pd (ag.mk x9 a0.aC)))<|sH 32 (.var (aa.rc a0.aI++aa.rc x8))<|sH 48 (.var (aa.rc x9++aa.rc a0.aC))<|sT ?_
   refine sN<|sO<|qR ?_
   cases oI h
   exact qG
  refine sN<|sO<|cF<|qK<|WC.region Z Z<|sV (rI 3)<|sM Z<|sN<|WL.round<|gU Z<|sU<|sN<|qS<|cF<|qX<|qE ?_
  refine WC.cI Z Z<|sV (.d (aS.pd x4))<|sV (.d (aS.pd x3))<|sB (.ptr 144 0) 144 (.var [r0,r0,r0])<|sB (.ptr 160 0) 160 (.var [r0,r0,r0])<|sS 144 (.var [rI x4.a0,rI x4.a1,rI x4.a2])<|sS 160 (.var [rI x3.a0,rI x3.a1,rI x3.a2]) ?_
  refine sN<|sO<|WC.cI Z Z<|sM Z<|sM Z<|sV (.ptr 80 1)<|sL Z<|sM Z<|sV (.ptr 96 1)<|sL Z<|bE h fun x10 h10 h=>cD (dw h10)<|sV (.ptr 144 1)<|sS 144 (.var [rI x4.a0,rI x10,rI x4.a2]) ?_
  refine sN<|sO<|gU Z<|sM Z<|sM Z<|sV (.ptr 144 1)<|sL Z<|sV (rI (rW (x10+(1:Int))))<|sV (.ptr 160 1)<|sS 160 (.var [rI x3.a0,rI (rW (x10+(1:Int))),rI x3.a2])<|sN<|WC.cI Z Z<|sV (.ptr 16 0)<|sV (.d (aa.pd a0.aI))<|sV (.d (aS.pd (aS.mk x4.a0 x10 x4.a2)))<|bE h fun x11 h11 h=>?_
  refine cD (bT h11)<|sG (.d (ag.pd (ag.mk a0.aI x11)))<|sV (.d (aS.pd (aS.mk x3.a0 (rW (x10+(1:Int))) x3.a2)))<|bE h fun x12 h12 h=>cD (bT h12)<|sV (.ptr 16 3)<|sV (.d (aa.pd a0.aC))<|sG (.d (ag.pd (ag.mk x12 a0.aC)))<|sH 32 (.var (aa.rc a0.aI++aa.rc x11))<|sH 48 (.var (aa.rc x12++aa.rc a0.aC))<|sT ?_
  refine sN<|sO<|qR ?_
  cases oI h
  exact qG
 refine sN<|sO<|cF<|qK<|WC.region Z Z<|sV (rI 2)<|sM Z<|sN<|WL.round<|gU Z<|sT<|sN<|qS<|cT<|qK<|qS ?_
 refine qB<|gU Z<|sM Z<|sA Z<|sN<|WC.cI Z Z<|sM Z<|sV (.ptr 96 2)<|sL Z<|sM Z<|sV (.ptr 80 2)<|sL Z<|sV (rI (rW (x4.a2-x3.a2)))<|sM Z<|sV (.ptr 96 0) ?_
 refine sL Z<|sM Z<|sV (.ptr 80 0)<|sL Z<|sV (rI (rW (x4.a0-x3.a0)))<|sF h ?_ ?_<;>intro h
 ·refine sN<|sO<|cT<|WC.region Z Z<|sM Z<|sA Z<|sN<|WC.region Z Z<|sV (rI 3)<|sM Z<|sN<|WL.round<|gU Z<|sU<|sN<|qS ?_
  refine cF<|qX<|qE<|WC.cI Z Z<|sV (.d (aS.pd x4))<|sV (.d (aS.pd x3))<|sB (.ptr 144 0) 144 (.var [r0,r0,r0])<|sB (.ptr 160 0) 160 (.var [r0,r0,r0])<|sS 144 (.var [rI x4.a0,rI x4.a1,rI x4.a2])<|sS 160 (.var [rI x3.a0,rI x3.a1,rI x3.a2]) ?_
  refine sN<|sO<|WC.cI Z Z<|sM Z<|sM Z<|sV (.ptr 80 2)<|sL Z<|sM Z<|sV (.ptr 96 2)<|sL Z<|bE h fun x14 h14 h=>cD (dw h14)<|sV (.ptr 144 2)<|sS 144 (.var [rI x4.a0,rI x4.a1,rI x14]) ?_
  refine sN<|sO<|gU Z<|sM Z<|sM Z<|sV (.ptr 144 2)<|sL Z<|sV (rI (rW (x14+(1:Int))))<|sV (.ptr 160 2)<|sS 160 (.var [rI x3.a0,rI x3.a1,rI (rW (x14+(1:Int)))])<|sN<|WC.cI Z Z<|sV (.ptr 16 0)<|sV (.d (aa.pd a0.aI))<|sV (.d (aS.pd (aS.mk x4.a0 x4.a1 x14)))<|bE h fun x15 h15 h=>?_
  refine cD (bT h15)<|sG (.d (ag.pd (ag.mk a0.aI x15)))<|sV (.d (aS.pd (aS.mk x3.a0 x3.a1 (rW (x14+(1:Int))))))<|bE h fun x16 h16 h=>cD (bT h16)<|sV (.ptr 16 3)<|sV (.d (aa.pd a0.aC))<|sG (.d (ag.pd (ag.mk x16 a0.aC)))<|sH 32 (.var (aa.rc a0.aI++aa.rc x15))<|sH 48 (.var (aa.rc x16++aa.rc a0.aC))<|sT ?_
  refine sN<|sO<|qR ?_
  cases oI h
  exact qG
 refine sN<|sO<|cF<|qK<|WC.region Z Z<|sV (rI 3)<|sM Z<|sN<|WL.round<|gU Z<|sU<|sN<|qS<|cF<|qX<|qE ?_
 refine WC.cI Z Z<|sV (.d (aS.pd x4))<|sV (.d (aS.pd x3))<|sB (.ptr 144 0) 144 (.var [r0,r0,r0])<|sB (.ptr 160 0) 160 (.var [r0,r0,r0])<|sS 144 (.var [rI x4.a0,rI x4.a1,rI x4.a2])<|sS 160 (.var [rI x3.a0,rI x3.a1,rI x3.a2]) ?_
 refine sN<|sO<|WC.cI Z Z<|sM Z<|sM Z<|sV (.ptr 80 0)<|sL Z<|sM Z<|sV (.ptr 96 0)<|sL Z<|bE h fun x17 h17 h=>cD (dw h17)<|sV (.ptr 144 0)<|sS 144 (.var [rI x17,rI x4.a1,rI x4.a2]) ?_
 refine sN<|sO<|gU Z<|sM Z<|sM Z<|sV (.ptr 144 0)<|sL Z<|sV (rI (rW (x17+(1:Int))))<|sV (.ptr 160 0)<|sS 160 (.var [rI (rW (x17+(1:Int))),rI x3.a1,rI x3.a2])<|sN<|WC.cI Z Z<|sV (.ptr 16 0)<|sV (.d (aa.pd a0.aI))<|sV (.d (aS.pd (aS.mk x17 x4.a1 x4.a2)))<|bE h fun x18 h18 h=>?_
 refine cD (bT h18)<|sG (.d (ag.pd (ag.mk a0.aI x18)))<|sV (.d (aS.pd (aS.mk (rW (x17+(1:Int))) x3.a1 x3.a2)))<|bE h fun x19 h19 h=>cD (bT h19)<|sV (.ptr 16 3)<|sV (.d (aa.pd a0.aC))<|sG (.d (ag.pd (ag.mk x19 a0.aC)))<|sH 32 (.var (aa.rc a0.aI++aa.rc x18))<|sH 48 (.var (aa.rc x19++aa.rc a0.aC))<|sT ?_
 refine sN<|sO<|qR ?_
 cases oI h
 exact qG
theorem queue_Pushq_ev{a0:am}{e1:ah}{e2:Int}{e3:Int}{e4:Bool}{e5:ak}{d1:(List am)}{r:(List am)}(h:nB a0 e1 e2 e3 e4 e5 d1=some r):EvP prog az ext 444 [.ptr 0 11,.ifc 194 (.d (am.pd a0))] [.var (ah.rc e1++ .ref 1 0::rI e2::rI e3::rB e4::ak.rc e5),.arr 0 194 (d1.map am.pd)] (.tup [],[.var (ah.rc e1++ .ref 1 1::rI e2::rI e3::rB e4::ak.rc e5),.arr 1 194 (r.map am.pd)]):=by
 refine Ev.body Z Tryz.func444 Z Zk<|gU Z<|sM Z<|sG (.tup [.d (am.pd a0),rB true])<|sM Z<|sV (.d (am.pd a0))<|sT<|sB (.ptr 64 0) 64 (.var [r0,r0,r0,r0,r0,r0,r0,r0])<|sH 64 (.var (am.rc a0))<|sA Z<|sN<|gU Z<|sM Z<|sN<|cT ?_
 refine WC.kT Z Z<|sM Z<|sM Z<|sV (.ptr 0 11)<|sL Z<|sV (.d (am.pd a0))<|sG (.d (.lst ([a0].map am.pd)))<|bE h fun x1 h1 h=>aR h1 (fun _=>Z) Z<|sV (.ptr 0 11)<|sS 0 (.var (ah.rc e1++ .ref 1 1::rI e2::rI e3::rB e4::ak.rc e5)) ?_
 refine sN<|sO ?_
 cases oI h
 exact qG
theorem heap_Pushq_ev{a0:am}{e1:ah}{e2:Int}{e3:Int}{e4:Bool}{e5:ak}{d1:(List am)}{r:(List am)}(h:lk a0 e1 e2 e3 e4 e5 d1=some r):EvP prog az ext 268 [.ifc 309 (.ptr 0 11),.ifc 194 (.d (am.pd a0))] [.var (ah.rc e1++ .ref 1 0::rI e2::rI e3::rB e4::ak.rc e5),.arr 0 194 (d1.map am.pd)] (.tup [],[.var (ah.rc e1++ .ref 1 1::rI e2::rI e3::rB e4::ak.rc e5),.arr 1 194 (r.map am.pd)]):=by
 refine Ev.body Z Tryz.func268 Z Zk<|gU Z<|sM Z<|sM Z<|bE h fun x1 h1 h=>WO.lE (g:=444) (args:=[.ptr 0 11,.ifc 194 (.d (am.pd a0))]) (v:= .tup []) (u:=[(0,.var (ah.rc e1++ .ref 1 1::rI e2::rI e3::rB e4::ak.rc e5)),(1,.arr 1 194 (x1.map am.pd))]) Z Z (by intro _;kernel_rfl) Z Z Z Z Z (queue_Pushq_ev h1) Z Z Z Z<|sN<|WC.region Z Z<|sM Z<|sM Z<|bE h fun x2 h2 h=>WO.xm (e:=190) (c:= .ptr 0 11) (vl:= .ref 1 1) (g:=440) (args:=[]) (v:=rI x2) (u:=[ ]) Z Z (by intro _;kernel_rfl) Z Z Z Z Z Z (oM h2) Z Z Z Z<|sV (rI (rW (x2-(1:Int))))<|bE h fun x3 h3 h=>cR (.tup []) [(0,.var (ah.rc e1++ .ref 1 1::rI e2::rI e3::rB e4::ak.rc e5)),(1,.arr 1 194 (x3.map am.pd))] (heap_up_ev h3) ?_
 refine sN ?_
 cases oI h
 exact qG
theorem pT{a0:ag}{e1:ah}{e2:Int}{e3:Int}{e4:Bool}{e5:ak}{d1:(List am)}{r:Int×Int×(List am)}(h:iT a0 e1 e2 e3 e4 e5 d1=some r):EvP prog az ext 184 [.ptr 0 0,.d (ag.pd a0)] [.var (ah.rc e1++ .ref 1 0::rI e2::rI e3::rB e4::ak.rc e5),.arr 0 194 (d1.map am.pd)] (rI r.1,[.var (ah.rc e1++ .ref 1 1::rI r.2.1::rI e3::rB e4::ak.rc e5),.arr 1 194 (r.2.2.map am.pd)]):=by
 refine Ev.body Z Tryz.func184 Z Zk<|gU Z<|sB (.ptr 48 0) 48 (.var (ag.rc a0))<|sV (r0)<|sN<|WC.cI Z Z<|sM Z<|sV (.ptr 0 0)<|sV (.ptr 0 0)<|sV (.d (ah.pd e1))<|sV (.d (ag.pd a0))<|bE h fun x1 h1 h=>cR (.tup [rI x1.1,rI x1.2]) [] (pc h1)<|sM Z<|sV (rI x1.1) ?_
 refine sV (rI x1.2)<|sA Z<|sA Z ?_
 refine sN<|sO<|WC.join (α:=Int×(List am)) (fun x R' B'=>dN prog 2 (A R' B') (az.at_ 184 2 5)=some (A [(6,rI x1.2)] [(0,.var (ah.rc e1++ .ref 1 1::rI x.1::rI e3::rB e4::ak.rc e5)),(1,.arr 1 194 (x.2.map am.pd))])) (fun x=>iU x1 x.1 x.2=some r) ?_ ?_
 ·refine gU Z<|sM Z<|sF h ?_ ?_<;>intro h
  ·refine sN<|cT<|WC.cI Z Z<|sM Z<|sV (.ptr 0 0)<|sV (.ptr 0 11)<|sG (.ifc 309 (.ptr 0 11))<|sV (.d (ag.pd a0))<|sM Z<|sM Z<|sV (.ptr 0 0)<|sV (.ptr 0 12)<|sL Z<|sG (.d (am.pd (am.mk a0 x1.1 e2)))<|sG (.ifc 194 (.d (am.pd (am.mk a0 x1.1 e2)))) ?_
   refine bE h fun x6 h6 h=>cR (.tup []) [(0,.var (ah.rc e1++ .ref 1 1::rI e2::rI e3::rB e4::ak.rc e5)),(1,.arr 1 194 (x6.map am.pd))] (heap_Pushq_ev h6) ?_
   exact sN<|sO<|WC.region rfl rfl<|sM rfl<|sV (.ptr 0 0)<|sV (.ptr 0 12)<|sL rfl<|sV (rI (rW (e2+(1:Int))))<|sV (.ptr 0 0)<|sV (.ptr 0 12)<|sS 0 (.var (ah.rc e1++ .ref 1 1::rI (rW (e2+(1:Int)))::rI e3::rB e4::ak.rc e5))<|sN<|⟨((rW (e2+(1:Int))),x6),rfl,h⟩
  exact sN<|cF<|qK<|⟨(e2,d1),rfl,h⟩
 rintro⟨j2,j3⟩ R' B' hI h
 refine gS Z hI<|sM Z<|sA Z<|sN<|qR ?_
 cases oI h
 exact qG
theorem search_step_ev{e0:ah}{e1:Int}{e2:Int}{e3:Bool}{e4:ak}{d1:(List am)}{r:Int×Int×Int×Bool×ak×(List am)}(h:kl e0 e1 e2 e3 e4 d1=some r):EvP prog az ext 186 [.ptr 0 0] [.var (ah.rc e0++ .ref 1 0::rI e1::rI e2::rB e3::ak.rc e4),.arr 0 194 (d1.map am.pd)] (rI r.1,[.var (ah.rc e0++ .ref 1 1::rI r.2.1::rI r.2.2.1::rB r.2.2.2.1::ak.rc r.2.2.2.2.1),.arr 1 194 (r.2.2.2.2.2.map am.pd)]):=by
 refine Ev.body Z Tryz.func186 Z Zk<|gU Z<|sV (r0)<|sN<|qS<|gU Z<|sM Z<|sV (.ptr 0 0)<|sV (.ptr 0 13)<|sL Z<|sF h ?_ ?_<;>intro h
 ·refine sN<|cT<|WC.jW (R0:=[]) (B0:=[(0,.var (ah.rc e0++ .ref 1 1::rI e1::rI e2::rB e3::ak.rc e4)),(1,.arr 1 194 (d1.map am.pd))]) Z Z<|sV (rI 25)<|sN<|qR ?_
  cases oI h
  exact qG
 refine sN<|cF<|qK<|gU Z<|sM Z<|sV (.ptr 0 0)<|sV (.ptr 0 11)<|sL Z<|bE h fun x3 h3 h=>WO.qV h3 Z Z Z Z Z Z Z Z<|sV (.elt 1 0 ((0:Int)).toNat 0)<|bE h fun x4 h4 h=>WO.oB h4 Z Z Z Z Z Z<|sB (.ptr 48 0) 48 (.var zZ4)<|sH 48 (.var (ag.rc x4.jV)) ?_
 refine sN<|gU Z<|sM Z<|sV (.ptr 0 0)<|sV (.ptr 0 11)<|sG (.ifc 309 (.ptr 0 11))<|bE h fun x5 h5 h=>cR (.ifc 194 (.d (am.pd x5.1))) [(0,.var (ah.rc e0++ .ref 1 1::rI e1::rI e2::rB e3::ak.rc e4)),(1,.arr 1 194 (x5.2.map am.pd))] (heap_Pop_ev h5)<|sN<|gU Z<|sM Z<|sV (.ptr 0 0)<|sV (.ptr 0 13)<|sL Z<|sV (rI (rW (e2+(1:Int)))) ?_
 refine sV (.ptr 0 0)<|sV (.ptr 0 13)<|sS 0 (.var (ah.rc e0++ .ref 1 1::rI e1::rI (rW (e2+(1:Int)))::rB e3::ak.rc e4))<|sN<|qS<|gU Z<|sM Z<|sV (.d (ag.pd x4.jV))<|bE h fun x6 h6 h=>cR (rI x6.1) [(0,.var (ah.rc e0++ .ref 1 1::rI e1::rI (rW (e2+(1:Int)))::rB x6.2.1::ak.rc x6.2.2)),(1,.arr 1 194 (x5.2.map am.pd))] (search_look_ev h6)<|sA Z<|sN<|gU Z<|sM Z<|sF h ?_ ?_<;>intro h
 ·refine sN<|cT<|gU Z<|sM Z<|sA Z<|sN<|qR ?_
  cases oI h
  exact qG
 refine sN<|cF<|qK<|gU Z<|sV (.d (ag.pd x4.jV))<|bE h fun x8 h8 h=>cR (.tup [.d (ag.pd x8.1),.d (ag.pd x8.2.1),rB x8.2.2]) [] (rC h8)<|sM Z<|sV (.d (ag.pd x8.1))<|sV (.d (ag.pd x8.2.1))<|sV (rB x8.2.2)<|sB (.ptr 80 0) 80 (.var zZ4)<|sB (.ptr 96 0) 96 (.var zZ4)<|sH 80 (.var (ag.rc x8.1))<|sH 96 (.var (ag.rc x8.2.1)) ?_
 refine sA Z<|sN<|qS<|gU Z<|sM Z<|sF h ?_ ?_<;>intro h
 ·refine sN<|cT<|gU Z<|sV (r0)<|sN<|qR ?_
  cases oI h
  exact qG
 refine sN<|cF<|qK<|qS<|gU Z<|sM Z<|sV (.d (ag.pd x8.1))<|bE h fun x10 h10 h=>cR (rI x10.1) [(0,.var (ah.rc e0++ .ref 1 2::rI x10.2.1::rI (rW (e2+(1:Int)))::rB x6.2.1::ak.rc x6.2.2)),(1,.arr 2 194 (x10.2.2.map am.pd))] (pT h10)<|sA Z<|sN<|gU Z<|sM Z<|sF h ?_ ?_<;>intro h
 ·refine sN<|cT<|gU Z<|sM Z<|sA Z<|sN<|qR ?_
  cases oI h
  exact qG
 refine sN<|cF<|qK<|gU Z<|sM Z<|sV (.d (ag.pd x8.2.1))<|bE h fun x12 h12 h=>cR (rI x12.1) [(0,.var (ah.rc e0++ .ref 1 3::rI x12.2.1::rI (rW (e2+(1:Int)))::rB x6.2.1::ak.rc x6.2.2)),(1,.arr 3 194 (x12.2.2.map am.pd))] (pT h12)<|sA Z<|sN<|qR ?_
 cases oI h
 exact qG
theorem qx{a0:ah}{a1:Int}{r:(Option bO)×Int}(h:iG a0 a1=some r):EvP prog az ext 108 [.d (ah.pd a0),rI a1] [] (match r.1 with|none=>(.tup [.d (.raw (.pointer none)),rI r.2],[])|some yv=>(.tup [.ptr 0 0,rI r.2],[.var (bO.rc yv)])):=by
 refine Ev.body Z Tryz.func108 Z Zk<|gU Z<|sB (.ptr 32 0) 32 (.var (ah.rc a0))<|sV (.d (.raw (.pointer none)))<|sV (r0)<|sN<|qS<|gU Z<|sV (.d (ah.pd a0))<|bE h fun x1 h1 h=>cD (m7 h1)<|sA Z<|sN<|gU Z<|sM Z ?_
 refine sF h ?_ ?_<;>intro h
 ·refine sN<|cT<|gU Z<|sM Z<|sV (.d (.raw (.pointer none)))<|sA Z<|sN<|qR ?_
  cases oI h
  exact qG
 refine sN<|cF<|qK<|qS<|gU Z<|sM Z<|sF h ?_ ?_<;>intro h
 ·refine sN<|cT<|gU Z<|sV (.d (.raw (.pointer none)))<|sV (rI 2)<|sN<|qR ?_
  cases oI h
  exact qG
 refine sN<|cF<|qK<|gU Z<|sV (.d (ah.pd a0))<|sG (.agg (ah.rc a0++[.dO,r0,r0,rB false,r0,r0,r0,r0,r0,r0,r0,r0,r0,r0,r0,r0]))<|sB (.ptr 304 0) 304 (.var (ah.rc a0++[.dO,r0,r0,rB false,r0,r0,r0,r0,r0,r0,r0,r0,r0,r0,r0,r0]))<|sA Z<|sN<|qS<|gU Z<|sM Z<|sV (.ptr 32 0)<|sV (.d (ag.pd a0.aM))<|bE h fun x4 h4 h=>?_
 refine cR (rI x4.1) [(304,.var (ah.rc a0++[.ref 368 0,rI x4.2.2,r0,rB false,r0,r0,r0,r0,r0,r0,r0,r0,r0,r0,r0,r0])),(368,.arr 0 194 (x4.2.1.map am.pd))] (search_add_ev h4)<|sA Z<|sN<|gU Z<|sM Z<|sF h ?_ ?_<;>intro h
 ·refine sN<|cT<|gU Z<|sM Z<|sV (.d (.raw (.pointer none)))<|sA Z<|sN<|qR ?_
  cases oI h
  exact qG
 refine sN<|cF<|qK<|qS<|bE h fun o22 ho22 h=>WC.block (WC.loop (WL.fV ho22 (fun s R' B'=>dN prog 0 (A R' B') (az.at_ 108 0 10)=some (A [(1,rI a1),(7,.ptr 304 0)] [(304,.var (ah.rc a0++ .ref 368 0::rI s.1::rI s.2.1::rB s.2.2.1::ak.rc s.2.2.2.1)),(368,.arr 0 194 (s.2.2.2.2.map am.pd))])) (fun o e R' B'=>match o with| .inl y=>e= .exit 0∧dN prog 0 (A R' B') (az.at_ 108 0 14)=some (A [(7,.ptr 304 0)] [(304,.var (ah.rc a0++rM am.pd y.1::rI y.2.1::rI y.2.2.1::rB y.2.2.2.1::ak.rc y.2.2.2.2))])| .inr r=>e= .ret∧finish prog (az.own 108) Tryz.f108 0 (A R' B')=some (match r.1 with|none=>(.tup [.d (.raw (.pointer none)),rI r.2],[])|some yv=>(.tup [.ptr 0 0,rI r.2],[.var (bO.rc yv)]))) Z ?_ ?_))
 ·rintro⟨s6,s7,s8,s9,s10⟩ R' B' q16 hI h
  unfold kJ at h
  refine qS<|gS Z hI<|sM Z<|sM Z<|bE h fun x17 h17 h=>cR (rB x17) [(304,.var (ah.rc a0++ .ref 368 0::rI s6::rI s7::rB s8::ak.rc s9)),(368,.arr 0 194 (s10.map am.pd))] (search_ended_ev h17)<|sF h ?_ ?_<;>intro h
  ·refine sN<|cT<|qK<|qB<|gU Z<|sM Z<|bE h fun x19 h19 h=>cR (rI x19.1) [(304,.var (ah.rc a0++ .ref 368 1::rI x19.2.1::rI x19.2.2.1::rB x19.2.2.2.1::ak.rc x19.2.2.2.2.1)),(368,.arr 1 194 (x19.2.2.2.2.2.map am.pd))] (search_step_ev h19)<|sA Z<|sN<|gU Z<|sM Z<|sF h ?_ ?_<;>intro h
   ·refine sN<|cT<|gU Z<|sM Z<|sV (.d (.raw (.pointer none)))<|sA Z<|sN<|qR ?_
    cases oI h
    exact⟨nofun,rfl,rfl⟩
   refine sN<|cF<|qK ?_
   cases oI h
   exact⟨rfl,rfl⟩
  refine sN<|cF<|qX ?_
  cases oI h
  exact⟨nofun,rfl,rfl⟩
 intro e R' B' he hq
 rcases o22 with y23|r24
 ·obtain⟨rfl,hI⟩:=hq
  refine qE<|gS Z hI<|sM Z<|sA Z<|sV (r0)<|sN<|qR ?_
  cases oI h
  exact qG
 obtain⟨rfl,hf⟩:=hq
 cases oI h
 exact hf
theorem locate_run_evN{a0:ah}{a1:Int}{r:(Option bO)×Int}(h:iG a0 a1=some r)(ho:r.1=none):EvP prog az ext 108 [.d (ah.pd a0),rI a1] [] (.tup [.d (.raw (.pointer none)),rI r.2],[]):=by
  have:=qx h;rw [ho]at this;exact this
theorem locate_run_evS{a0:ah}{a1:Int}{r:(Option bO)×Int}{yv:bO}(h:iG a0 a1=some r)(ho:r.1=some yv):EvP prog az ext 108 [.d (ah.pd a0),rI a1] [] (.tup [.ptr 0 0,rI r.2],[.var (bO.rc yv)]):=by
  have:=qx h;rw [ho]at this;exact this
theorem geometry_Hull_ev{a0:ag}{a1:ag}{r:ag}(h:lI a0 a1=some r):EvP prog az ext 109 [.d (ag.pd a0),.d (ag.pd a1)] [] (.d (ag.pd r),[]):=by
 refine Ev.body Z Tryz.func109 Z Zk<|gU Z<|sB (.ptr 32 0) 32 (.var (ag.rc a0))<|sB (.ptr 48 0) 48 (.var (ag.rc a1))<|sB (.ptr 64 0) 64 (.var zZ4)<|sN<|qS<|gU Z<|sV (.d (ag.pd a0))<|bE h fun x1 h1 h=>cD (bF h1)<|sF h ?_ ?_<;>intro h
 ·refine sM Z<|k3<|sT<|sN<|cT<|gU Z<|sG (.d (ag.pd (ag.mk (aa.mk 0 0 0) (aa.mk 0 0 0))))<|sH 64 (.var zZ4)<|sN<|qR ?_
  cases oI h
  exact qG
 refine sM Z<|sV (.d (ag.pd a1))<|bE h fun x3 h3 h=>cD (bF h3)<|sV (rB (!x3))<|sF h ?_ ?_<;>intro h
 ·refine sN<|cT<|gU Z<|sG (.d (ag.pd (ag.mk (aa.mk 0 0 0) (aa.mk 0 0 0))))<|sH 64 (.var zZ4)<|sN<|qR ?_
  cases oI h
  exact qG
 refine sN<|cF<|qK<|WC.cI Z Z<|sV (.ptr 32 0)<|sV (.d (aa.pd a0.aI))<|bE h fun x5 h5 h=>cD (bM h5)<|sV (.ptr 32 3)<|sV (.d (aa.pd a0.aC))<|bE h fun x6 h6 h=>cD (bM h6)<|sV (.ptr 48 0)<|sV (.d (aa.pd a1.aI))<|bE h fun x7 h7 h=>?_
 refine cD (bM h7)<|sV (.ptr 48 3)<|sV (.d (aa.pd a1.aC))<|bE h fun x8 h8 h=>cD (bM h8)<|sB (.ptr 80 0) 80 (.var [r0,r0,r0])<|sB (.ptr 96 0) 96 (.var [r0,r0,r0])<|sB (.ptr 112 0) 112 (.var [r0,r0,r0])<|sB (.ptr 128 0) 128 (.var [r0,r0,r0])<|sS 80 (.var [rI x5.a0,rI x5.a1,rI x5.a2])<|sS 96 (.var [rI x6.a0,rI x6.a1,rI x6.a2])<|sS 112 (.var [rI x7.a0,rI x7.a1,rI x7.a2])<|sS 128 (.var [rI x8.a0,rI x8.a1,rI x8.a2]) ?_
 refine sN<|sO<|qS<|gU Z<|sV (r0)<|sN<|WC.block (WC.loop ?_)
 refine WL.round<|WC.jW (R0:=[(4,.ptr 64 0),(5,.ptr 80 0),(6,.ptr 96 0),(7,.ptr 112 0),(8,.ptr 128 0),(31,r0)]) (B0:=[(64,.var zZ4),(80,.var [rI x5.a0,rI x5.a1,rI x5.a2]),(96,.var [rI x6.a0,rI x6.a1,rI x6.a2]),(112,.var [rI x7.a0,rI x7.a1,rI x7.a2]),(128,.var [rI x8.a0,rI x8.a1,rI x8.a2])]) Z Z<|sT<|sN<|qS<|cT<|qK<|qS<|qB<|gU Z<|sM Z<|sA Z<|sN<|WC.kT Z Z<|sM Z ?_
 refine sM Z<|sM Z<|sV (.ptr 80 0)<|sL Z<|sM Z<|sV (.ptr 112 0)<|sL Z<|sV (rI (if x7.a0<x5.a0 then x7.a0 else x5.a0))<|sM Z<|sV (.ptr 96 0)<|sL Z<|sM Z<|sV (.ptr 128 0)<|sL Z<|sV (rI (if x8.a0>x6.a0 then x8.a0 else x6.a0)) ?_
 refine sV (.ptr 80 0)<|sS 80 (.var [rI (if x7.a0<x5.a0 then x7.a0 else x5.a0),rI x5.a1,rI x5.a2])<|sV (.ptr 96 0)<|sS 96 (.var [rI (if x8.a0>x6.a0 then x8.a0 else x6.a0),rI x6.a1,rI x6.a2]) ?_
 refine sN<|sO<|WC.region Z Z<|sV (rI 1)<|sM Z<|sN<|WL.round<|WC.jW (R0:=[(4,.ptr 64 0),(5,.ptr 80 0),(6,.ptr 96 0),(7,.ptr 112 0),(8,.ptr 128 0),(31,rI 1)]) (B0:=[(64,.var zZ4),(80,.var [rI (if x7.a0<x5.a0 then x7.a0 else x5.a0),rI x5.a1,rI x5.a2]),(96,.var [rI (if x8.a0>x6.a0 then x8.a0 else x6.a0),rI x6.a1,rI x6.a2]),(112,.var [rI x7.a0,rI x7.a1,rI x7.a2]),(128,.var [rI x8.a0,rI x8.a1,rI x8.a2])]) Z Z<|sT<|sN<|qS<|cT<|qK<|qS<|qB<|gU Z ?_
 refine sM Z<|sA Z<|sN<|WC.kT Z Z<|sM Z<|sM Z<|sM Z<|sV (.ptr 80 1)<|sL Z<|sM Z<|sV (.ptr 112 1)<|sL Z<|sV (rI (if x7.a1<x5.a1 then x7.a1 else x5.a1))<|sM Z<|sV (.ptr 96 1) ?_
 refine sL Z<|sM Z<|sV (.ptr 128 1)<|sL Z<|sV (rI (if x8.a1>x6.a1 then x8.a1 else x6.a1))<|sV (.ptr 80 1)<|sS 80 (.var [rI (if x7.a0<x5.a0 then x7.a0 else x5.a0),rI (if x7.a1<x5.a1 then x7.a1 else x5.a1),rI x5.a2])<|sV (.ptr 96 1)<|sS 96 (.var [rI (if x8.a0>x6.a0 then x8.a0 else x6.a0),rI (if x8.a1>x6.a1 then x8.a1 else x6.a1),rI x6.a2]) ?_
 refine sN<|sO<|WC.region Z Z<|sV (rI 2)<|sM Z<|sN<|WL.round<|WC.jW (R0:=[(4,.ptr 64 0),(5,.ptr 80 0),(6,.ptr 96 0),(7,.ptr 112 0),(8,.ptr 128 0),(31,rI 2)]) (B0:=[(64,.var zZ4),(80,.var [rI (if x7.a0<x5.a0 then x7.a0 else x5.a0),rI (if x7.a1<x5.a1 then x7.a1 else x5.a1),rI x5.a2]),(96,.var [rI (if x8.a0>x6.a0 then x8.a0 else x6.a0),rI (if x8.a1>x6.a1 then x8.a1 else x6.a1),rI x6.a2]),(112,.var [rI x7.a0,rI x7.a1,rI x7.a2]),(128,.var [rI x8.a0,rI x8.a1,rI x8.a2])]) Z Z<|sT<|sN<|qS<|cT<|qK<|qS<|qB<|gU Z ?_
 refine sM Z<|sA Z<|sN<|WC.kT Z Z<|sM Z<|sM Z<|sM Z<|sV (.ptr 80 2)<|sL Z<|sM Z<|sV (.ptr 112 2)<|sL Z<|sV (rI (if x7.a2<x5.a2 then x7.a2 else x5.a2))<|sM Z<|sV (.ptr 96 2) ?_
 refine sL Z<|sM Z<|sV (.ptr 128 2)<|sL Z<|sV (rI (if x8.a2>x6.a2 then x8.a2 else x6.a2))<|sV (.ptr 80 2)<|sS 80 (.var [rI (if x7.a0<x5.a0 then x7.a0 else x5.a0),rI (if x7.a1<x5.a1 then x7.a1 else x5.a1),rI (if x7.a2<x5.a2 then x7.a2 else x5.a2)])<|sV (.ptr 96 2)<|sS 96 (.var [rI (if x8.a0>x6.a0 then x8.a0 else x6.a0),rI (if x8.a1>x6.a1 then x8.a1 else x6.a1),rI (if x8.a2>x6.a2 then x8.a2 else x6.a2)]) ?_
 refine sN<|sO<|WC.region Z Z<|sV (rI 3)<|sM Z<|sN<|WL.round<|WC.jW (R0:=[(4,.ptr 64 0),(5,.ptr 80 0),(6,.ptr 96 0),(7,.ptr 112 0),(8,.ptr 128 0),(31,rI 3)]) (B0:=[(64,.var zZ4),(80,.var [rI (if x7.a0<x5.a0 then x7.a0 else x5.a0),rI (if x7.a1<x5.a1 then x7.a1 else x5.a1),rI (if x7.a2<x5.a2 then x7.a2 else x5.a2)]),(96,.var [rI (if x8.a0>x6.a0 then x8.a0 else x6.a0),rI (if x8.a1>x6.a1 then x8.a1 else x6.a1),rI (if x8.a2>x6.a2 then x8.a2 else x6.a2)]),(112,.var [rI x7.a0,rI x7.a1,rI x7.a2]),(128,.var [rI x8.a0,rI x8.a1,rI x8.a2])]) Z Z<|sU<|sN<|qS<|cF<|qX<|qE<|WC.cI Z Z<|sV (.d (aS.pd (aS.mk (if x7.a0<x5.a0 then x7.a0 else x5.a0) (if x7.a1<x5.a1 then x7.a1 else x5.a1) (if x7.a2<x5.a2 then x7.a2 else x5.a2)))) ?_
 refine bE h fun x9 h9 h=>cD (bT h9)<|sV (.d (aS.pd (aS.mk (if x8.a0>x6.a0 then x8.a0 else x6.a0) (if x8.a1>x6.a1 then x8.a1 else x6.a1) (if x8.a2>x6.a2 then x8.a2 else x6.a2))))<|bE h fun x10 h10 h=>cD (bT h10)<|sG (.d (ag.pd (ag.mk x9 x10)))<|sH 64 (.var (aa.rc x9++aa.rc x10)) ?_
 refine sN<|sO<|qR ?_
 cases oI h
 exact qG
theorem od{a0:ah}{a1:Int}{r:ak×Int}(h:c9 a0 a1=some r):EvP prog az ext 57 [.d (ah.pd a0),rI a1] [] (.tup [.d (ak.pd r.1),rI r.2],[]):=by
 refine Ev.body Z Tryz.func57 Z Zk<|gU Z<|sB (.ptr 32 0) 32 (.var (ah.rc a0))<|sB (.ptr 64 0) 64 (.var zZ1)<|sV (r0)<|sN<|gU Z<|sV (.d (ah.pd a0))<|sM Z<|bE h fun x1 h1 h=>opt_elim h (fun hox1 h=>?_) (fun y2 hox1 h=>?_)
 ·refine cR (.tup [.d (.raw (.pointer none)),rI x1.2]) [] (locate_run_evN h1 hox1)<|sM Z<|sV (.d (.raw (.pointer none)))<|sV (rI x1.2)<|sA Z<|sA Z<|sN<|qS<|gU Z<|sM Z<|sF h ?_ ?_<;>intro h
  ·refine sN<|cT<|gU Z<|sG (.d (ak.pd (ak.mk (aa.mk 0 0 0) 0 0 0 (ag.mk (aa.mk 0 0 0) (aa.mk 0 0 0)))))<|sM Z<|sH 64 (.var zZ1)<|sA Z<|sN<|qR ?_
   cases oI h
   exact qG
  refine sN<|cF<|qK<|gU Z<|sM Z ?_
  cases h
 refine cR (.tup [.ptr 224 0,rI x1.2]) [(224,.var (bO.rc y2))] (locate_run_evS h1 hox1)<|sM Z<|sV (.ptr 224 0)<|sV (rI x1.2)<|sA Z<|sA Z<|sN<|qS<|gU Z<|sM Z<|sF h ?_ ?_<;>intro h
 ·refine sN<|cT<|gU Z<|sG (.d (ak.pd (ak.mk (aa.mk 0 0 0) 0 0 0 (ag.mk (aa.mk 0 0 0) (aa.mk 0 0 0)))))<|sM Z<|sH 64 (.var zZ1)<|sA Z<|sN<|qR ?_
  cases oI h
  exact qG
 refine sN<|cF<|qK<|gU Z<|sM Z<|sV (.ptr 224 0)<|sV (.ptr 224 15)<|sV (.d (ak.pd y2.bS))<|sB (.ptr 128 0) 128 (.var zZ1)<|sH 128 (.var (ak.rc y2.bS))<|sN<|gU Z<|sV (.ptr 128 4)<|sL Z<|sV (.ptr 128 0) ?_
 refine sV (.d (aa.pd y2.bS.aX))<|sV (.ptr 128 0)<|sV (.d (aa.pd y2.bS.aX))<|sG (.d (ag.pd (ag.mk y2.bS.aX y2.bS.aX)))<|sV (.ptr 128 5)<|sS 128 (.var (aa.rc y2.bS.aX++rI y2.bS.bn::rI y2.bS.bq::rI y2.bS.bq::ag.rc y2.bS.bh))<|sV (.ptr 128 6)<|sH 128 (.var (aa.rc y2.bS.aX++rI y2.bS.bn::rI y2.bS.bq::rI y2.bS.bq::aa.rc y2.bS.aX++aa.rc y2.bS.aX))<|sN<|qS<|gU Z<|sM Z<|sV (.ptr 224 0)<|sV (.ptr 224 11)<|sL Z ?_
 refine sE (rI (y2.kF.length:Int)) (dX _ _)<|sV (r0)<|sN<|bE h fun o16 ho16 h=>WC.block (WC.loop (WL.fV ho16 (fun s R' B'=>dN prog 0 (A R' B') (az.at_ 57 0 7)=some (A [(4,.ptr 64 0),(8,.ptr 128 0),(37,rM am.pd y2.kF),(38,rI (y2.kF.length:Int)),(39,rI s.1)] [(64,.var zZ1),(128,.var (aa.rc y2.bS.aX++rI y2.bS.bn::rI y2.bS.bq::rI s.2.1::ag.rc s.2.2))])) (fun o e R' B'=>e= .exit 0∧dN prog 0 (A R' B') (az.at_ 57 0 13)=some (A [(4,.ptr 64 0),(8,.ptr 128 0)] [(64,.var zZ1),(128,.var (aa.rc y2.bS.aX++rI y2.bS.bn::rI y2.bS.bq::rI o.1::ag.rc o.2))])) Z ?_ ?_))
 ·rintro⟨s5,s6,s7⟩ R' B' q10 hI h
  refine gS Z hI<|sF h ?_ ?_<;>intro h
  ·refine sN<|qS<|cT<|qK<|qS<|qB<|gU Z<|bE h fun x12 h12 h=>eG h12 Z<|sV (.d (am.pd x12))<|sB (.ptr 160 0) 160 (.var [r0,r0,r0,r0,r0,r0,r0,r0])<|sH 160 (.var (am.rc x12))<|sN<|gU Z<|sV (.ptr 128 5) ?_
   refine sL Z<|sV (.ptr 160 6)<|sL Z<|sV (rI (if x12.cu<s6 then x12.cu else s6))<|sV (.ptr 128 5)<|sS 128 (.var (aa.rc y2.bS.aX++rI y2.bS.bn::rI y2.bS.bq::rI (if x12.cu<s6 then x12.cu else s6)::ag.rc s7))<|sN<|gU Z<|sV (.ptr 160 6)<|sL Z<|sV (.ptr 128 4)<|sL Z<|sF h ?_ ?_<;>intro h
   ·refine sN<|cT<|WC.region Z Z<|sV (.ptr 128 6)<|sV (.d (ag.pd s7))<|sV (.ptr 160 0)<|sV (.d (ag.pd x12.jV))<|bE h fun x14 h14 h=>cD (geometry_Hull_ev h14)<|sV (.ptr 128 6)<|sH 128 (.var (aa.rc y2.bS.aX++rI y2.bS.bn::rI y2.bS.bq::rI (if x12.cu<s6 then x12.cu else s6)::ag.rc x14))<|sN<|WC.region Z Z<|sV (rI (rW (s5+(1:Int))))<|sM Z ?_
    refine sN ?_
    cases oI h
    exact⟨rfl,rfl⟩
   refine sN<|cF<|qK<|WC.region Z Z<|sV (rI (rW (s5+(1:Int))))<|sM Z<|sN ?_
   cases oI h
   exact⟨rfl,rfl⟩
  refine sN<|qS<|cF<|qX ?_
  cases oI h
  exact⟨nofun,rfl,rfl⟩
 intro e R' B' he hq
 obtain⟨rfl,hI⟩:=hq
 refine qE<|gS Z hI<|sV (.d (ak.pd (ak.mk y2.bS.aX y2.bS.bn y2.bS.bq o16.1 (ag.mk (aa.mk o16.2.aI.fX o16.2.aI.fY o16.2.aI.fZ) (aa.mk o16.2.aC.fX o16.2.aC.fY o16.2.aC.fZ)))))<|sH 64 (.var (aa.rc y2.bS.aX++rI y2.bS.bn::rI y2.bS.bq::rI o16.1::ag.rc o16.2))<|sV (r0)<|sN<|qR ?_
 cases oI h
 exact qG
theorem qp{a0:ah}{a1:aa}{a2:Int}{r:(List Int)×Int}(h:gm a0 a1 a2=some r):EvP prog az ext 131 [.d (ah.pd a0),.d (aa.pd a1),rI a2] [] (.tup [rL r.1,rI r.2],[]):=by
 refine Ev.body Z Tryz.func131 Z Zk<|gU Z<|sB (.ptr 48 0) 48 (.var (ah.rc a0))<|sB (.ptr 64 0) 64 (.var (aa.rc a1))<|sV .dO<|sV (r0)<|sN<|gU Z<|sV (.d (ah.pd a0))<|sV (.d (aa.pd a1))<|sV (.d (aa.pd a1))<|sG (.d (ag.pd (ag.mk a1 a1)))<|bE h fun x1 h1 h=>cR (.tup [rM aK.pd x1.1,rI x1.2]) [] (mi h1)<|sM Z ?_
 refine sV (rM aK.pd x1.1)<|sV (rI x1.2)<|sA Z<|sA Z<|sN<|qS<|gU Z<|sM Z<|sF h ?_ ?_<;>intro h
 ·refine sN<|cT<|gU Z<|sM Z<|sV .dO<|sA Z<|sN<|qR ?_
  cases oI h
  exact qG
 refine sN<|cF<|qK<|qS<|gU Z<|sM Z<|sF h ?_ ?_<;>intro h
 ·refine sM Z<|sK<|sK<|sT<|sN<|cT<|gU Z<|sV .dO<|sV (rI 2)<|sN<|qR ?_
  cases oI h
  exact qG
 refine sM Z<|sM Z<|sV (rB (decide (a2>(18014398509481984:Int))))<|sF h ?_ ?_<;>intro h
 ·refine sN<|cT<|gU Z<|sV .dO<|sV (rI 2)<|sN<|qR ?_
  cases oI h
  exact qG
 refine sN<|cF<|qK<|gU Z<|sM Z<|sE (rI (x1.1.length:Int)) (dX _ _)<|bE h fun x5 h5 h=>WO.mkC (g:=(PD.int .i64)) h5 Z Z Z Z Z Z Z Z Z Z Z<|sA Z<|sN<|qS<|gU Z<|sM Z<|sE (rI (x1.1.length:Int)) (dX _ _)<|sV (r0) ?_
 refine sN<|bE h fun o15 ho15 h=>WC.block (WC.loop (WL.fV ho15 (fun s R' B'=>dN prog 0 (A R' B') (az.at_ 131 0 8)=some (A [(2,rI a2),(10,.ref 512 0),(33,rM aK.pd x1.1),(34,rI (x1.1.length:Int)),(35,rI s.1)] [(512,.arr 0 3 (s.2.map (PD.int .i64)))])) (fun o e R' B'=>e= .exit 0∧dN prog 0 (A R' B') (az.at_ 131 0 12)=some (A [(10,.ref 512 0)] [(512,.arr 0 3 (o.map (PD.int .i64)))])) Z ?_ ?_))
 ·rintro⟨s6,s7⟩ R' B' q9 hI h
  refine gS Z hI<|sF h ?_ ?_<;>intro h
  ·refine sN<|qS<|cT<|qK<|qS<|qB<|gU Z<|bE h fun x11 h11 h=>eG h11 Z<|sV (.d (aK.pd x11))<|sB (.ptr 192 0) 192 (.var [r0,r0])<|sS 192 (.var [rI x11.bj,rI x11.fTo])<|sN<|WC.region Z Z<|sM Z ?_
   refine sV (.d (aK.pd x11))<|sM Z<|bE h fun x12 h12 h=>cD (m6 h12)<|sV (.d (.lst ([x12].map (PD.int .i64))))<|bE h fun x13 h13 h=>aR h13 (fun _=>Z) Z<|sA Z<|sN<|WC.region Z Z<|sV (rI (rW (s6+(1:Int))))<|sM Z<|sN ?_
   cases oI h
   exact⟨rfl,rfl⟩
  refine sN<|qS<|cF<|qX ?_
  cases oI h
  exact⟨nofun,rfl,rfl⟩
 intro e R' B' he hq
 obtain⟨rfl,hI⟩:=hq
 refine qE<|gS Z hI<|sM Z<|sA Z<|sV (r0)<|sN<|qR ?_
 exact oI h▸qD
theorem pa{a1:Int}{d0:(List Int)}{d1:(List Int)}{r:(List Int)×(List Int)}(h:kA a1 d0 d1=some r):EvP prog az ext 132 [.agg [.ref 0 0,.ref 1 0],rI a1] [.arr 0 3 (d0.map (PD.int .i64)),.arr 0 3 (d1.map (PD.int .i64))] (.tup [],[.arr 0 3 (r.1.map (PD.int .i64)),.arr 0 3 (r.2.map (PD.int .i64))]):=by
 refine Ev.body Z Tryz.func132 Z Zk<|gU Z<|sB (.ptr 32 0) 32 (.var [.ref 0 0,.ref 1 0])<|sN<|WC.kT Z Z<|sV (.ptr 32 0)<|sL Z<|sV (.ptr 32 1)<|sL Z<|sM Z<|bE h fun x2 h2 h=>WO.qV h2 Z Z Z Z Z Z Z Z<|bE h fun x3 h3 h=>WO.oB h3 Z Z Z Z Z Z<|sV (.ptr 32 1) ?_
 refine sL Z<|sV (.ptr 32 0)<|sL Z<|sM Z<|bE h fun x5 h5 h=>WO.qV h5 Z Z Z Z Z Z Z Z<|bE h fun x6 h6 h=>WO.oB h6 Z Z Z Z Z Z<|sV (.ptr 32 0)<|sL Z<|sM Z<|bE h fun x8 h8 h=>WO.qV h8 Z Z Z Z Z Z Z Z<|bE h fun x9 h9 h=>WO.oB h9 Z Z Z Z Z Z ?_
 refine sV (.ptr 32 1)<|sL Z<|sM Z<|bE h fun x11 h11 h=>WO.qV h11 Z Z Z Z Z Z Z Z<|bE h fun x12 h12 h=>WO.oB h12 Z Z Z Z Z Z<|bE h fun x14 h14 h=>WO.qV h14 Z Z Z Z Z Z Z Z<|bE h fun x15 h15 h=>WO.th (g:=(PD.int .i64)) (sz:=1) (p:= .int .i64 x9) h15 (fun _=>Z) (fun _=>Z) Z Z Z Z Z Z Z Z Z<|bE h fun x17 h17 h=>WO.qV h17 Z Z Z Z Z Z Z Z<|bE h fun x18 h18 h=>WO.th (g:=(PD.int .i64)) (sz:=1) (p:= .int .i64 x12) h18 (fun _=>Z) (fun _=>Z) Z Z Z Z Z Z Z Z Z ?_
 refine sN<|sO ?_
 exact oI h▸qD
theorem ov{a0:aG}{a1:(List aj)}{r:(List a8)×(List Int)×Int}(h:f7 a0 a1=some r):EvP prog az ext 66 [.d (aG.pd a0),rM aj.pd a1] [] (.tup [rM a8.pd r.1,rL r.2.1,rI r.2.2],[]):=by
 refine Ev.body Z Tryz.func66 Z Zk<|gU Z<|sB (.ptr 32 0) 32 (.var (aG.rc a0))<|sV .dO<|sV .dO<|sV (r0)<|sN<|WC.scope<|qS<|gU Z<|sV (.d (aG.pd a0))<|sM Z<|bE h fun x1 h1 h=>cD (k8 h1)<|sA Z ?_
 refine sN<|gU Z<|sM Z<|sF h ?_ ?_<;>intro h
 ·refine sN<|cT<|gU Z<|sM Z<|sV .dO<|sV .dO<|sA Z<|sN<|qR ?_
  cases oI h
  exact qG
 refine sN<|cF<|qK<|gU Z<|sV .dO<|sN<|gU Z<|sV .dO<|sN<|gU Z<|sM Z<|bE h fun x3 h3 h=>cD (qI h3)<|sA Z<|sN ?_
 refine gU Z<|sM Z<|sE (rI (a1.length:Int)) (dX _ _)<|bE h fun x4 h4 h=>cR (.agg [.ref 560 0,.ref 561 0]) [(560,.arr 0 3 (x4.n8.map (PD.int .i64))),(561,.arr 0 3 (x4.fback.map (PD.int .i64)))] (pe h4)<|sB (.ptr 176 0) 176 (.var [.dO,.dO])<|sS 176 (.var [.ref 560 0,.ref 561 0])<|sN<|qS<|WC.label<|qS<|bE h fun o79 ho79 h=>WC.block (WC.loop (WL.fV ho79 (fun s R' B'=>dN prog 0 (A R' B') (az.at_ 66 0 8)=some (A [(1,rM aj.pd a1),(2,.ptr 32 0),(8,.ref 2432 0),(9,.ref 2576 0),(10,rL x3),(11,.ptr 176 0)] [(32,.var (aG.rc a0)),(176,.var [.ref 560 0,.ref 561 0]),(560,.arr 0 3 (s.2.2.1.map (PD.int .i64))),(561,.arr 0 3 (s.2.2.2.map (PD.int .i64))),(2432,.arr 0 142 (s.1.map a8.pd)),(2576,.arr 0 3 (s.2.1.map (PD.int .i64)))])) (fun o e R' B'=>match o with| .inl y=>e= .exit 0∧dN prog 0 (A R' B') (az.at_ 66 0 42)=some (A [(8,.ref 2432 0),(9,.ref 2576 0)] [(2432,.arr 0 142 (y.1.map a8.pd)),(2576,.arr 0 3 (y.2.map (PD.int .i64)))])| .inr r=>e= .ret∧finish prog (az.own 66) Tryz.f66 0 (A R' B')=some (.tup [rM a8.pd r.1,rL r.2.1,rI r.2.2],[])) Z ?_ ?_))
 ·rintro⟨s5,s6,s7,s8⟩ R' B' q11 hI h
  unfold bV at h
  refine qS<|WC.cI hI Z<|sV (.ptr 176 0)<|sL Z<|sV (.agg [.ref 560 0,.ref 561 0])<|bE h fun x12 h12 h=>cR (rI x12) [ ] (jd h12)<|bE h fun x14 h14 h=>WO.qV h14 Z Z Z Z Z Z Z Z<|bE h fun x15 h15 h=>WO.oB h15 Z Z Z Z Z Z<|sV (.agg [.ref 560 0,.ref 561 0])<|bE h fun x16 h16 h=>cR (rI x16) [ ] (jd h16)<|sF h ?_ ?_<;>intro h
  ·refine sN<|sO<|cT<|qK<|qB<|gU Z<|sV (.agg [.ref 560 0,.ref 561 0])<|sV (.d (aG.pd a0))<|sM Z<|sM Z<|bE h fun x18 h18 h=>cR (rL x18.1) [(560,.arr 0 3 (x18.2.1.map (PD.int .i64))),(561,.arr 0 3 (x18.2.2.map (PD.int .i64)))] (chain_windowq_ev h18)<|sA Z<|sN<|WC.join (α:=(List a8)×(List Int)) (fun x R' B'=>dN prog 0 (A R' B') (az.at_ 66 0 40)=some (A [(1,rM aj.pd a1),(2,.ptr 32 0),(8,.ref 2432 0),(9,.ref 2576 0),(10,rL x3),(11,.ptr 176 0),(12,rL x18.1)] [(32,.var (aG.rc a0)),(176,.var [.ref 560 0,.ref 561 0]),(560,.arr 0 3 (x18.2.1.map (PD.int .i64))),(561,.arr 0 3 (x18.2.2.map (PD.int .i64))),(2432,.arr 0 142 (x.1.map a8.pd)),(2576,.arr 0 3 (x.2.map (PD.int .i64)))])) (fun x=>cw x18 x3 x.1 x.2=some q11) ?_ ?_
   ·refine gU Z<|sM Z<|sE (rI (x18.1.length:Int)) (dX _ _)<|sV (.ptr 32 13)<|sL Z<|sF h ?_ ?_<;>intro h
    ·refine sN<|cT<|gU Z<|sV .dO<|sN<|qS<|gU Z<|sM Z<|sE (rI (x18.1.length:Int)) (dX _ _)<|sV (r0)<|sN<|bE h fun o40 ho40 h=>WC.block (WC.loop (WL.fV ho40 (fun s R' B'=>dN prog 0 (A R' B') (az.at_ 66 0 13)=some (A [(1,rM aj.pd a1),(2,.ptr 32 0),(8,.ref 2432 0),(9,.ref 2576 0),(10,rL x3),(11,.ptr 176 0),(12,rL x18.1),(13,.ref 1120 0),(55,rL x18.1),(56,rI (x18.1.length:Int)),(57,rI s.1)] [(32,.var (aG.rc a0)),(176,.var [.ref 560 0,.ref 561 0]),(560,.arr 0 3 (x18.2.1.map (PD.int .i64))),(561,.arr 0 3 (x18.2.2.map (PD.int .i64))),(1120,.arr 0 81 (s.2.map aj.pd)),(2432,.arr 0 142 (s5.map a8.pd)),(2576,.arr 0 3 (s6.map (PD.int .i64)))])) (fun o e R' B'=>e= .exit 2∧dN prog 0 (A R' B') (az.at_ 66 0 17)=some (A [(1,rM aj.pd a1),(2,.ptr 32 0),(8,.ref 2432 0),(9,.ref 2576 0),(10,rL x3),(11,.ptr 176 0),(12,rL x18.1),(13,rM aj.pd o.1)] [(32,.var (aG.rc a0)),(176,.var [.ref 560 0,.ref 561 0]),(560,.arr 0 3 (x18.2.1.map (PD.int .i64))),(561,.arr 0 3 (x18.2.2.map (PD.int .i64))),(2432,.arr 0 142 (o.2.1.map a8.pd)),(2576,.arr 0 3 (o.2.2.map (PD.int .i64)))])) Z ?_ ?_))
     ·rintro⟨s28,s29⟩ R' B' q33 hI h
      refine gS Z hI<|sF h ?_ ?_<;>intro h
      ·refine sN<|qS<|cT<|qK<|qS<|qB<|gU Z<|bE h fun x35 h35 h=>eG h35 Z<|sC Z<|sA Z<|sN<|WC.region Z Z<|sM Z<|sM Z ?_
       refine sM Z<|sM Z<|bE h fun x36 h36 h=>eG h36 Z<|sC Z<|bE h fun x37 h37 h=>eG h37 Z<|sV (.d (aj.pd x37))<|sV (.d (.lst ([x37].map aj.pd)))<|bE h fun x38 h38 h=>aR h38 (fun _=>Z) Z<|sA Z<|sN<|WC.region Z Z<|sV (rI (rW (s28+(1:Int)))) ?_
       refine sM Z<|sN ?_
       cases oI h
       exact⟨rfl,rfl⟩
      refine sN<|qS<|cF<|qX ?_
      cases oI h
      exact⟨nofun,rfl,rfl⟩
     intro e R' B' he hq
     obtain⟨rfl,hI⟩:=hq
     refine qE<|WC.cI hI Z<|sV (.d (aG.pd a0))<|sM Z<|bE h fun x41 h41 h=>cD (lP h41)<|sV (.ptr 32 10)<|sL Z<|bE h fun x42 h42 h=>cR (.tup [.d (ak.pd x42.1),rI x42.2]) [] (od h42)<|sM Z<|sV (.d (ak.pd x42.1))<|sV (rI x42.2)<|sB (.ptr 256 0) 256 (.var zZ1)<|sH 256 (.var (ak.rc x42.1)) ?_
     refine sA Z ?_
     refine sN<|sO<|qS<|gU Z<|sM Z<|sF h ?_ ?_<;>intro h
     ·refine sN<|cT<|gU Z<|sM Z<|sV .dO<|sV .dO<|sA Z<|sN<|qR ?_
      cases oI h
      exact⟨nofun,rfl,rfl⟩
     refine sN<|cF<|qK<|WC.cI Z Z<|sV (.d (aG.pd a0))<|sM Z<|bE h fun x44 h44 h=>cD (lP h44)<|sV (.ptr 256 0)<|sV (.d (aa.pd x42.1.aX))<|sV (.ptr 256 3)<|sL Z<|bE h fun x45 h45 h=>cR (.tup [rL x45.1,rI x45.2]) [] (qp h45)<|sM Z ?_
     refine sV (rL x45.1)<|sV (rI x45.2)<|sA Z<|sA Z ?_
     refine sN<|sO<|qS<|gU Z<|sM Z<|sF h ?_ ?_<;>intro h
     ·refine sN<|cT<|gU Z<|sM Z<|sV .dO<|sV .dO<|sA Z<|sN<|qR ?_
      cases oI h
      exact⟨nofun,rfl,rfl⟩
     refine sN<|cF<|qK<|gU Z<|sV .dO<|sN<|qS<|gU Z<|sM Z<|sE (rI (x18.1.length:Int)) (dX _ _)<|sV (r0)<|sN<|bE h fun o57 ho57 h=>WC.block (WC.loop (WL.fV ho57 (fun s R' B'=>dN prog 0 (A R' B') (az.at_ 66 0 25)=some (A [(1,rM aj.pd a1),(2,.ptr 32 0),(8,.ref 2432 0),(9,.ref 2576 0),(10,rL x3),(11,.ptr 176 0),(12,rL x18.1),(16,.ptr 256 0),(18,rL x45.1),(19,.ref 1840 0),(98,rL x18.1),(99,rI (x18.1.length:Int)),(100,rI s.1)] [(32,.var (aG.rc a0)),(176,.var [.ref 560 0,.ref 561 0]),(256,.var (ak.rc x42.1)),(560,.arr 0 3 (x18.2.1.map (PD.int .i64))),(561,.arr 0 3 (x18.2.2.map (PD.int .i64))),(1840,.arr 0 3 (s.2.map (PD.int .i64))),(2432,.arr 0 142 (o40.2.1.map a8.pd)),(2576,.arr 0 3 (o40.2.2.map (PD.int .i64)))])) (fun o e R' B'=>e= .exit 4∧dN prog 0 (A R' B') (az.at_ 66 0 30)=some (A [(1,rM aj.pd a1),(2,.ptr 32 0),(8,.ref 2432 0),(9,.ref 2576 0),(10,rL x3),(11,.ptr 176 0),(12,rL x18.1),(16,.ptr 256 0),(19,.ref 1840 0)] [(32,.var (aG.rc a0)),(176,.var [.ref 560 0,.ref 561 0]),(256,.var (ak.rc x42.1)),(560,.arr 0 3 (x18.2.1.map (PD.int .i64))),(561,.arr 0 3 (x18.2.2.map (PD.int .i64))),(1840,.arr 0 3 (o.map (PD.int .i64))),(2432,.arr 0 142 (o40.2.1.map a8.pd)),(2576,.arr 0 3 (o40.2.2.map (PD.int .i64)))])) Z ?_ ?_))
     ·rintro⟨s47,s48⟩ R' B' q50 hI h
      refine gS Z hI<|sF h ?_ ?_<;>intro h
      ·refine sN<|qS<|cT<|qK<|qS<|qB<|gU Z<|sM Z<|bE h fun x52 h52 h=>eG h52 Z<|sC Z<|sA Z<|sA Z<|sN<|WC.cI Z Z ?_
       refine sM Z<|sM Z<|bE h fun x53 h53 h=>eG h53 Z<|sC Z<|sV (.ptr 32 12)<|sL Z<|sF h ?_ ?_<;>intro h
       ·refine sN<|sO<|cT<|WC.region Z Z<|sM Z<|sM Z<|sV (.d (.lst ([x52].map (PD.int .i64))))<|bE h fun x55 h55 h=>aR h55 (fun _=>Z) Z<|sA Z<|sN<|WC.region Z Z<|sV (rI (rW (s47+(1:Int))))<|sM Z<|sN ?_
        cases oI h
        exact⟨rfl,rfl⟩
       refine sN<|sO<|cF<|qK<|WC.region Z Z<|sV (rI (rW (s47+(1:Int))))<|sM Z<|sN ?_
       cases oI h
       exact⟨rfl,rfl⟩
      refine sN<|qS<|cF<|qX ?_
      cases oI h
      exact⟨nofun,rfl,rfl⟩
     intro e R' B' he hq
     obtain⟨rfl,hI⟩:=hq
     refine qE<|gS Z hI<|sM Z<|WO.vG Z Z Z Z Z Z Z Z Z<|sV (.ptr 32 13)<|sL Z<|sF h ?_ ?_<;>intro h
     ·refine sN<|cT<|gU Z<|sV (.ptr 256 0)<|sV (.d (aa.pd x42.1.aX))<|sV (.ptr 256 3)<|sL Z<|sV (.agg (.dO::aa.rc x42.1.aX++[rI x42.1.bn]))<|sB (.ptr 352 0) 352 (.var [.dO,r0,r0,r0,r0])<|sS 352 (.var (.dO::aa.rc x42.1.aX++[rI x42.1.bn]))<|sN<|qS<|gU Z<|sM Z<|WO.vG Z Z Z Z Z Z Z Z Z ?_
      refine sV (r0)<|sN<|bE h fun o75 ho75 h=>WC.block (WC.loop (WL.fV ho75 (fun s R' B'=>dN prog 0 (A R' B') (az.at_ 66 0 33)=some (A [(1,rM aj.pd a1),(2,.ptr 32 0),(8,.ref 2432 0),(9,.ref 2576 0),(10,rL x3),(11,.ptr 176 0),(22,.ptr 352 0),(127,.ref 1840 0),(128,rI (o57.length:Int)),(129,rI s.1)] [(32,.var (aG.rc a0)),(176,.var [.ref 560 0,.ref 561 0]),(352,.var (.ref 2288 0::aa.rc x42.1.aX++[rI x42.1.bn])),(560,.arr 0 3 (s.2.1.map (PD.int .i64))),(561,.arr 0 3 (s.2.2.1.map (PD.int .i64))),(1840,.arr 0 3 (o57.map (PD.int .i64))),(2288,.arr 0 3 (s.2.2.2.map (PD.int .i64))),(2432,.arr 0 142 (o40.2.1.map a8.pd)),(2576,.arr 0 3 (o40.2.2.map (PD.int .i64)))])) (fun o e R' B'=>e= .exit 6∧dN prog 0 (A R' B') (az.at_ 66 0 38)=some (A [(1,rM aj.pd a1),(2,.ptr 32 0),(8,.ref 2432 0),(9,.ref 2576 0),(10,rL x3),(11,.ptr 176 0),(22,.ptr 352 0)] [(32,.var (aG.rc a0)),(176,.var [.ref 560 0,.ref 561 0]),(352,.var (.ref 2288 0::aa.rc x42.1.aX++[rI x42.1.bn])),(560,.arr 0 3 (o.1.map (PD.int .i64))),(561,.arr 0 3 (o.2.1.map (PD.int .i64))),(2288,.arr 0 3 (o.2.2.map (PD.int .i64))),(2432,.arr 0 142 (o40.2.1.map a8.pd)),(2576,.arr 0 3 (o40.2.2.map (PD.int .i64)))])) Z ?_ ?_))
      ·rintro⟨s59,s60,s61,s62⟩ R' B' q66 hI h
       refine gS Z hI<|sF h ?_ ?_<;>intro h
       ·refine sN<|qS<|cT<|qK<|qS<|qB<|gU Z<|bE h fun x69 h69 h=>WO.qV h69 Z Z Z Z Z Z Z Z<|bE h fun x70 h70 h=>WO.oB h70 Z Z Z Z Z Z<|sA Z<|sN<|gU Z<|sV (.agg [.ref 560 0,.ref 561 0]) ?_
        refine sM Z<|bE h fun x71 h71 h=>cR (.tup []) [(560,.arr 0 3 (x71.1.map (PD.int .i64))),(561,.arr 0 3 (x71.2.map (PD.int .i64)))] (pa h71)<|sN<|WC.kT Z Z<|sV (.ptr 352 0)<|sL Z<|sM Z<|sM Z<|bE h fun x72 h72 h=>eG h72 Z<|sC Z<|sV (.d (.lst ([x72].map (PD.int .i64))))<|bE h fun x73 h73 h=>aR h73 (fun _=>Z) Z ?_
        refine sV (.ptr 352 0)<|sS 352 (.var (.ref 2288 1::aa.rc x42.1.aX++[rI x42.1.bn])) ?_
        refine sN<|sO<|WC.region Z Z<|sV (rI (rW (s59+(1:Int))))<|sM Z<|sN ?_
        cases oI h
        exact⟨rfl,rfl⟩
       refine sN<|qS<|cF<|qX ?_
       cases oI h
       exact⟨nofun,rfl,rfl⟩
      intro e R' B' he hq
      obtain⟨rfl,hI⟩:=hq
      refine qE<|gS Z hI<|sV (.ptr 352 0)<|sL Z<|bE h fun x76 h76 h=>cR (.tup []) [(2288,.arr 0 3 (x76.map (PD.int .i64)))] (qh h76)<|sN<|gU Z<|sM Z<|sV (.agg (.ref 2288 0::aa.rc x42.1.aX++[rI x42.1.bn]))<|sB (.d (.lst [a8.pd (a8.mk x76 x42.1.aX x42.1.bn)])) 2288 .dead<|bE h fun x77 h77 h=>aR h77 (fun _=>Z) Z<|sA Z<|sN ?_
      refine qX<|qE ?_
      cases oI h
      exact⟨rfl,rfl⟩
     exact sN<|cF<|qK<|⟨(o40.2.1,o40.2.2),rfl,h⟩
    exact sN<|cF<|qK<|⟨(s5,s6),rfl,h⟩
   rintro⟨j19,j20⟩ R' B' hI h
   refine gS Z hI<|sM Z<|sM Z<|sM Z<|bE h fun x21 h21 h=>eG h21 Z<|sC Z<|bE h fun x22 h22 h=>eG h22 Z<|sC Z<|sV (.d (.lst ([x22].map (PD.int .i64))))<|bE h fun x23 h23 h=>aR h23 (fun _=>Z) Z<|sA Z<|sN ?_
   refine WC.kT Z Z<|sV (.agg [.ref 560 0,.ref 561 0])<|sM Z<|bE h fun x24 h24 h=>eG h24 Z<|sC Z<|bE h fun x25 h25 h=>cR (.tup []) [(560,.arr 0 3 (x25.1.map (PD.int .i64))),(561,.arr 0 3 (x25.2.map (PD.int .i64)))] (pa h25) ?_
   refine sN<|sO ?_
   cases oI h
   exact⟨rfl,rfl⟩
  refine sN<|sO<|cF<|qX ?_
  cases oI h
  exact⟨nofun,rfl,rfl⟩
 intro e R' B' he hq
 rcases o79 with y80|r81
 ·obtain⟨rfl,hI⟩:=hq
  refine qE<|gS Z hI<|sM Z<|bE h fun x82 h82 h=>cR (.tup []) [(2576,.arr 0 3 (x82.map (PD.int .i64)))] (qh h82)<|sN<|gU Z<|sM Z<|sM Z<|sA Z<|sA Z<|sV (r0)<|sN<|qR ?_
  exact oI h▸qD
 obtain⟨rfl,hf⟩:=hq
 cases oI h
 exact hf
theorem rn{a0:ar}{a1:al}{a2:(List ai)}{r:aU×Int}(h:hJ a0 a1 a2=some r):EvP prog az ext 55 [.d (ar.pd a0),.d (al.pd a1),rM ai.pd a2] [] (.tup [.d (aU.pd r.1),rI r.2],[]):=by
 refine Ev.body Z Tryz.func55 Z Zk<|gU Z<|sB (.ptr 48 0) 48 (.var (ar.rc a0))<|sB (.ptr 64 0) 64 (.var [rM aq.pd a1.aJ])<|sB (.ptr 96 0) 96 (.var [.dO,.dO,.dO])<|sV (r0)<|sN<|gU Z<|sB (.ptr 128 0) 128 (.var [.dO,.dO,.dO])<|sN<|qS<|qB<|gU Z<|sV (.d (ar.pd a0))<|bE h fun x1 h1 h=>?_
 refine cD (iW h1)<|sF h ?_ ?_<;>intro h
 ·refine sA Z<|sN<|cT<|gU Z<|sV (.agg [.dO,.dO,.dO])<|sS 96 (.var [.dO,.dO,.dO])<|sV (rI 27)<|sN<|qR ?_
  cases oI h
  exact qG
 refine sA Z<|sN<|cF<|gU Z<|sV (.d (al.pd a1))<|bE h fun x3 h3 h=>cD (gJ h3)<|sF h ?_ ?_<;>intro h
 ·refine sA Z<|sN<|cT<|gU Z<|sV (.agg [.dO,.dO,.dO])<|sS 96 (.var [.dO,.dO,.dO])<|sV (rI 1)<|sN<|qR ?_
  cases oI h
  exact qG
 refine sA Z<|sN<|cF<|qK<|qS<|gU Z<|sM Z<|bE h fun x5 h5 h=>cD (pM h5)<|sE (rI (x5.length:Int)) (dX _ _)<|sV (r0)<|sN<|bE h fun o22 ho22 h=>WC.block (WC.loop (WL.fV ho22 (fun s R' B'=>dN prog 0 (A R' B') (az.at_ 55 0 7)=some (A [(3,.ptr 48 0),(4,.ptr 64 0),(6,.ptr 96 0),(8,.ptr 128 0),(25,rM ai.pd x5),(26,rI (x5.length:Int)),(27,rI s.1)] [(48,.var (ar.rc a0)),(64,.var [rM aq.pd a1.aJ]),(96,.var [.dO,.dO,.dO]),(128,.var [.ref 704 0,.ref 784 0,.ref 864 0]),(704,.arr 0 66 (s.2.1.map ai.pd)),(784,.arr 0 81 (s.2.2.1.map aj.pd)),(864,.arr 0 113 (s.2.2.2.map ap.pd))])) (fun o e R' B'=>e= .exit 1∧dN prog 0 (A R' B') (az.at_ 55 0 13)=some (A [(6,.ptr 96 0),(8,.ptr 128 0)] [(96,.var [.dO,.dO,.dO]),(128,.var [.ref 704 0,.ref 784 0,.ref 864 0]),(704,.arr 0 66 (o.1.map ai.pd)),(784,.arr 0 81 (o.2.1.map aj.pd)),(864,.arr 0 113 (o.2.2.map ap.pd))])) Z ?_ ?_))
 ·rintro⟨s6,s7,s8,s9⟩ R' B' q13 hI h
  refine gS Z hI<|sF h ?_ ?_<;>intro h
  ·refine sN<|qS<|cT<|qK<|qS<|qB<|gU Z<|bE h fun x15 h15 h=>eG h15 Z<|sV (.d (ai.pd x15))<|sB (.ptr 160 0) 160 (.var zZ2)<|sH 160 (.var (ai.rc x15))<|sN<|gU Z<|sV (.d (ar.pd a0)) ?_
   refine sV (.d (al.pd a1))<|sV (.d (ai.pd x15))<|bE h fun x16 h16 h=>cR (.tup [.d (aj.pd x16.1),.d (ap.pd x16.2.1),rB x16.2.2]) [] (oj h16)<|sM Z<|sV (.d (aj.pd x16.1))<|sV (.d (ap.pd x16.2.1))<|sV (rB x16.2.2)<|sB (.ptr 176 0) 176 (.var zZ4)<|sB (.ptr 192 0) 192 (.var zZ3)<|sH 176 (.var (aj.rc x16.1))<|sH 192 (.var (ap.rc x16.2.1))<|sA Z<|sN<|gU Z ?_
   refine sF h ?_ ?_<;>intro h
   ·refine sN<|cT<|WC.kT Z Z<|sV (.ptr 128 0)<|sL Z<|sV (.d (ai.pd x15))<|sG (.d (.lst ([x15].map ai.pd)))<|bE h fun x18 h18 h=>aR h18 (fun _=>Z) Z<|sV (.ptr 128 1)<|sL Z<|sV (.d (aj.pd x16.1))<|sV (.d (.lst ([x16.1].map aj.pd)))<|bE h fun x19 h19 h=>aR h19 (fun _=>Z) Z ?_
    refine sV (.ptr 128 2)<|sL Z<|sV (.d (ap.pd x16.2.1))<|sG (.d (.lst ([x16.2.1].map ap.pd)))<|bE h fun x20 h20 h=>aR h20 (fun _=>Z) Z<|sV (.ptr 128 0)<|sS 128 (.var [.ref 704 1,.ref 784 0,.ref 864 0])<|sV (.ptr 128 1)<|sS 128 (.var [.ref 704 1,.ref 784 1,.ref 864 0])<|sV (.ptr 128 2)<|sS 128 (.var [.ref 704 1,.ref 784 1,.ref 864 1]) ?_
    refine sN<|sO<|WC.region Z Z<|sV (rI (rW (s6+(1:Int))))<|sM Z<|sN ?_
    cases oI h
    exact⟨rfl,rfl⟩
   refine sN<|cF<|qK<|WC.region Z Z<|sV (rI (rW (s6+(1:Int))))<|sM Z<|sN ?_
   cases oI h
   exact⟨rfl,rfl⟩
  refine sN<|qS<|cF<|qX ?_
  cases oI h
  exact⟨nofun,rfl,rfl⟩
 intro e R' B' he hq
 obtain⟨rfl,hI⟩:=hq
 refine qE<|gS Z hI<|sV (.agg [.ref 704 0,.ref 784 0,.ref 864 0])<|sS 96 (.var [.ref 704 0,.ref 784 0,.ref 864 0])<|sV (r0)<|sN<|qR ?_
 exact oI h▸qD
theorem qo{a0:aU}{a1:ar}{r:ah×Int}(h:gl a0 a1=some r):EvP prog az ext 56 [.d (aU.pd a0),.d (ar.pd a1)] [] (.tup [.d (ah.pd r.1),rI r.2],[]):=by
 refine Ev.body Z Tryz.func56 Z Zk<|gU Z<|sB (.ptr 32 0) 32 (.var (aU.rc a0))<|sB (.ptr 48 0) 48 (.var (ar.rc a1))<|sB (.ptr 64 0) 64 (.var [r0,r0,r0,r0,r0,r0,r0,.dO,.dO,.dO,r0])<|sV (r0)<|sN<|qS<|gU Z<|sV (.ptr 32 1)<|sL Z<|sE (rI (a0.dj.length:Int)) (dX _ _)<|sA Z<|sN<|qB ?_
 refine gU Z<|sM Z<|sF h ?_ ?_<;>intro h
 ·refine sA Z<|sN<|cT<|gU Z<|sG (.agg [r0,r0,r0,r0,r0,r0,r0,.dO,.dO,.dO,r0])<|sH 64 (.var [r0,r0,r0,r0,r0,r0,r0,.dO,.dO,.dO,r0])<|sV (rI 24)<|sN<|qR ?_
  cases oI h
  exact qG
 refine sA Z<|sN<|cF<|gU Z<|sM Z<|sF h ?_ ?_<;>intro h
 ·refine sA Z<|sN<|cT<|gU Z<|sG (.agg [r0,r0,r0,r0,r0,r0,r0,.dO,.dO,.dO,r0])<|sH 64 (.var [r0,r0,r0,r0,r0,r0,r0,.dO,.dO,.dO,r0])<|sV (rI 8)<|sN<|qR ?_
  cases oI h
  exact qG
 refine sA Z<|sN<|cF<|qK<|gU Z<|sV (.ptr 48 0)<|sV (.d (aG.pd a1.ae))<|sB (.ptr 112 0) 112 (.var [r0,r0,r0,r0,r0,r0,r0,.dO,.dO,r0,r0,r0,r0,r0])<|sH 112 (.var (aG.rc a1.ae))<|sN<|WC.cI Z Z<|sV (.ptr 112 6)<|sV (.ptr 112 6)<|sL Z<|sV (.ptr 112 6) ?_
 refine sV (.ptr 112 7)<|sL Z<|bE h fun x3 h3 h=>cR (.ref 448 0) [(448,.arr 0 3 (x3.map (PD.int .i64)))] (clone_107 h3)<|sV (.ptr 112 6)<|sV (.ptr 112 8)<|sL Z<|bE h fun x4 h4 h=>cR (.ref 512 0) [(512,.arr 0 3 (x4.map (PD.int .i64)))] (clone_107 h4)<|sV (.agg [rI a1.ae.aW.aZ,.ref 448 0,.ref 512 0])<|sB (.ptr 128 0) 128 (.var [r0,.dO,.dO])<|sS 128 (.var [rI a1.ae.aW.aZ,.ref 448 0,.ref 512 0]) ?_
 refine sN<|sO<|gU Z<|sV (.ptr 112 0)<|sV (.d (ag.pd a1.ae.aM))<|sV (.agg [rI a1.ae.aW.aZ,.ref 448 0,.ref 512 0])<|sV (.ptr 32 1)<|sL Z<|sV (.ptr 112 9)<|sL Z<|sG (.agg (ag.rc a1.ae.aM++[rI a1.ae.aW.aZ,.ref 448 0,.ref 512 0,rM aj.pd a0.dj,rI a1.ae.cG]))<|sH 64 (.var (ag.rc a1.ae.aM++[rI a1.ae.aW.aZ,.ref 448 0,.ref 512 0,rM aj.pd a0.dj,rI a1.ae.cG]))<|sV (r0)<|sN<|qR ?_
 cases oI h
 exact qG
theorem nat_From_ev{a0:Int}{r:(List Int)×Int}(h:rJ a0=some r):EvP prog az ext 406 [rI a0] [] (.tup [rL r.1,rI r.2],[]):=by
 refine Ev.body Z Tryz.func406 Z Zk<|gU Z<|sV .dO<|sV (r0)<|sN<|qS<|gU Z<|sM Z<|sF h ?_ ?_<;>intro h
 ·refine sN<|cT<|gU Z<|sV .dO<|sV (rI 2)<|sN<|qR ?_
  exact oI h▸qD
 refine sN<|cF<|qK<|gU Z<|sV .dO<|sN<|qS<|bE h fun o10 ho10 h=>WC.block (WC.loop (WL.fV ho10 (fun s R' B'=>dN prog 0 (A R' B') (az.at_ 406 0 4)=some (A [(0,rI s.1),(4,.ref 240 0)] [(240,.arr 0 3 (s.2.map (PD.int .i64)))])) (fun o e R' B'=>e= .exit 0∧dN prog 0 (A R' B') (az.at_ 406 0 7)=some (A [(4,.ref 240 0)] [(240,.arr 0 3 (o.map (PD.int .i64)))])) Z ?_ ?_))
 ·rintro⟨s2,s3⟩ R' B' q5 hI h
  refine qS<|gS Z hI<|sM Z<|sF h ?_ ?_<;>intro h
  ·refine sN<|cT<|qK<|qS<|qB<|WC.region Z Z<|sM Z<|sM Z<|bE h fun x7 h7 h=>WO.remG h7 Z Z Z Z Z Z<|sV (.d (.lst ([x7].map (PD.int .i64))))<|bE h fun x8 h8 h=>aR h8 (fun _=>Z) Z<|sA Z<|sN ?_
   refine WC.region Z Z<|sM Z<|sV (rI (jf .i64 s2 (30:Int)))<|sA Z<|sN ?_
   cases oI h
   exact⟨rfl,rfl⟩
  refine sN<|cF<|qX ?_
  cases oI h
  exact⟨nofun,rfl,rfl⟩
 intro e R' B' he hq
 obtain⟨rfl,hI⟩:=hq
 refine qE<|gS Z hI<|sM Z<|sA Z<|sV (r0)<|sN<|qR ?_
 exact oI h▸qD
theorem nA{a0:Int}{r:Bool}(h:m8 a0=some r):EvP prog az ext 388 [rI a0] [] (rB r,[]):=by
 refine Ev.body Z Tryz.func388 Z Zk<|gU Z<|sU<|sN<|gU Z<|sM Z<|sF h ?_ ?_<;>intro h
 ·refine sM Z<|sK<|sK<|sT<|sA Z<|sN<|qR ?_
  exact oI h▸qD
 refine sM Z<|sM Z<|sV (rB (decide (a0>=(1073741824:Int))))<|sV (rB (decide (a0>=(1073741824:Int))))<|sA Z<|sN<|qR ?_
 exact oI h▸qD
theorem l7{a0:(List Int)}{r:Int}(h:fi a0=some r):EvP prog az ext 411 [rL a0,.d (.raw (.func (.func 388) #[] #[]))] [] (rI r,[]):=by
 refine Ev.body Z Tryz.func411 Z Zk<|gU Z<|sV (r0)<|sN<|qS<|gU Z<|sM Z<|sE (rI (a0.length:Int)) (dX _ _)<|sV (r0)<|sN<|bE h fun o8 ho8 h=>WC.block (WC.loop (WL.fV ho8 (fun s R' B'=>dN prog 0 (A R' B') (az.at_ 411 0 2)=some (A [(0,rL a0),(1,.d (.raw (.func (.func 388) #[] #[]))),(7,rI (a0.length:Int)),(8,rI s)] [])) (fun o e R' B'=>match o with| .inl y=>e= .exit 0∧dN prog 0 (A R' B') (az.at_ 411 0 7)=some (A [] [])| .inr r=>e= .ret∧finish prog (az.own 411) Tryz.f411 0 (A R' B')=some (rI r,[])) Z ?_ ?_))
 ·rintro s1 R' B' q2 hI h
  refine gS Z hI<|sF h ?_ ?_<;>intro h
  ·refine sN<|qS<|cT<|qK<|qS<|qB<|gU Z<|sM Z<|sA Z<|sN<|gU Z<|sM Z<|sM Z<|sM Z<|bE h fun x4 h4 h=>?_
   refine eG h4 Z<|sC Z<|bE h fun x5 h5 h=>ir h (fun hb6 h=>?_) (fun hb6 h=>?_)
   ·refine WO.lE (v:=rB true) (u:=[]) Z Z (fun _=>Z) Z Z Z Z Z (nA h5) Z Z (congrArg (fun b=>RV.d (.bool b)) hb6) Z<|sN<|cT<|gU Z<|sM Z<|sA Z<|sN<|qR ?_
    cases oI h
    exact⟨nofun,rfl,rfl⟩
   refine WO.lE (v:=rB false) (u:=[]) Z Z (fun _=>Z) Z Z Z Z Z (nA h5) Z Z (congrArg (fun b=>RV.d (.bool b)) hb6) Z<|sN<|cF<|qK<|WC.region Z Z<|sV (rI (rW (s1+(1:Int))))<|sM Z<|sN ?_
   cases oI h
   exact⟨rfl,rfl⟩
  refine sN<|qS<|cF<|qX ?_
  cases oI h
  exact⟨nofun,rfl,rfl⟩
 intro e R' B' he hq
 rcases o8 with y9|r10
 ·obtain⟨rfl,hI⟩:=hq
  refine qE<|gS Z hI<|sV (rI (-1))<|sN<|qR ?_
  exact oI h▸qD
 obtain⟨rfl,hf⟩:=hq
 cases oI h
 exact hf
theorem fP{a0:(List Int)}{r:Bool}(h:cK a0=some r):EvP prog az ext 387 [rL a0,.d (.raw (.func (.func 388) #[] #[]))] [] (rB r,[]):=by
 refine Ev.body Z Tryz.func387 Z Zk<|gU Z<|sU<|sN<|gU Z<|sM Z<|sM Z<|bE h fun x1 h1 h=>cD (l7 h1)<|sV (rB (decide (x1>=(0:Int))))<|sA Z<|sN<|qR ?_
 exact oI h▸qD
theorem gP{a0:(List Int)}{r:Bool}(h:kg a0=some r):EvP prog az ext 338 [rL a0] [] (rB r,[]):=by
 refine Ev.body Z Tryz.func338 Z Zk<|gU Z<|sU<|sN<|qS<|gU Z<|sM Z<|sE (rI (a0.length:Int)) (dX _ _)<|sF h ?_ ?_<;>intro h
 ·refine sM Z<|k3<|k3<|k3<|k3<|sT<|sN ?_
  refine cT<|gU Z<|sU<|sN<|qR ?_
  exact oI h▸qD
 refine sM Z<|sM Z<|sE (rI (a0.length:Int)) (dX _ _)<|sF h ?_ ?_<;>intro h
 ·refine sM Z<|sM Z<|sM Z<|sE (rI (a0.length:Int)) (dX _ _)<|sV (rI (rW ((a0.length:Int)-(1:Int))))<|bE h fun x3 h3 h=>eG h3 Z<|sC Z<|sV (rB (x3==(0:Int)))<|sV (rB (x3==(0:Int)))<|sF h ?_ ?_<;>intro h
  ·refine sN<|cT<|gU Z<|sU<|sN<|qR ?_
   exact oI h▸qD
  refine sN<|cF<|qK<|gU Z<|sM Z<|bE h fun x5 h5 h=>cD (fP h5)<|sV (rB (!x5))<|sA Z<|sN<|qR ?_
  exact oI h▸qD
 refine sM Z<|k3<|k3<|sK<|sU<|sU<|sN<|cF<|qK<|gU Z<|sM Z ?_
 refine bE h fun x6 h6 h=>cD (fP h6)<|sV (rB (!x6))<|sA Z<|sN<|qR ?_
 exact oI h▸qD
theorem nat_both_ev{a0:(List Int)}{a1:(List Int)}{r:Bool}(h:pJ a0 a1=some r):EvP prog az ext 420 [rL a0,rL a1] [] (rB r,[]):=by
 refine Ev.body Z Tryz.func420 Z Zk<|gU Z<|sU<|sN<|gU Z<|sM Z<|bE h fun x1 h1 h=>ir h (fun hb2 h=>?_) (fun hb2 h=>?_)
 ·refine WO.lE (v:=rB true) (u:=[]) Z Z (fun _=>Z) Z Z Z Z Z (gP h1) Z Z (congrArg (fun b=>RV.d (.bool b)) hb2) Z<|sM Z<|sM Z<|bE h fun x3 h3 h=>cD (gP h3)<|sV (rB x3)<|sA Z<|sN<|qR ?_
  exact oI h▸qD
 refine WO.lE (v:=rB false) (u:=[]) Z Z (fun _=>Z) Z Z Z Z Z (gP h1) Z Z (congrArg (fun b=>RV.d (.bool b)) hb2) Z<|sM Z<|sK<|sK<|sU<|sA Z<|sN<|qR ?_
 exact oI h▸qD
theorem oK{a0:(List Int)}{a1:Int}{r:Int}(h:mQ a0 a1=some r):EvP prog az ext 410 [rL a0,rI a1] [] (rI r,[]):=by
 refine Ev.body Z Tryz.func410 Z Zk<|gU Z<|sV (r0)<|sN<|qS<|gU Z<|sM Z<|sM Z<|sE (rI (a0.length:Int)) (dX _ _)<|sF h ?_ ?_<;>intro h
 ·refine sN<|cT<|gU Z<|sV (r0)<|sN<|qR ?_
  exact oI h▸qD
 refine sN<|cF<|qK<|gU Z<|sM Z<|sM Z<|bE h fun x2 h2 h=>eG h2 Z<|sC Z<|sA Z<|sN<|qR ?_
 exact oI h▸qD
theorem nat_trim_ev{a0:(List Int)}{r:(List Int)}(h:pK a0=some r):EvP prog az ext 409 [rL a0] [] (rL r,[]):=by
 refine Ev.body Z Tryz.func409 Z Zk<|gU Z<|sV .dO<|sN<|qS<|bE h fun o9 ho9 h=>WC.block (WC.loop (WL.fV ho9 (fun s R' B'=>dN prog 0 (A R' B') (az.at_ 409 0 1)=some (A [(0,rL s)] [])) (fun o e R' B'=>e= .exit 0∧dN prog 0 (A R' B') (az.at_ 409 0 3)=some (A [(0,rL o)] [])) Z ?_ ?_))
 ·rintro s1 R' B' q3 hI h
  refine qS<|gS Z hI<|sM Z<|sE (rI (s1.length:Int)) (dX _ _)<|sF h ?_ ?_<;>intro h
  ·refine sM Z<|sM Z<|sM Z<|sE (rI (s1.length:Int)) (dX _ _)<|sV (rI (rW ((s1.length:Int)-(1:Int))))<|bE h fun x5 h5 h=>eG h5 Z<|sC Z<|sV (rB (x5==(0:Int)))<|sF h ?_ ?_<;>intro h
   ·refine sN<|cT<|qK<|qB<|WC.region Z Z<|sM Z<|sM Z<|sE (rI (s1.length:Int)) (dX _ _)<|sV (rI (rW ((s1.length:Int)-(1:Int))))<|bE h fun x7 h7 h=>WO.cutL (sz:=1) (g:=(PD.int .i64)) h7 (fun _=>Z) Z Z Z Z Z Z Z Z Z Z Z<|sA Z<|sN ?_
    cases oI h
    exact⟨rfl,rfl⟩
   refine sN<|cF<|qX ?_
   cases oI h
   exact⟨nofun,rfl,rfl⟩
  refine sM Z<|k3<|k3<|sK<|sU<|sN<|cF<|qX ?_
  cases oI h
  exact⟨nofun,rfl,rfl⟩
 intro e R' B' he hq
 obtain⟨rfl,hI⟩:=hq
 refine qE<|gS Z hI<|sM Z<|sA Z<|sN<|qR ?_
 exact oI h▸qD
theorem mj{a0:(List Int)}{a1:(List Int)}{r:(List Int)}(h:ji a0 a1=some r):EvP prog az ext 386 [rL a0,rL a1] [] (rL r,[]):=by
 refine Ev.body Z Tryz.func386 Z Zk<|gU Z<|sV .dO<|sN<|gU Z<|sM Z<|sE (rI (a0.length:Int)) (dX _ _)<|sM Z<|sE (rI (a1.length:Int)) (dX _ _)<|sV (rI (rW ((a0.length:Int)+(a1.length:Int))))<|bE h fun x1 h1 h=>WO.mkS (g:=(PD.int .i64)) h1 Z Z Z Z Z Z Z Z Z Z Z<|sA Z<|sN<|qS ?_
 refine gU Z<|sM Z<|sE (rI (a0.length:Int)) (dX _ _)<|sV (r0)<|sN<|bE h fun o27 ho27 h=>WC.block (WC.loop (WL.fV ho27 (fun s R' B'=>dN prog 0 (A R' B') (az.at_ 386 0 3)=some (A [(1,rL a1),(5,.ref 240 0),(16,rL a0),(17,rI (a0.length:Int)),(18,rI s.1)] [(240,.arr 0 3 (s.2.map (PD.int .i64)))])) (fun o e R' B'=>e= .exit 0∧dN prog 0 (A R' B') (az.at_ 386 0 15)=some (A [(5,.ref 240 0)] [(240,.arr 0 3 (o.map (PD.int .i64)))])) Z ?_ ?_))
 ·rintro⟨s2,s3⟩ R' B' q5 hI h
  refine gS Z hI<|sF h ?_ ?_<;>intro h
  ·refine sN<|qS<|cT<|qK<|qS<|qB<|gU Z<|sM Z<|bE h fun x7 h7 h=>eG h7 Z<|sC Z<|sA Z<|sA Z<|sN<|gU Z ?_
   refine sV (r0)<|sN<|gU Z<|sM Z<|sE (rI (a1.length:Int)) (dX _ _)<|sV (rI (rW ((a1.length:Int)+(1:Int))))<|sV (r0)<|sN<|bE h fun o25 ho25 h=>WC.block (WC.loop (WL.fV ho25 (fun s R' B'=>dN prog 0 (A R' B') (az.at_ 386 0 7)=some (A [(1,rL a1),(5,.ref 240 0),(6,rI s2),(7,rI x7),(8,rI s.1),(16,rL a0),(17,rI (a0.length:Int)),(18,rI s2),(25,rI (rW ((a1.length:Int)+(1:Int)))),(26,rI s.2.1)] [(240,.arr 0 3 (s.2.2.map (PD.int .i64)))])) (fun o e R' B'=>e= .exit 2∧dN prog 0 (A R' B') (az.at_ 386 0 14)=some (A [(1,rL a1),(5,.ref 240 0),(16,rL a0),(17,rI (a0.length:Int)),(18,rI o.1)] [(240,.arr 0 3 (o.2.map (PD.int .i64)))])) Z ?_ ?_))
   ·rintro⟨s8,s9,s10⟩ R' B' q13 hI h
    refine gS Z hI<|sF h ?_ ?_<;>intro h
    ·refine sN<|qS<|cT<|qK<|qS<|qB<|gU Z<|sM Z<|sA Z<|sN<|gU Z<|sM Z<|sM Z<|sV (rI (rW (s2+s9)))<|sM Z ?_
     refine WO.vG Z Z Z Z Z Z Z Z Z<|sF h ?_ ?_<;>intro h
     ·refine sN<|cT<|WC.cI Z Z<|sM Z<|sM Z<|sM Z<|sM Z<|sV (rI (rW (s2+s9)))<|bE h fun x17 h17 h=>WO.qV h17 Z Z Z Z Z Z Z Z<|bE h fun x18 h18 h=>WO.oB h18 Z Z Z Z Z Z<|sM Z<|sM Z<|sM Z ?_
      refine bE h fun x19 h19 h=>cD (oK h19)<|sV (rI (rW (x7*x19)))<|sV (rI (rW (x18+(rW (x7*x19)))))<|sV (rI (rW (s8+(rW (x18+(rW (x7*x19)))))))<|sA Z ?_
      refine sN<|sO<|gU Z<|sM Z<|sM Z<|sM Z<|sV (rI (rW (s2+s9)))<|sM Z<|bE h fun x20 h20 h=>WO.remG h20 Z Z Z Z Z Z<|bE h fun x22 h22 h=>WO.qV h22 Z Z Z Z Z Z Z Z<|bE h fun x23 h23 h=>WO.th (g:=(PD.int .i64)) (sz:=1) (p:= .int .i64 x20) h23 (fun _=>Z) (fun _=>Z) Z Z Z Z Z Z Z Z Z<|sN<|WC.region Z Z ?_
      refine sM Z<|sV (rI (jf .i64 (rW (s8+(rW (x18+(rW (x7*x19)))))) (30:Int)))<|sA Z<|sN<|WC.region Z Z<|sV (rI (rW (s9+(1:Int))))<|sM Z<|sN ?_
      cases oI h
      exact⟨rfl,rfl⟩
     refine sN<|cF<|qK<|WC.region Z Z<|sV (rI (rW (s9+(1:Int))))<|sM Z<|sN ?_
     cases oI h
     exact⟨rfl,rfl⟩
    refine sN<|qS<|cF<|qX ?_
    cases oI h
    exact⟨nofun,rfl,rfl⟩
   intro e R' B' he hq
   obtain⟨rfl,hI⟩:=hq
   refine qE<|WC.region hI Z<|sV (rI (rW (o25.1+(1:Int))))<|sM Z<|sN ?_
   cases oI h
   exact⟨rfl,rfl⟩
  refine sN<|qS<|cF<|qX ?_
  cases oI h
  exact⟨nofun,rfl,rfl⟩
 intro e R' B' he hq
 obtain⟨rfl,hI⟩:=hq
 refine qE<|gS Z hI<|sM Z<|bE h fun x28 h28 h=>cR (rL x28) [(240,.dead)] (nat_trim_ev h28)<|sA Z<|sN<|qR ?_
 exact oI h▸qD
theorem kL{a0:(List Int)}{r:(List Int)×Int}(h:iL a0=some r):EvP prog az ext 385 [rL a0] [] (.tup [rL r.1,rI r.2],[]):=by
 refine Ev.body Z Tryz.func385 Z Zk<|gU Z<|sV .dO<|sV (r0)<|sN<|qS<|gU Z<|sM Z<|bE h fun x1 h1 h=>cD (nat_trim_ev h1)<|sA Z<|sN<|gU Z<|sM Z<|sE (rI (x1.length:Int)) (dX _ _) ?_
 refine sF h ?_ ?_<;>intro h
 ·refine sN<|cT<|gU Z<|sV .dO<|sV (rI 8)<|sN<|qR ?_
  exact oI h▸qD
 refine sN<|cF<|qK<|gU Z<|sM Z<|sA Z<|sV (r0)<|sN<|qR ?_
 exact oI h▸qD
theorem nat_Mul_ev{a0:(List Int)}{a1:(List Int)}{r:(List Int)×Int}(h:nat_Mul a0 a1=some r):EvP prog az ext 407 [rL a0,rL a1] [] (.tup [rL r.1,rI r.2],[]):=by
 refine Ev.body Z Tryz.func407 Z Zk<|gU Z<|sV .dO<|sV (r0)<|sN<|qS<|gU Z<|sM Z<|sM Z<|bE h fun x1 h1 h=>cD (nat_both_ev h1)<|sF h ?_ ?_<;>intro h
 ·refine sN<|cT<|gU Z<|sV .dO<|sV (rI 1)<|sN<|qR ?_
  exact oI h▸qD
 refine sN<|cF<|qK<|gU Z<|sM Z<|sM Z<|bE h fun x3 h3 h=>cD (mj h3)<|bE h fun x4 h4 h=>cR (.tup [rL x4.1,rI x4.2]) [] (kL h4)<|sV (rL x4.1)<|sV (rI x4.2)<|sA Z<|sA Z<|sN ?_
 refine qR ?_
 exact oI h▸qD
theorem dV{a0:Int}{r:(List Int)}(h:dq a0=some r):EvP prog az ext 381 [rI a0] [] (rL r,[]):=by
 refine Ev.body Z Tryz.func381 Z Zk<|gU Z<|sV .dO<|sN<|gU Z<|sM Z<|sM Z<|sV (rI (rW (0-a0)))<|sV (rI (if(rW (0-a0))>a0 then(rW (0-a0))else a0))<|bE h fun x1 h1 h=>cR (.tup [rL x1.1,rI x1.2]) [] (nat_From_ev h1)<|sM Z<|sV (rL x1.1)<|sV (rI x1.2)<|sA Z ?_
 refine sA Z<|sN<|gU Z<|sM Z<|sM Z<|bE h fun x2 h2 h=>cR (.tup [rL x2.1,rI x2.2]) [] (nat_Mul_ev h2)<|sM Z<|sV (rL x2.1)<|sV (rI x2.2)<|sA Z<|sA Z<|sN<|gU Z<|sM Z ?_
 refine sA Z<|sN<|qR ?_
 exact oI h▸qD
theorem nat_Add_ev{a0:(List Int)}{a1:(List Int)}{r:(List Int)×Int}(h:nat_Add a0 a1=some r):EvP prog az ext 408 [rL a0,rL a1] [] (.tup [rL r.1,rI r.2],[]):=by
 refine Ev.body Z Tryz.func408 Z Zk<|gU Z<|sV .dO<|sV (r0)<|sN<|qS<|gU Z<|sM Z<|sM Z<|bE h fun x1 h1 h=>cD (nat_both_ev h1)<|sF h ?_ ?_<;>intro h
 ·refine sN<|cT<|gU Z<|sV .dO<|sV (rI 1)<|sN<|qR ?_
  exact oI h▸qD
 refine sN<|cF<|qK<|gU Z<|sV .dO<|sN<|gU Z<|sV (r0)<|sN<|qS<|gU Z<|sM Z<|sE (rI (a0.length:Int)) (dX _ _)<|sM Z<|sE (rI (a1.length:Int)) (dX _ _) ?_
 refine sV (rI (if(a1.length:Int)>(a0.length:Int)then(a1.length:Int)else(a0.length:Int)))<|sV (rI (rW ((if(a1.length:Int)>(a0.length:Int)then(a1.length:Int)else(a0.length:Int))+(1:Int))))<|sV (r0)<|sN<|bE h fun o14 ho14 h=>WC.block (WC.loop (WL.fV ho14 (fun s R' B'=>dN prog 0 (A R' B') (az.at_ 408 0 6)=some (A [(0,rL a0),(1,rL a1),(6,.ref 560 0),(7,rI s.1),(18,rI (rW ((if(a1.length:Int)>(a0.length:Int)then(a1.length:Int)else(a0.length:Int))+(1:Int)))),(19,rI s.2.1)] [(560,.arr 0 3 (s.2.2.map (PD.int .i64)))])) (fun o e R' B'=>e= .exit 0∧dN prog 0 (A R' B') (az.at_ 408 0 12)=some (A [(6,.ref 560 0)] [(560,.arr 0 3 (o.map (PD.int .i64)))])) Z ?_ ?_))
 ·rintro⟨s3,s4,s5⟩ R' B' q7 hI h
  refine gS Z hI<|sF h ?_ ?_<;>intro h
  ·refine sN<|qS<|cT<|qK<|qS<|qB<|gU Z<|sM Z<|sA Z<|sN<|gU Z<|sM Z<|sM Z<|sM Z<|bE h fun x9 h9 h=>?_
   refine cD (oK h9)<|sM Z<|sM Z<|bE h fun x10 h10 h=>cD (oK h10)<|sV (rI (rW (x9+x10)))<|sV (rI (rW (s3+(rW (x9+x10)))))<|sA Z<|sN<|gU Z<|sM Z<|sM Z<|bE h fun x11 h11 h=>WO.remG h11 Z Z Z Z Z Z<|sV (.d (.lst ([x11].map (PD.int .i64)))) ?_
   refine bE h fun x12 h12 h=>aR h12 (fun _=>Z) Z<|sA Z<|sN<|WC.region Z Z<|sM Z<|sV (rI (jf .i64 (rW (s3+(rW (x9+x10)))) (30:Int)))<|sA Z<|sN<|WC.region Z Z<|sV (rI (rW (s4+(1:Int))))<|sM Z<|sN ?_
   cases oI h
   exact⟨rfl,rfl⟩
  refine sN<|qS<|cF<|qX ?_
  cases oI h
  exact⟨nofun,rfl,rfl⟩
 intro e R' B' he hq
 obtain⟨rfl,hI⟩:=hq
 refine qE<|gS Z hI<|sM Z<|bE h fun x15 h15 h=>cR (.tup [rL x15.1,rI x15.2]) [(560,.dead)] (kL h15)<|sV (rL x15.1)<|sV (rI x15.2)<|sA Z<|sA Z<|sN<|qR ?_
 exact oI h▸qD
theorem mB{a0:aS}{a1:Int}{a2:Int}{r:(List Int)}(h:gt a0 a1 a2=some r):EvP prog az ext 382 [.d (aS.pd a0),rI a1,rI a2] [] (rL r,[]):=by
 refine Ev.body Z Tryz.func382 Z Zk<|gU Z<|sB (.ptr 48 0) 48 (.var [rI a0.a0,rI a0.a1,rI a0.a2])<|sV .dO<|sN<|WC.cI Z Z<|sV (.ptr 48 0)<|sL Z<|sM Z<|sV (rI (rW (a0.a0*a2)))<|sM Z<|sV (rI (rW ((rW (a0.a0*a2))*a2)))<|sV (.ptr 48 2)<|sL Z<|sM Z ?_
 refine sV (rI (rW (a0.a2*a1)))<|sM Z<|sV (rI (rW ((rW (a0.a2*a1))*a1)))<|sV (rI (rW ((rW ((rW (a0.a0*a2))*a2))-(rW ((rW (a0.a2*a1))*a1)))))<|bE h fun x1 h1 h=>cD (dV h1)<|sV (.ptr 48 1)<|sL Z<|sM Z<|sV (rI (rW (a0.a1*a1)))<|sM Z<|sV (rI (rW ((rW (a0.a1*a1))*a2)))<|bE h fun x2 h2 h=>cD (dV h2)<|bE h fun x3 h3 h=>?_
 refine cR (.tup [rL x3.1,rI x3.2]) [] (nat_Add_ev h3)<|sM Z<|sV (rL x3.1)<|sV (rI x3.2)<|sA Z<|sA Z ?_
 refine sN<|sO<|gU Z<|sM Z<|sA Z<|sN<|qR ?_
 exact oI h▸qD
theorem response_gain_ev{a0:aD}{a1:Int}{a2:Int}{r:aO×Bool}(h:lN a0 a1 a2=some r):EvP prog az ext 336 [.d (aD.pd a0),rI a1,rI a2] [] (.tup [.d (aO.pd r.1),rB r.2],[]):=by
 refine Ev.body Z Tryz.func336 Z Zk<|gU Z<|sB (.ptr 48 0) 48 (.var (aD.rc a0))<|sB (.ptr 96 0) 96 (.var [.dO,.dO])<|sU<|sN<|qS<|gU Z<|sV (.ptr 48 0)<|sL Z<|sN<|qB<|gU Z<|sF h ?_ ?_<;>intro h
 ·refine sA Z<|sN<|cT<|WC.cI Z Z<|sV (.ptr 48 1)<|sV (.ptr 48 1)<|sL Z<|bE h fun x2 h2 h=>cD (dV h2)<|sV (.ptr 48 4)<|sV (.ptr 48 4)<|sL Z<|bE h fun x3 h3 h=>cD (dV h3)<|sV (.d (.agg [.lst (x2.map (PD.int .i64)),.lst (x3.map (PD.int .i64))])) ?_
  refine sS 96 (.var [rL x2,rL x3])<|sT ?_
  refine sN<|sO<|qR ?_
  cases oI h
  exact qG
 refine sA Z<|sN<|cF<|gU Z<|sF h ?_ ?_<;>intro h
 ·refine sA Z<|sN<|cT<|WC.cI Z Z<|sV (.ptr 48 1)<|sV (.d (aS.pd a0.bd))<|sM Z<|sM Z<|bE h fun x5 h5 h=>cD (mB h5)<|sV (.ptr 48 4)<|sV (.d (aS.pd a0.aY))<|sM Z<|sM Z<|bE h fun x6 h6 h=>?_
  refine cD (mB h6)<|sV (.d (.agg [.lst (x5.map (PD.int .i64)),.lst (x6.map (PD.int .i64))]))<|sB (.ptr 128 0) 128 (.var [.dO,.dO])<|sS 128 (.var [rL x5,rL x6]) ?_
  refine sN<|sO<|WC.cI Z Z<|sV (.d (.agg [.lst (x5.map (PD.int .i64)),.lst (x6.map (PD.int .i64))]))<|sV (.ptr 128 1)<|sL Z<|sE (rI (x6.length:Int)) (dX _ _)<|sV (rB (decide ((x6.length:Int)>(0:Int))))<|sS 96 (.var [rL x5,rL x6])<|sA Z ?_
  refine sN<|sO<|qR ?_
  cases oI h
  exact qG
 refine sA Z<|sN<|cF<|qK<|WC.cI Z Z<|sV (.ptr 48 7)<|sL Z<|bE h fun x7 h7 h=>cD (jR h7)<|bE h fun x8 h8 h=>cD (dV h8)<|sV (.ptr 48 9)<|sL Z<|bE h fun x9 h9 h=>WO.shlG h9 Z Z Z Z Z ?_
 refine bE h fun x10 h10 h=>cD (dV h10)<|sV (.d (.agg [.lst (x8.map (PD.int .i64)),.lst (x10.map (PD.int .i64))]))<|sS 96 (.var [rL x8,rL x10])<|sT ?_
 refine sN<|sO<|qR ?_
 cases oI h
 exact qG
theorem lU{a0:aO}{r:Bool}(h:fJ a0=some r):EvP prog az ext 384 [.d (aO.pd a0)] [] (rB r,[]):=by
 refine Ev.body Z Tryz.func384 Z Zk<|gU Z<|sB (.ptr 16 0) 16 (.var (aO.rc a0))<|sU<|sN<|gU Z<|sV (.ptr 16 0)<|sL Z<|bE h fun x1 h1 h=>ir h (fun hb2 h=>?_) (fun hb2 h=>?_)
 ·refine WO.lE (v:=rB true) (u:=[]) Z Z (fun _=>Z) Z Z Z Z Z (gP h1) Z Z (congrArg (fun b=>RV.d (.bool b)) hb2) Z<|sM Z<|sV (.ptr 16 1)<|sL Z<|bE h fun x3 h3 h=>cD (gP h3)<|sF h ?_ ?_<;>intro h
  ·refine sM Z<|sV (.ptr 16 1)<|sL Z<|sE (rI (a0.aY.length:Int)) (dX _ _)<|sV (rB (decide ((a0.aY.length:Int)>(0:Int))))<|sV (rB (decide ((a0.aY.length:Int)>(0:Int))))<|sA Z<|sN<|qR ?_
   exact oI h▸qD
  refine sM Z<|k3<|sK<|sU<|sA Z<|sN<|qR ?_
  exact oI h▸qD
 refine WO.lE (v:=rB false) (u:=[]) Z Z (fun _=>Z) Z Z Z Z Z (gP h1) Z Z (congrArg (fun b=>RV.d (.bool b)) hb2) Z<|sM Z<|k3<|sU<|sM Z<|k3<|sK<|sU<|sA Z<|sN<|qR ?_
 exact oI h▸qD
theorem nat_Times_ev{a0:aO}{a1:aO}{r:aO×Int}(h:qb a0 a1=some r):EvP prog az ext 337 [.d (aO.pd a0),.d (aO.pd a1)] [] (.tup [.d (aO.pd r.1),rI r.2],[]):=by
 refine Ev.body Z Tryz.func337 Z Zk<|gU Z<|sB (.ptr 32 0) 32 (.var (aO.rc a0))<|sB (.ptr 48 0) 48 (.var (aO.rc a1))<|sB (.ptr 64 0) 64 (.var [.dO,.dO])<|sV (r0)<|sN<|qS<|gU Z<|sV (.d (aO.pd a0))<|bE h fun x1 h1 h=>cD (lU h1)<|sF h ?_ ?_<;>intro h
 ·refine sM Z<|k3<|sT<|sN<|cT<|gU Z<|sV (.agg [.dO,.dO])<|sS 64 (.var [.dO,.dO])<|sV (rI 1)<|sN<|qR ?_
  exact oI h▸qD
 refine sM Z<|sV (.d (aO.pd a1))<|bE h fun x3 h3 h=>cD (lU h3)<|sV (rB (!x3))<|sF h ?_ ?_<;>intro h
 ·refine sN<|cT<|gU Z<|sV (.agg [.dO,.dO])<|sS 64 (.var [.dO,.dO])<|sV (rI 1)<|sN<|qR ?_
  exact oI h▸qD
 refine sN<|cF<|qK<|gU Z<|sV (.ptr 32 0)<|sL Z<|sV (.ptr 48 0)<|sL Z<|bE h fun x5 h5 h=>cD (mj h5)<|bE h fun x6 h6 h=>cR (.tup [rL x6.1,rI x6.2]) [] (kL h6)<|sM Z<|sV (rL x6.1)<|sV (rI x6.2) ?_
 refine sA Z<|sA Z<|sN<|gU Z<|sV (.ptr 32 1)<|sL Z<|sV (.ptr 48 1)<|sL Z<|bE h fun x7 h7 h=>cD (mj h7)<|bE h fun x8 h8 h=>cR (.tup [rL x8.1,rI x8.2]) [] (kL h8)<|sM Z<|sV (rL x8.1)<|sV (rI x8.2) ?_
 refine sA Z<|sA Z<|sN<|qS<|gU Z<|sM Z<|sF h ?_ ?_<;>intro h
 ·refine sM Z<|sK<|sK<|sT<|sN<|cT<|gU Z<|sV (.agg [.dO,.dO])<|sS 64 (.var [.dO,.dO])<|sV (rI 8)<|sN<|qR ?_
  exact oI h▸qD
 refine sM Z<|sM Z<|sV (rB (x8.2 != (0:Int)))<|sF h ?_ ?_<;>intro h
 ·refine sN<|cT<|gU Z<|sV (.agg [.dO,.dO])<|sS 64 (.var [.dO,.dO])<|sV (rI 8)<|sN<|qR ?_
  exact oI h▸qD
 refine sN<|cF<|qK<|gU Z<|sM Z<|sM Z<|sV (.d (.agg [.lst (x6.1.map (PD.int .i64)),.lst (x8.1.map (PD.int .i64))]))<|sS 64 (.var [rL x6.1,rL x8.1])<|sV (r0)<|sN<|qR ?_
 exact oI h▸qD
theorem response_Gain_ev{a0:aL}{a1:Int}{a2:Int}{r:aO×Int}(h:lM a0 a1 a2=some r):EvP prog az ext 273 [.d (aL.pd a0),rI a1,rI a2] [] (.tup [.d (aO.pd r.1),rI r.2],[]):=by
 refine Ev.body Z Tryz.func273 Z Zk<|gU Z<|sB (.ptr 48 0) 48 (.var [rM aD.pd a0.aV])<|sB (.ptr 96 0) 96 (.var [.dO,.dO])<|sV (r0)<|sN<|qS<|gU Z<|sV (.d (aL.pd a0))<|bE h fun x1 h1 h=>cD (nI h1)<|sF h ?_ ?_<;>intro h
 ·refine sN<|cT<|gU Z<|sV (.agg [.dO,.dO])<|sS 96 (.var [.dO,.dO])<|sV (rI 1)<|sN<|qR ?_
  exact oI h▸qD
 refine sN<|cF<|qK<|qS<|gU Z<|sM Z<|bE h fun x3 h3 h=>cD (cn h3)<|sF h ?_ ?_<;>intro h
 ·refine sM Z<|k3<|sT<|sN<|cT<|gU Z<|sV (.agg [.dO,.dO])<|sS 96 (.var [.dO,.dO])<|sV (rI 2)<|sN<|qR ?_
  exact oI h▸qD
 refine sM Z<|sM Z<|bE h fun x5 h5 h=>cD (cn h5)<|sV (rB (!x5))<|sF h ?_ ?_<;>intro h
 ·refine sN<|cT<|gU Z<|sV (.agg [.dO,.dO])<|sS 96 (.var [.dO,.dO])<|sV (rI 2)<|sN<|qR ?_
  exact oI h▸qD
 refine sN<|cF<|qK<|gU Z<|sV (.d (.lst ([1].map (PD.int .i64))))<|sV (.d (.lst ([1].map (PD.int .i64))))<|sV (.d (.agg [.lst ([1].map (PD.int .i64)),.lst ([1].map (PD.int .i64))]))<|sB (.ptr 128 0) 128 (.var [.dO,.dO])<|sS 128 (.var [.d (.lst ([1].map (PD.int .i64))),.d (.lst ([1].map (PD.int .i64)))])<|sN<|qS<|gU Z<|sV (.ptr 48 0)<|sL Z<|sE (rI (a0.aV.length:Int)) (dX _ _) ?_
 refine sV (r0)<|sN<|bE h fun o20 ho20 h=>WC.block (WC.loop (WL.fV ho20 (fun s R' B'=>dN prog 0 (A R' B') (az.at_ 273 0 7)=some (A [(1,rI a1),(2,rI a2),(6,.ptr 96 0),(8,.ptr 128 0),(31,rM aD.pd a0.aV),(32,rI (a0.aV.length:Int)),(33,rI s.1)] [(96,.var [.dO,.dO]),(128,.var [rL s.2.1,rL s.2.2])])) (fun o e R' B'=>match o with| .inl y=>e= .exit 0∧dN prog 0 (A R' B') (az.at_ 273 0 17)=some (A [(6,.ptr 96 0),(8,.ptr 128 0)] [(96,.var [.dO,.dO]),(128,.var [rL y.1,rL y.2])])| .inr r=>e= .ret∧finish prog (az.own 273) Tryz.f273 0 (A R' B')=some (.tup [.d (aO.pd r.1),rI r.2],[])) Z ?_ ?_))
 ·rintro⟨s7,s8,s9⟩ R' B' q12 hI h
  refine gS Z hI<|sF h ?_ ?_<;>intro h
  ·refine sN<|qS<|cT<|qK<|qS<|qB<|gU Z<|bE h fun x14 h14 h=>eG h14 Z<|sV (.d (aD.pd x14))<|sB (.ptr 160 0) 160 (.var [r0,r0,r0,r0,r0,r0,r0,.dO,r0,r0])<|sH 160 (.var (aD.rc x14))<|sN<|gU Z<|sV (.d (aD.pd x14)) ?_
   refine sM Z<|sM Z<|bE h fun x15 h15 h=>cR (.tup [.d (aO.pd x15.1),rB x15.2]) [] (response_gain_ev h15)<|sM Z<|sV (.d (aO.pd x15.1))<|sV (rB x15.2)<|sB (.ptr 176 0) 176 (.var [.dO,.dO])<|sS 176 (.var (aO.rc x15.1))<|sA Z<|sN<|qS<|gU Z<|sM Z<|sF h ?_ ?_<;>intro h
   ·refine sN<|cT<|gU Z<|sV (.agg [.dO,.dO])<|sS 96 (.var [.dO,.dO])<|sV (rI 11)<|sN<|qR ?_
    cases oI h
    exact⟨nofun,rfl,rfl⟩
   refine sN<|cF<|qK<|gU Z<|sV (r0)<|sN<|gU Z<|sV (.d (aO.pd (aO.mk s8 s9)))<|sV (.d (aO.pd x15.1))<|bE h fun x17 h17 h=>cR (.tup [.d (aO.pd x17.1),rI x17.2]) [] (nat_Times_ev h17)<|sM Z<|sV (.d (aO.pd x17.1))<|sV (rI x17.2)<|sS 128 (.var (aO.rc x17.1)) ?_
   refine sA Z<|sN<|gU Z<|sM Z<|sF h ?_ ?_<;>intro h
   ·refine sN<|cT<|gU Z<|sV (.agg [.dO,.dO])<|sM Z<|sS 96 (.var [.dO,.dO])<|sA Z<|sN<|qR ?_
    cases oI h
    exact⟨nofun,rfl,rfl⟩
   refine sN<|cF<|qK<|WC.region Z Z<|sV (rI (rW (s7+(1:Int))))<|sM Z<|sN ?_
   cases oI h
   exact⟨rfl,rfl⟩
  refine sN<|qS<|cF<|qX ?_
  cases oI h
  exact⟨nofun,rfl,rfl⟩
 intro e R' B' he hq
 rcases o20 with y21|r22
 ·obtain⟨rfl,hI⟩:=hq
  refine qE<|gS Z hI<|sV (.d (aO.pd (aO.mk y21.1 y21.2)))<|sS 96 (.var [rL y21.1,rL y21.2])<|sV (r0)<|sN<|qR ?_
  exact oI h▸qD
 obtain⟨rfl,hf⟩:=hq
 cases oI h
 exact hf
theorem mz{a0:Int}{a1:Int}{r:Int}(h:gj a0 a1=some r):EvP prog az ext 339 [rI a0,rI a1] [] (rI r,[]):=by
 refine Ev.body Z Tryz.func339 Z Zk<|gU Z<|sV (r0)<|sN<|gU Z<|sV (r0)<|sN<|qS<|gU Z<|sV (r0)<|sN<|WC.block (WC.loop ?_)
 refine WL.round<|gU Z<|sT<|sN<|qS<|cT<|qK<|WC.join (α:=Int×Int) (fun x R' B'=>dN prog 0 (A R' B') (az.at_ 339 0 9)=some (A [(0,rI a0),(1,rI x.1),(5,rI x.2),(6,r0)] [])) (fun x=>et a0 x.1 x.2=some r) ?_ ?_
 ·refine qB<|gU Z<|sM Z<|sM Z<|sV (rI (rW (a1*a1)))<|sV (rI (jf .i64 (rW (a1*a1)) (30:Int)))<|sA Z<|sN<|gU Z<|sM Z<|sV (r0)<|sA Z<|sN<|gU Z<|sM Z ?_
  refine sF h ?_ ?_<;>intro h
  ·exact sN<|cT<|gS rfl rfl<|sM rfl<|bE h fun x40 h40 h=>WO.uL h40 rfl rfl rfl rfl rfl rfl<|sA rfl<|sN<|WC.region rfl rfl<|sM rfl<|sV (rI 1)<|sA rfl<|sN<|⟨(x40,1),rfl,h⟩
  exact sN<|cF<|qK<|⟨((jf .i64 (rW (a1*a1)) (30:Int)),0),rfl,h⟩
 rintro⟨j1,j2⟩ R' B' hI h
 refine WC.region hI Z<|sV (rI 1)<|sM Z<|sN<|WL.round<|gU Z<|sT<|sN<|qS<|cT<|qK<|WC.join (α:=Int×Int) (fun x R' B'=>dN prog 0 (A R' B') (az.at_ 339 0 9)=some (A [(0,rI a0),(1,rI x.1),(5,rI x.2),(6,rI 1)] [])) (fun x=>ep a0 x.1 x.2=some r) ?_ ?_
 ·refine qB<|gU Z<|sM Z<|sM Z<|sV (rI (rW (j1*j1)))<|sV (rI (jf .i64 (rW (j1*j1)) (30:Int)))<|sA Z<|sN<|gU Z<|sM Z<|sV (rI (rW (j2*(2:Int))))<|sA Z<|sN<|gU Z<|sM Z ?_
  refine sF h ?_ ?_<;>intro h
  ·exact sN<|cT<|gS rfl rfl<|sM rfl<|bE h fun x37 h37 h=>WO.uL h37 rfl rfl rfl rfl rfl rfl<|sA rfl<|sN<|WC.region rfl rfl<|sM rfl<|sV (rI (rW ((rW (j2*(2:Int)))+(1:Int))))<|sA rfl<|sN<|⟨(x37,(rW ((rW (j2*(2:Int)))+(1:Int)))),rfl,h⟩
  exact sN<|cF<|qK<|⟨((jf .i64 (rW (j1*j1)) (30:Int)),(rW (j2*(2:Int)))),rfl,h⟩
 rintro⟨j3,j4⟩ R' B' hI h
 refine WC.region hI Z<|sV (rI 2)<|sM Z<|sN<|WL.round<|gU Z<|sT<|sN<|qS<|cT<|qK<|WC.join (α:=Int×Int) (fun x R' B'=>dN prog 0 (A R' B') (az.at_ 339 0 9)=some (A [(0,rI a0),(1,rI x.1),(5,rI x.2),(6,rI 2)] [])) (fun x=>eo a0 x.1 x.2=some r) ?_ ?_
 ·refine qB<|gU Z<|sM Z<|sM Z<|sV (rI (rW (j3*j3)))<|sV (rI (jf .i64 (rW (j3*j3)) (30:Int)))<|sA Z<|sN<|gU Z<|sM Z<|sV (rI (rW (j4*(2:Int))))<|sA Z<|sN<|gU Z<|sM Z ?_
  refine sF h ?_ ?_<;>intro h
  ·exact sN<|cT<|gS rfl rfl<|sM rfl<|bE h fun x34 h34 h=>WO.uL h34 rfl rfl rfl rfl rfl rfl<|sA rfl<|sN<|WC.region rfl rfl<|sM rfl<|sV (rI (rW ((rW (j4*(2:Int)))+(1:Int))))<|sA rfl<|sN<|⟨(x34,(rW ((rW (j4*(2:Int)))+(1:Int)))),rfl,h⟩
  exact sN<|cF<|qK<|⟨((jf .i64 (rW (j3*j3)) (30:Int)),(rW (j4*(2:Int)))),rfl,h⟩
 rintro⟨j5,j6⟩ R' B' hI h
 refine WC.region hI Z<|sV (rI 3)<|sM Z<|sN<|WL.round<|gU Z<|sT<|sN<|qS<|cT<|qK<|WC.join (α:=Int×Int) (fun x R' B'=>dN prog 0 (A R' B') (az.at_ 339 0 9)=some (A [(0,rI a0),(1,rI x.1),(5,rI x.2),(6,rI 3)] [])) (fun x=>ek a0 x.1 x.2=some r) ?_ ?_
 ·refine qB<|gU Z<|sM Z<|sM Z<|sV (rI (rW (j5*j5)))<|sV (rI (jf .i64 (rW (j5*j5)) (30:Int)))<|sA Z<|sN<|gU Z<|sM Z<|sV (rI (rW (j6*(2:Int))))<|sA Z<|sN<|gU Z<|sM Z ?_
  refine sF h ?_ ?_<;>intro h
  ·exact sN<|cT<|gS rfl rfl<|sM rfl<|bE h fun x31 h31 h=>WO.uL h31 rfl rfl rfl rfl rfl rfl<|sA rfl<|sN<|WC.region rfl rfl<|sM rfl<|sV (rI (rW ((rW (j6*(2:Int)))+(1:Int))))<|sA rfl<|sN<|⟨(x31,(rW ((rW (j6*(2:Int)))+(1:Int)))),rfl,h⟩
  exact sN<|cF<|qK<|⟨((jf .i64 (rW (j5*j5)) (30:Int)),(rW (j6*(2:Int)))),rfl,h⟩
 rintro⟨j7,j8⟩ R' B' hI h
 refine WC.region hI Z<|sV (rI 4)<|sM Z<|sN<|WL.round<|gU Z<|sT<|sN<|qS<|cT<|qK<|WC.join (α:=Int×Int) (fun x R' B'=>dN prog 0 (A R' B') (az.at_ 339 0 9)=some (A [(0,rI a0),(1,rI x.1),(5,rI x.2),(6,rI 4)] [])) (fun x=>ej a0 x.1 x.2=some r) ?_ ?_
 ·refine qB<|gU Z<|sM Z<|sM Z<|sV (rI (rW (j7*j7)))<|sV (rI (jf .i64 (rW (j7*j7)) (30:Int)))<|sA Z<|sN<|gU Z<|sM Z<|sV (rI (rW (j8*(2:Int))))<|sA Z<|sN<|gU Z<|sM Z ?_
  refine sF h ?_ ?_<;>intro h
  ·exact sN<|cT<|gS rfl rfl<|sM rfl<|bE h fun x28 h28 h=>WO.uL h28 rfl rfl rfl rfl rfl rfl<|sA rfl<|sN<|WC.region rfl rfl<|sM rfl<|sV (rI (rW ((rW (j8*(2:Int)))+(1:Int))))<|sA rfl<|sN<|⟨(x28,(rW ((rW (j8*(2:Int)))+(1:Int)))),rfl,h⟩
  exact sN<|cF<|qK<|⟨((jf .i64 (rW (j7*j7)) (30:Int)),(rW (j8*(2:Int)))),rfl,h⟩
 rintro⟨j9,j10⟩ R' B' hI h
 refine WC.region hI Z<|sV (rI 5)<|sM Z<|sN<|WL.round<|gU Z<|sT<|sN<|qS<|cT<|qK<|WC.join (α:=Int×Int) (fun x R' B'=>dN prog 0 (A R' B') (az.at_ 339 0 9)=some (A [(0,rI a0),(1,rI x.1),(5,rI x.2),(6,rI 5)] [])) (fun x=>ei a0 x.1 x.2=some r) ?_ ?_
 ·refine qB<|gU Z<|sM Z<|sM Z<|sV (rI (rW (j9*j9)))<|sV (rI (jf .i64 (rW (j9*j9)) (30:Int)))<|sA Z<|sN<|gU Z<|sM Z<|sV (rI (rW (j10*(2:Int))))<|sA Z<|sN<|gU Z<|sM Z ?_
  refine sF h ?_ ?_<;>intro h
  ·exact sN<|cT<|gS rfl rfl<|sM rfl<|bE h fun x25 h25 h=>WO.uL h25 rfl rfl rfl rfl rfl rfl<|sA rfl<|sN<|WC.region rfl rfl<|sM rfl<|sV (rI (rW ((rW (j10*(2:Int)))+(1:Int))))<|sA rfl<|sN<|⟨(x25,(rW ((rW (j10*(2:Int)))+(1:Int)))),rfl,h⟩
  exact sN<|cF<|qK<|⟨((jf .i64 (rW (j9*j9)) (30:Int)),(rW (j10*(2:Int)))),rfl,h⟩
 rintro⟨j11,j12⟩ R' B' hI h
 refine WC.region hI Z<|sV (rI 6)<|sM Z<|sN<|WL.round<|gU Z<|sT<|sN<|qS<|cT<|qK<|WC.join (α:=Int×Int) (fun x R' B'=>dN prog 0 (A R' B') (az.at_ 339 0 9)=some (A [(0,rI a0),(1,rI x.1),(5,rI x.2),(6,rI 6)] [])) (fun x=>eh a0 x.1 x.2=some r) ?_ ?_
 ·refine qB<|gU Z<|sM Z<|sM Z<|sV (rI (rW (j11*j11)))<|sV (rI (jf .i64 (rW (j11*j11)) (30:Int)))<|sA Z<|sN<|gU Z<|sM Z<|sV (rI (rW (j12*(2:Int))))<|sA Z<|sN<|gU Z<|sM Z ?_
  refine sF h ?_ ?_<;>intro h
  ·exact sN<|cT<|gS rfl rfl<|sM rfl<|bE h fun x22 h22 h=>WO.uL h22 rfl rfl rfl rfl rfl rfl<|sA rfl<|sN<|WC.region rfl rfl<|sM rfl<|sV (rI (rW ((rW (j12*(2:Int)))+(1:Int))))<|sA rfl<|sN<|⟨(x22,(rW ((rW (j12*(2:Int)))+(1:Int)))),rfl,h⟩
  exact sN<|cF<|qK<|⟨((jf .i64 (rW (j11*j11)) (30:Int)),(rW (j12*(2:Int)))),rfl,h⟩
 rintro⟨j13,j14⟩ R' B' hI h
 refine WC.region hI Z<|sV (rI 7)<|sM Z<|sN<|WL.round<|gU Z<|sT<|sN<|qS<|cT<|qK<|WC.join (α:=Int×Int) (fun x R' B'=>dN prog 0 (A R' B') (az.at_ 339 0 9)=some (A [(0,rI a0),(1,rI x.1),(5,rI x.2),(6,rI 7)] [])) (fun x=>ef a0 x.1 x.2=some r) ?_ ?_
 ·refine qB<|gU Z<|sM Z<|sM Z<|sV (rI (rW (j13*j13)))<|sV (rI (jf .i64 (rW (j13*j13)) (30:Int)))<|sA Z<|sN<|gU Z<|sM Z<|sV (rI (rW (j14*(2:Int))))<|sA Z<|sN<|gU Z<|sM Z ?_
  refine sF h ?_ ?_<;>intro h
  ·exact sN<|cT<|gS rfl rfl<|sM rfl<|bE h fun x19 h19 h=>WO.uL h19 rfl rfl rfl rfl rfl rfl<|sA rfl<|sN<|WC.region rfl rfl<|sM rfl<|sV (rI (rW ((rW (j14*(2:Int)))+(1:Int))))<|sA rfl<|sN<|⟨(x19,(rW ((rW (j14*(2:Int)))+(1:Int)))),rfl,h⟩
  exact sN<|cF<|qK<|⟨((jf .i64 (rW (j13*j13)) (30:Int)),(rW (j14*(2:Int)))),rfl,h⟩
 rintro⟨j15,j16⟩ R' B' hI h
 refine WC.region hI Z<|sV (rI 8)<|sM Z<|sN<|WL.round<|gU Z<|sU<|sN<|qS<|cF<|qX<|qE<|gU Z<|sM Z<|sV (rI (rW ((256:Int)*a0))) ?_
 refine sM Z<|sV (rI (rW ((rW ((256:Int)*a0))+j16)))<|sA Z<|sN<|qR ?_
 exact oI h▸qD
theorem lq{a0:Int}{r:Int×Int}(h:ig a0=some r):EvP prog az ext 275 [rI a0] [] (.tup [rI r.1,rI r.2],[]):=by
 refine Ev.body Z Tryz.func275 Z Zk<|gU Z<|sV (r0)<|sV (r0)<|sN<|qS<|gU Z<|sM Z<|sF h ?_ ?_<;>intro h
 ·refine sN<|cT<|gU Z<|sV (r0)<|sV (rI 2)<|sN<|qR ?_
  exact oI h▸qD
 refine sN<|cF<|qK<|gU Z<|sM Z<|sV (.d (.int .u64 (IntKind.wrap .u64 a0)))<|bE h fun x2 h2 h=>cD (pu h2)<|sV (rI (rW (x2-(1:Int))))<|sA Z<|sN<|qS<|gU Z<|sM Z<|sF h ?_ ?_<;>intro h
 ·refine sN<|cT<|gU Z<|sM Z<|sM Z<|sM Z<|sV (rI (rW ((30:Int)-(rW (x2-(1:Int))))))<|bE h fun x4 h4 h=>WO.shlG h4 Z Z Z Z Z<|bE h fun x5 h5 h=>cD (mz h5)<|sA Z<|sV (r0)<|sN<|qR ?_
  exact oI h▸qD
 refine sN<|cF<|qK<|gU Z<|sM Z<|sM Z<|sM Z<|sV (rI (rW ((rW (x2-(1:Int)))-(30:Int))))<|bE h fun x6 h6 h=>WO.shrG h6 Z Z Z Z Z<|bE h fun x7 h7 h=>cD (mz h7)<|sA Z<|sV (r0)<|sN ?_
 refine qR ?_
 exact oI h▸qD
theorem my{a0:(List Int)}{r:Int×Int}(h:gi a0=some r):EvP prog az ext 274 [rL a0] [] (.tup [rI r.1,rI r.2],[]):=by
 refine Ev.body Z Tryz.func274 Z Zk<|gU Z<|sV (r0)<|sV (r0)<|sN<|qS<|gU Z<|sM Z<|bE h fun x1 h1 h=>cD (gP h1)<|sF h ?_ ?_<;>intro h
 ·refine sN<|cT<|gU Z<|sV (r0)<|sV (rI 1)<|sN<|qR ?_
  exact oI h▸qD
 refine sN<|cF<|qK<|gU Z<|sM Z<|sE (rI (a0.length:Int)) (dX _ _)<|sV (rI (rW ((a0.length:Int)-(1:Int))))<|sA Z<|sN<|qS<|qB<|gU Z<|sM Z<|sF h ?_ ?_<;>intro h
 ·refine sA Z<|sN<|cT<|gU Z<|sV (r0)<|sV (rI 2)<|sN<|qR ?_
  exact oI h▸qD
 refine sA Z<|sN<|cF<|gU Z<|sM Z<|sF h ?_ ?_<;>intro h
 ·refine sA Z<|sN<|cT<|gU Z<|sM Z<|bE h fun x5 h5 h=>eG h5 Z<|sC Z<|bE h fun x6 h6 h=>cR (.tup [rI x6.1,rI x6.2]) [] (lq h6)<|sV (rI x6.1)<|sV (rI x6.2)<|sA Z<|sA Z<|sN ?_
  refine qR ?_
  exact oI h▸qD
 refine sA Z<|sN<|cF<|qK<|WC.cI Z Z<|sM Z<|sM Z<|bE h fun x7 h7 h=>eG h7 Z<|sC Z<|sV (rI (shlI .i64 x7 (30:Int)))<|sM Z<|sM Z<|sV (rI (rW ((rW ((a0.length:Int)-(1:Int)))-(1:Int))))<|bE h fun x8 h8 h=>?_
 refine eG h8 Z<|sC Z<|sV (rI (orI .i64 (shlI .i64 x7 (30:Int)) x8))<|sA Z ?_
 refine sN<|sO<|gU Z<|sM Z<|bE h fun x9 h9 h=>cR (.tup [rI x9.1,rI x9.2]) [] (lq h9)<|sM Z<|sV (rI x9.1)<|sV (rI x9.2)<|sA Z<|sA Z<|sN<|gU Z<|sM Z<|sM Z<|sV (rI (rW ((rW ((a0.length:Int)-(1:Int)))-(1:Int)))) ?_
 refine sV (rI (rW ((7680:Int)*(rW ((rW ((a0.length:Int)-(1:Int)))-(1:Int))))))<|sV (rI (rW (x9.1+(rW ((7680:Int)*(rW ((rW ((a0.length:Int)-(1:Int)))-(1:Int))))))))<|sM Z<|sA Z<|sA Z<|sN<|qR ?_
 exact oI h▸qD
theorem qn{a0:bo}{a1:aL}{a2:Int}{r:Int×Int}(h:jh a0 a1 a2=some r):EvP prog az ext 190 [.d (bo.pd a0),.d (aL.pd a1),rI a2] [] (.tup [rI r.1,rI r.2],[]):=by
 refine Ev.body Z Tryz.func190 Z Zk<|gU Z<|sB (.ptr 48 0) 48 (.var (bo.rc a0))<|sB (.ptr 64 0) 64 (.var [rM aD.pd a1.aV])<|sV (r0)<|sV (r0)<|sN<|gU Z<|sV (.d (aL.pd a1))<|sV (.ptr 48 3)<|sL Z<|sV (.ptr 48 4)<|sL Z<|bE h fun x1 h1 h=>cR (.tup [.d (aO.pd x1.1),rI x1.2]) [] (response_Gain_ev h1) ?_
 refine sM Z<|sV (.d (aO.pd x1.1))<|sV (rI x1.2)<|sB (.ptr 128 0) 128 (.var [.dO,.dO])<|sS 128 (.var (aO.rc x1.1))<|sA Z<|sN<|qS<|gU Z<|sM Z<|sF h ?_ ?_<;>intro h
 ·refine sN<|cT<|gU Z<|sM Z<|sV (r0)<|sA Z<|sN<|qR ?_
  exact oI h▸qD
 refine sN<|cF<|qK<|gU Z<|sV (.ptr 128 0)<|sL Z<|bE h fun x3 h3 h=>cR (.tup [rI x3.1,rI x3.2]) [] (my h3)<|sM Z<|sV (rI x3.1)<|sV (rI x3.2)<|sA Z<|sA Z<|sN<|qS ?_
 refine gU Z<|sM Z<|sF h ?_ ?_<;>intro h
 ·refine sN<|cT<|gU Z<|sV (r0)<|sV (rI 24)<|sN<|qR ?_
  exact oI h▸qD
 refine sN<|cF<|qK<|gU Z<|sV (.ptr 128 1)<|sL Z<|bE h fun x5 h5 h=>cR (.tup [rI x5.1,rI x5.2]) [] (my h5)<|sM Z<|sV (rI x5.1)<|sV (rI x5.2)<|sA Z<|sA Z<|sN<|qS ?_
 refine gU Z<|sM Z<|sF h ?_ ?_<;>intro h
 ·refine sN<|cT<|gU Z<|sM Z<|sV (r0)<|sA Z<|sN<|qR ?_
  exact oI h▸qD
 refine sN<|cF<|qK<|gU Z<|sM Z<|bE h fun x7 h7 h=>cR (.tup [rI x7.1,rI x7.2]) [] (lq h7)<|sM Z<|sV (rI x7.1)<|sV (rI x7.2)<|sA Z<|sA Z<|sN<|gU Z<|sM Z ?_
 refine sV (rI (rW ((2:Int)*x7.1)))<|sM Z<|sV (rI (rW ((rW ((2:Int)*x7.1))+x5.1)))<|sM Z<|sV (rI (rW ((rW ((rW ((2:Int)*x7.1))+x5.1))-x3.1)))<|sM Z<|sA Z<|sA Z<|sN<|qR ?_
 exact oI h▸qD
theorem nz{a0:Int}{r:Int}(h:iH a0=some r):EvP prog az ext 193 [rI a0] [] (rI r,[]):=by
 refine Ev.body Z Tryz.func193 Z Zk<|gU Z<|sV (r0)<|sN<|gU Z<|sM Z<|sV (rI (jf .i64 a0 (1:Int)))<|sA Z<|sN<|qR ?_
 exact oI h▸qD
theorem qm{a0:Int}{r:Int×Bool}(h:lr a0=some r):EvP prog az ext 281 [rI a0] [] (.tup [rI r.1,rB r.2],[]):=by
 refine Ev.body Z Tryz.func281 Z Zk<|gU Z<|sV (r0)<|sU<|sN<|gU Z<|sM Z<|sV (rI (rW (a0*(30103:Int))))<|sM Z<|sF h ?_ ?_<;>intro h
 ·refine sM Z<|sM Z<|sV (rB (decide (a0<=(16777216:Int))))<|sV (rB (decide (a0<=(16777216:Int))))<|sA Z<|sA Z<|sN<|qR ?_
  exact oI h▸qD
 refine sM Z<|sK<|sK<|sU<|sA Z<|sA Z<|sN<|qR ?_
 exact oI h▸qD
theorem mZ{a0:Int}{r:Int}(h:gW a0=some r):EvP prog az ext 192 [rI a0] [] (rI r,[]):=by
 refine Ev.body Z Tryz.func192 Z Zk<|gU Z<|sV (r0)<|sN<|gU Z<|sM Z<|bE h fun x1 h1 h=>cR (.tup [rI x1.1,rB x1.2]) [] (qm h1)<|sM Z<|sV (rI x1.1)<|sV (rB x1.2)<|sA Z<|sA Z<|sN<|qS ?_
 refine gU Z<|sM Z<|sF h ?_ ?_<;>intro h
 ·refine sN<|cT<|gU Z<|sV (r0)<|sN<|qR ?_
  exact oI h▸qD
 refine sN<|cF<|qK<|gU Z<|sM Z<|bE h fun x3 h3 h=>WO.uL h3 Z Z Z Z Z Z<|sA Z<|sN<|qS<|gU Z<|sM Z<|bE h fun x4 h4 h=>WO.remG h4 Z Z Z Z Z Z<|sF h ?_ ?_<;>intro h
 ·refine sN<|cT<|WC.region Z Z<|sM Z<|sV (rI (rW (x3-(1:Int))))<|sA Z<|sN<|gU Z<|sM Z<|sA Z<|sN<|qR ?_
  exact oI h▸qD
 refine sN<|cF<|qK<|gU Z<|sM Z<|sA Z<|sN<|qR ?_
 exact oI h▸qD
theorem rG{a0:Int}{r:Int}(h:kK a0=some r):EvP prog az ext 194 [rI a0] [] (rI r,[]):=by
 refine Ev.body Z Tryz.func194 Z Zk<|gU Z<|sV (r0)<|sN<|gU Z<|sM Z<|sV (rI (rW (0-a0)))<|bE h fun x1 h1 h=>cD (mZ h1)<|sV (rI (rW (0-x1)))<|sA Z<|sN<|qR ?_
 exact oI h▸qD
theorem pD{a0:bo}{a1:aL}{a2:Int}{a3:Int}{a4:Int}{r:aB×Int}(h:fH a0 a1 a2 a3 a4=some r):EvP prog az ext 110 [.d (bo.pd a0),.d (aL.pd a1),rI a2,rI a3,rI a4] [] (.tup [.d (aB.pd r.1),rI r.2],[]):=by
 refine Ev.body Z Tryz.func110 Z Zk<|gU Z<|sB (.ptr 80 0) 80 (.var (bo.rc a0))<|sB (.ptr 96 0) 96 (.var [rM aD.pd a1.aV])<|sB (.ptr 160 0) 160 (.var [r0,r0])<|sV (r0)<|sN<|qS<|gU Z<|sV (.d (bo.pd a0))<|bE h fun x1 h1 h=>cD (kf h1)<|sF h ?_ ?_<;>intro h
 ·refine sN<|cT<|gU Z<|sV (.d (aB.pd (aB.mk 0 0)))<|sS 160 (.var [r0,r0])<|sV (rI 27)<|sN<|qR ?_
  exact oI h▸qD
 refine sN<|cF<|qK<|qS<|gU Z<|sM Z<|sF h ?_ ?_<;>intro h
 ·refine sM Z<|sK<|sK<|sT<|sN<|cT<|gU Z<|sV (.d (aB.pd (aB.mk 0 0)))<|sS 160 (.var [r0,r0])<|sV (rI 2)<|sN<|qR ?_
  exact oI h▸qD
 refine sM Z<|sM Z<|sV (rB (decide (a2>(1073741823:Int))))<|sF h ?_ ?_<;>intro h
 ·refine sN<|cT<|gU Z<|sV (.d (aB.pd (aB.mk 0 0)))<|sS 160 (.var [r0,r0])<|sV (rI 2)<|sN<|qR ?_
  exact oI h▸qD
 refine sN<|cF<|qK<|gU Z<|sV (.d (bo.pd a0))<|sV (.d (aL.pd a1))<|sM Z<|bE h fun x5 h5 h=>cR (.tup [rI x5.1,rI x5.2]) [] (qn h5)<|sM Z<|sV (rI x5.1)<|sV (rI x5.2)<|sA Z<|sA Z<|sN ?_
 refine qS<|gU Z<|sM Z<|sF h ?_ ?_<;>intro h
 ·refine sN<|cT<|gU Z<|sV (.d (aB.pd (aB.mk 0 0)))<|sM Z<|sS 160 (.var [r0,r0])<|sA Z<|sN<|qR ?_
  exact oI h▸qD
 refine sN<|cF<|qK<|gU Z<|sV (.ptr 80 0)<|sV (.d (aA.pd a0.bC))<|sM Z<|sM Z<|bE h fun x7 h7 h=>cR (.tup [rI x7.1,rI x7.2.1,rI x7.2.2]) [] (nL h7)<|sM Z<|sV (rI x7.1)<|sV (rI x7.2.1)<|sV (rI x7.2.2)<|sA Z ?_
 refine sA Z<|sA Z<|sN<|qS<|gU Z<|sM Z<|sF h ?_ ?_<;>intro h
 ·refine sN<|cT<|gU Z<|sV (.d (aB.pd (aB.mk 0 0)))<|sM Z<|sS 160 (.var [r0,r0])<|sA Z<|sN<|qR ?_
  exact oI h▸qD
 refine sN<|cF<|qK<|gU Z<|sM Z<|sV (rI (rW (x5.1-(2:Int))))<|bE h fun x9 h9 h=>cD (nz h9)<|bE h fun x10 h10 h=>cD (mZ h10)<|sM Z<|sV (rI (rW (x10+x7.1)))<|sM Z<|sV (rI (rW (0-x5.1)))<|sV (rI (rW ((rW (0-x5.1))-(6:Int)))) ?_
 refine bE h fun x11 h11 h=>cD (nz h11)<|sV (rI (rW (0-x11)))<|bE h fun x12 h12 h=>cD (rG h12)<|sM Z<|sV (rI (rW (x12+x7.2.1)))<|sV (.d (aB.pd (aB.mk (rW (x10+x7.1)) (rW (x12+x7.2.1)))))<|sS 160 (.var [rI (rW (x10+x7.1)),rI (rW (x12+x7.2.1))])<|sV (r0)<|sN<|qR ?_
 exact oI h▸qD
theorem pf{a0:aU}{a1:ar}{a2:ag}{r:(List aB)}(h:c8 a0 a1 a2=some r):EvP prog az ext 58 [.d (aU.pd a0),.d (ar.pd a1),.d (ag.pd a2)] [] (rM aB.pd r,[]):=by
 refine Ev.body Z Tryz.func58 Z Zk<|gU Z<|sB (.ptr 48 0) 48 (.var (aU.rc a0))<|sB (.ptr 64 0) 64 (.var (ar.rc a1))<|sB (.ptr 80 0) 80 (.var (ag.rc a2))<|sV .dO<|sN<|gU Z<|sV .dO<|sN<|qS<|gU Z<|sV (.ptr 48 1)<|sL Z<|sE (rI (a0.dj.length:Int)) (dX _ _) ?_
 refine sV (r0)<|sN<|bE h fun o15 ho15 h=>WC.block (WC.loop (WL.fV ho15 (fun s R' B'=>dN prog 0 (A R' B') (az.at_ 58 0 3)=some (A [(3,.ptr 48 0),(4,.ptr 64 0),(5,.ptr 80 0),(7,.ref 816 0),(13,rM aj.pd a0.dj),(14,rI (a0.dj.length:Int)),(15,rI s.1)] [(48,.var (aU.rc a0)),(64,.var (ar.rc a1)),(80,.var (ag.rc a2)),(816,.arr 0 47 (s.2.map aB.pd))])) (fun o e R' B'=>e= .exit 0∧dN prog 0 (A R' B') (az.at_ 58 0 9)=some (A [(7,.ref 816 0)] [(816,.arr 0 47 (o.map aB.pd))])) Z ?_ ?_))
 ·rintro⟨s1,s2⟩ R' B' q4 hI h
  refine gS Z hI<|sF h ?_ ?_<;>intro h
  ·refine sN<|qS<|cT<|qK<|qS<|qB<|gU Z<|sM Z<|bE h fun x6 h6 h=>eG h6 Z<|sV (.d (aj.pd x6))<|sB (.ptr 144 0) 144 (.var zZ4)<|sA Z<|sH 144 (.var (aj.rc x6))<|sN ?_
   refine WC.cI Z Z<|sV (.ptr 64 14)<|sV (.d (bo.pd a1.cm))<|sV (.ptr 48 2)<|sL Z<|sM Z<|bE h fun x7 h7 h=>eG h7 Z<|sV (.cptr [.lst (x7.bu.aV.map aD.pd)])<|sV (.d (aL.pd x7.bu))<|sV (.ptr 48 0)<|sL Z<|sM Z<|bE h fun x8 h8 h=>eG h8 Z ?_
   refine sV (.cptr [.int .i64 x8.bg,.int .i64 x8.bz])<|sC Z<|sV (.d (ag.pd a2))<|sV (.ptr 144 0)<|sV (.d (aa.pd x6.aN))<|bE h fun x9 h9 h=>cD (lj h9)<|sV (.d (ag.pd a2))<|sV (.ptr 144 0)<|sV (.d (aa.pd x6.aN))<|bE h fun x10 h10 h=>cD (pb h10)<|bE h fun x11 h11 h=>cR (.tup [.d (aB.pd x11.1),rI x11.2]) [] (pD h11)<|sM Z ?_
   refine sV (.d (aB.pd x11.1))<|sV (rI x11.2)<|sB (.ptr 160 0) 160 (.var [r0,r0])<|sS 160 (.var (aB.rc x11.1))<|sA Z ?_
   refine sN<|sO<|gU Z<|sM Z<|sF h ?_ ?_<;>intro h
   ·refine sN<|cT<|WC.region Z Z<|sM Z<|sV (.d (aB.pd x11.1))<|sV (.d (.lst ([x11.1].map aB.pd)))<|bE h fun x13 h13 h=>aR h13 (fun _=>Z) Z<|sA Z<|sN<|WC.region Z Z<|sV (rI (rW (s1+(1:Int))))<|sM Z<|sN ?_
    cases oI h
    exact⟨rfl,rfl⟩
   refine sN<|cF<|qK<|WC.region Z Z<|sV (rI (rW (s1+(1:Int))))<|sM Z<|sN ?_
   cases oI h
   exact⟨rfl,rfl⟩
  refine sN<|qS<|cF<|qX ?_
  cases oI h
  exact⟨nofun,rfl,rfl⟩
 intro e R' B' he hq
 obtain⟨rfl,hI⟩:=hq
 refine qE<|gS Z hI<|sM Z<|sA Z<|sN<|qR ?_
 exact oI h▸qD
theorem jp{a0:aB}{r:Bool}(h:gM a0=some r):EvP prog az ext 114 [.d (aB.pd a0)] [] (rB r,[]):=by
 refine Ev.body Z Tryz.func114 Z Zk<|gU Z<|sB (.ptr 16 0) 16 (.var (aB.rc a0))<|sU<|sN<|gU Z<|sV (.ptr 16 0)<|sL Z<|sV (.ptr 16 1)<|sL Z<|sV (rB (decide (a0.aI>a0.aC)))<|sA Z<|sN<|qR ?_
 exact oI h▸qD
theorem kr{a0:(List aB)}{r:Int}(h:dY a0=some r):EvP prog az ext 198 [rM aB.pd a0,.d (.raw (.func (.func 114) #[] #[]))] [] (rI r,[]):=by
 refine Ev.body Z Tryz.func198 Z Zk<|gU Z<|sV (r0)<|sN<|qS<|gU Z<|sM Z<|sE (rI (a0.length:Int)) (dX _ _)<|sV (r0)<|sN<|bE h fun o8 ho8 h=>WC.block (WC.loop (WL.fV ho8 (fun s R' B'=>dN prog 0 (A R' B') (az.at_ 198 0 2)=some (A [(0,rM aB.pd a0),(1,.d (.raw (.func (.func 114) #[] #[]))),(7,rI (a0.length:Int)),(8,rI s)] [])) (fun o e R' B'=>match o with| .inl y=>e= .exit 0∧dN prog 0 (A R' B') (az.at_ 198 0 7)=some (A [] [])| .inr r=>e= .ret∧finish prog (az.own 198) Tryz.f198 0 (A R' B')=some (rI r,[])) Z ?_ ?_))
 ·rintro s1 R' B' q2 hI h
  refine gS Z hI<|sF h ?_ ?_<;>intro h
  ·refine sN<|qS<|cT<|qK<|qS<|qB<|gU Z<|sM Z<|sA Z<|sN<|gU Z<|sM Z<|sM Z<|sM Z<|bE h fun x4 h4 h=>?_
   refine eG h4 Z<|sV (.d (aB.pd x4))<|bE h fun x5 h5 h=>ir h (fun hb6 h=>?_) (fun hb6 h=>?_)
   ·refine WO.lE (v:=rB true) (u:=[]) Z Z (fun _=>Z) Z Z Z Z Z (jp h5) Z Z (congrArg (fun b=>RV.d (.bool b)) hb6) Z<|sN<|cT<|gU Z<|sM Z<|sA Z<|sN<|qR ?_
    cases oI h
    exact⟨nofun,rfl,rfl⟩
   refine WO.lE (v:=rB false) (u:=[]) Z Z (fun _=>Z) Z Z Z Z Z (jp h5) Z Z (congrArg (fun b=>RV.d (.bool b)) hb6) Z<|sN<|cF<|qK<|WC.region Z Z<|sV (rI (rW (s1+(1:Int))))<|sM Z<|sN ?_
   cases oI h
   exact⟨rfl,rfl⟩
  refine sN<|qS<|cF<|qX ?_
  cases oI h
  exact⟨nofun,rfl,rfl⟩
 intro e R' B' he hq
 rcases o8 with y9|r10
 ·obtain⟨rfl,hI⟩:=hq
  refine qE<|gS Z hI<|sV (rI (-1))<|sN<|qR ?_
  exact oI h▸qD
 obtain⟨rfl,hf⟩:=hq
 cases oI h
 exact hf
theorem eP{a0:(List aB)}{r:Bool}(h:cS a0=some r):EvP prog az ext 113 [rM aB.pd a0,.d (.raw (.func (.func 114) #[] #[]))] [] (rB r,[]):=by
 refine Ev.body Z Tryz.func113 Z Zk<|gU Z<|sU<|sN<|gU Z<|sM Z<|sM Z<|bE h fun x1 h1 h=>cD (kr h1)<|sV (rB (decide (x1>=(0:Int))))<|sA Z<|sN<|qR ?_
 exact oI h▸qD
theorem nl{a0:aB}{r:Int}(h:gN a0=some r):EvP prog az ext 116 [.d (aB.pd a0)] [] (rI r,[]):=by
 refine Ev.body Z Tryz.func116 Z Zk<|gU Z<|sB (.ptr 16 0) 16 (.var (aB.rc a0))<|sV (r0)<|sN<|gU Z<|sV (.ptr 16 0)<|sL Z<|sA Z<|sN<|qR ?_
 exact oI h▸qD
theorem nS{a0:(List aB)}{r:Int}(h:fk a0=some r):EvP prog az ext 115 [rM aB.pd a0,.d (.raw (.func (.func 116) #[] #[]))] [] (rI r,[]):=by
 refine Ev.body Z Tryz.func115 Z Zk<|gU Z<|sV (r0)<|sN<|gU Z<|sV .dO<|sN<|qS<|gU Z<|sM Z<|sE (rI (a0.length:Int)) (dX _ _)<|sV (r0)<|sN<|bE h fun o10 ho10 h=>WC.block (WC.loop (WL.fV ho10 (fun s R' B'=>dN prog 0 (A R' B') (az.at_ 115 0 3)=some (A [(1,.d (.raw (.func (.func 116) #[] #[]))),(5,.ref 304 0),(8,rM aB.pd a0),(9,rI (a0.length:Int)),(10,rI s.1)] [(304,.arr 0 3 (s.2.map (PD.int .i64)))])) (fun o e R' B'=>e= .exit 0∧dN prog 0 (A R' B') (az.at_ 115 0 7)=some (A [(5,.ref 304 0)] [(304,.arr 0 3 (o.map (PD.int .i64)))])) Z ?_ ?_))
 ·rintro⟨s1,s2⟩ R' B' q4 hI h
  refine gS Z hI<|sF h ?_ ?_<;>intro h
  ·refine sN<|qS<|cT<|qK<|qS<|qB<|gU Z<|bE h fun x6 h6 h=>eG h6 Z<|sV (.d (aB.pd x6))<|sB (.ptr 112 0) 112 (.var [r0,r0])<|sS 112 (.var (aB.rc x6))<|sN<|WC.region Z Z<|sM Z ?_
   refine sM Z<|sV (.d (aB.pd x6))<|bE h fun x7 h7 h=>cD (nl h7)<|sV (.d (.lst ([x7].map (PD.int .i64))))<|bE h fun x8 h8 h=>aR h8 (fun _=>Z) Z<|sA Z<|sN<|WC.region Z Z<|sV (rI (rW (s1+(1:Int))))<|sM Z<|sN ?_
   cases oI h
   exact⟨rfl,rfl⟩
  refine sN<|qS<|cF<|qX ?_
  cases oI h
  exact⟨nofun,rfl,rfl⟩
 intro e R' B' he hq
 obtain⟨rfl,hI⟩:=hq
 refine qE<|gS Z hI<|sM Z<|bE h fun x11 h11 h=>cR (.tup []) [(304,.arr 0 3 (x11.map (PD.int .i64)))] (qh h11)<|sN<|gU Z<|sM Z<|sM Z<|WO.vG Z Z Z Z Z Z Z Z Z<|sV (rI (rW ((x11.length:Int)-(1:Int))))<|bE h fun x12 h12 h=>WO.uL h12 Z Z Z Z Z Z<|bE h fun x14 h14 h=>WO.qV h14 Z Z Z Z Z Z Z Z ?_
 refine bE h fun x15 h15 h=>WO.oB h15 Z Z Z Z Z Z<|sA Z<|sN<|qR ?_
 exact oI h▸qD
theorem np{a0:aB}{r:Int}(h:gO a0=some r):EvP prog az ext 117 [.d (aB.pd a0)] [] (rI r,[]):=by
 refine Ev.body Z Tryz.func117 Z Zk<|gU Z<|sB (.ptr 16 0) 16 (.var (aB.rc a0))<|sV (r0)<|sN<|gU Z<|sV (.ptr 16 1)<|sL Z<|sA Z<|sN<|qR ?_
 exact oI h▸qD
theorem nT{a0:(List aB)}{r:Int}(h:fm a0=some r):EvP prog az ext 115 [rM aB.pd a0,.d (.raw (.func (.func 117) #[] #[]))] [] (rI r,[]):=by
 refine Ev.body Z Tryz.func115 Z Zk<|gU Z<|sV (r0)<|sN<|gU Z<|sV .dO<|sN<|qS<|gU Z<|sM Z<|sE (rI (a0.length:Int)) (dX _ _)<|sV (r0)<|sN<|bE h fun o10 ho10 h=>WC.block (WC.loop (WL.fV ho10 (fun s R' B'=>dN prog 0 (A R' B') (az.at_ 115 0 3)=some (A [(1,.d (.raw (.func (.func 117) #[] #[]))),(5,.ref 304 0),(8,rM aB.pd a0),(9,rI (a0.length:Int)),(10,rI s.1)] [(304,.arr 0 3 (s.2.map (PD.int .i64)))])) (fun o e R' B'=>e= .exit 0∧dN prog 0 (A R' B') (az.at_ 115 0 7)=some (A [(5,.ref 304 0)] [(304,.arr 0 3 (o.map (PD.int .i64)))])) Z ?_ ?_))
 ·rintro⟨s1,s2⟩ R' B' q4 hI h
  refine gS Z hI<|sF h ?_ ?_<;>intro h
  ·refine sN<|qS<|cT<|qK<|qS<|qB<|gU Z<|bE h fun x6 h6 h=>eG h6 Z<|sV (.d (aB.pd x6))<|sB (.ptr 112 0) 112 (.var [r0,r0])<|sS 112 (.var (aB.rc x6))<|sN<|WC.region Z Z<|sM Z ?_
   refine sM Z<|sV (.d (aB.pd x6))<|bE h fun x7 h7 h=>cD (np h7)<|sV (.d (.lst ([x7].map (PD.int .i64))))<|bE h fun x8 h8 h=>aR h8 (fun _=>Z) Z<|sA Z<|sN<|WC.region Z Z<|sV (rI (rW (s1+(1:Int))))<|sM Z<|sN ?_
   cases oI h
   exact⟨rfl,rfl⟩
  refine sN<|qS<|cF<|qX ?_
  cases oI h
  exact⟨nofun,rfl,rfl⟩
 intro e R' B' he hq
 obtain⟨rfl,hI⟩:=hq
 refine qE<|gS Z hI<|sM Z<|bE h fun x11 h11 h=>cR (.tup []) [(304,.arr 0 3 (x11.map (PD.int .i64)))] (qh h11)<|sN<|gU Z<|sM Z<|sM Z<|WO.vG Z Z Z Z Z Z Z Z Z<|sV (rI (rW ((x11.length:Int)-(1:Int))))<|bE h fun x12 h12 h=>WO.uL h12 Z Z Z Z Z Z<|bE h fun x14 h14 h=>WO.qV h14 Z Z Z Z Z Z Z Z ?_
 refine bE h fun x15 h15 h=>WO.oB h15 Z Z Z Z Z Z<|sA Z<|sN<|qR ?_
 exact oI h▸qD
theorem pC{a0:(List aB)}{r:aB×Int}(h:fG a0=some r):EvP prog az ext 59 [rM aB.pd a0] [] (.tup [.d (aB.pd r.1),rI r.2],[]):=by
 refine Ev.body Z Tryz.func59 Z Zk<|gU Z<|sB (.ptr 32 0) 32 (.var [r0,r0])<|sV (r0)<|sN<|qS<|gU Z<|sM Z<|sE (rI (a0.length:Int)) (dX _ _)<|sF h ?_ ?_<;>intro h
 ·refine sN<|cT<|gU Z<|sV (.d (aB.pd (aB.mk 0 0)))<|sS 32 (.var [r0,r0])<|sV (rI 24)<|sN<|qR ?_
  exact oI h▸qD
 refine sN<|cF<|qK<|qS<|gU Z<|sM Z<|bE h fun x2 h2 h=>ir h (fun hb3 h=>?_) (fun hb3 h=>?_)
 ·refine WO.lE (v:=rB true) (u:=[]) Z Z (fun _=>Z) Z Z Z Z Z (eP h2) Z Z (congrArg (fun b=>RV.d (.bool b)) hb3) Z<|sN<|cT<|gU Z<|sV (.d (aB.pd (aB.mk 0 0)))<|sS 32 (.var [r0,r0])<|sV (rI 1)<|sN<|qR ?_
  exact oI h▸qD
 refine WO.lE (v:=rB false) (u:=[]) Z Z (fun _=>Z) Z Z Z Z Z (eP h2) Z Z (congrArg (fun b=>RV.d (.bool b)) hb3) Z<|sN<|cF<|qK<|gU Z<|sM Z<|bE h fun x4 h4 h=>cD (nS h4)<|sM Z<|bE h fun x5 h5 h=>cD (nT h5)<|sV (.d (aB.pd (aB.mk x4 x5)))<|sS 32 (.var [rI x4,rI x5])<|sV (r0)<|sN ?_
 refine qR ?_
 exact oI h▸qD
theorem rY{a0:ar}{a1:al}{a2:(List ai)}{r:bv×Int}(h:gy a0 a1 a2=some r):EvP prog az ext 15 [.d (ar.pd a0),.d (al.pd a1),rM ai.pd a2] [] (.tup [.d (bv.pd r.1),rI r.2],[]):=by
 refine Ev.body Z Tryz.func15 Z Zk<|gU Z<|sB (.ptr 48 0) 48 (.var (ar.rc a0))<|sB (.ptr 64 0) 64 (.var [rM aq.pd a1.aJ])<|sB (.ptr 96 0) 96 (.var zZ0)<|sV (r0)<|sN<|gU Z<|sV (.d (ar.pd a0))<|sV (.d (al.pd a1))<|sM Z<|bE h fun x1 h1 h=>cR (.tup [.d (aU.pd x1.1),rI x1.2]) [] (rn h1)<|sM Z<|sV (.d (aU.pd x1.1)) ?_
 refine sV (rI x1.2)<|sB (.ptr 128 0) 128 (.var [.dO,.dO,.dO])<|sS 128 (.var (aU.rc x1.1))<|sA Z<|sN<|qS<|gU Z<|sM Z<|sF h ?_ ?_<;>intro h
 ·refine sN<|cT<|gU Z<|sG (.agg zZ0)<|sM Z<|sH 96 (.var zZ0)<|sA Z<|sN<|qR ?_
  cases oI h
  exact qG
 refine sN<|cF<|qK<|gU Z<|sV (.d (aU.pd x1.1))<|sV (.d (ar.pd a0))<|bE h fun x3 h3 h=>cR (.tup [.d (ah.pd x3.1),rI x3.2]) [] (qo h3)<|sM Z<|sV (.d (ah.pd x3.1))<|sV (rI x3.2)<|sB (.ptr 160 0) 160 (.var [r0,r0,r0,r0,r0,r0,r0,.dO,.dO,.dO,r0])<|sH 160 (.var (ah.rc x3.1))<|sA Z<|sN ?_
 refine qS<|gU Z<|sM Z<|sF h ?_ ?_<;>intro h
 ·refine sN<|cT<|gU Z<|sG (.agg zZ0)<|sM Z<|sH 96 (.var zZ0)<|sA Z<|sN<|qR ?_
  cases oI h
  exact qG
 refine sN<|cF<|qK<|gU Z<|sV (.d (ah.pd x3.1))<|sV (.ptr 48 19)<|sL Z<|bE h fun x5 h5 h=>cR (.tup [.d (ak.pd x5.1),rI x5.2]) [] (od h5)<|sM Z<|sV (.d (ak.pd x5.1))<|sV (rI x5.2)<|sB (.ptr 176 0) 176 (.var zZ1)<|sH 176 (.var (ak.rc x5.1))<|sA Z ?_
 refine sN<|qS<|gU Z<|sM Z<|sF h ?_ ?_<;>intro h
 ·refine sN<|cT<|gU Z<|sG (.agg zZ0)<|sM Z<|sH 96 (.var zZ0)<|sA Z<|sN<|qR ?_
  cases oI h
  exact qG
 refine sN<|cF<|qK<|gU Z<|sV (.ptr 128 0)<|sL Z<|sV (.d (ak.pd x5.1))<|sG (.d (.agg [.lst (x1.1.dv.map ai.pd),.int .i64 x5.1.aX.fX,.int .i64 x5.1.aX.fY,.int .i64 x5.1.aX.fZ,.int .i64 x5.1.bn,.int .i64 x5.1.bq,.int .i64 x5.1.fq,.int .i64 x5.1.bh.aI.fX,.int .i64 x5.1.bh.aI.fY,.int .i64 x5.1.bh.aI.fZ,.int .i64 x5.1.bh.aC.fX,.int .i64 x5.1.bh.aC.fY,.int .i64 x5.1.bh.aC.fZ,.int .i64 0,.int .i64 0,.int .i64 0]))<|sB (.ptr 192 0) 192 (.var zZ0)<|sH 192 (.var (rM ai.pd x1.1.dv::ak.rc x5.1++[r0,r0,r0]))<|sN<|qS<|gU Z<|sV (.d (aU.pd x1.1))<|sV (.d (ar.pd a0)) ?_
 refine sV (.ptr 176 6)<|sV (.d (ag.pd x5.1.bh))<|bE h fun x7 h7 h=>cD (pf h7)<|sA Z<|sN<|gU Z<|sM Z<|sE (rI (x7.length:Int)) (dX _ _)<|sF h ?_ ?_<;>intro h
 ·refine sN<|cT<|gU Z<|sM Z<|sE (rI (x7.length:Int)) (dX _ _)<|sV (.ptr 192 15)<|sS 192 (.var (rM ai.pd x1.1.dv::ak.rc x5.1++[r0,r0,rI (x7.length:Int)]))<|sN<|gU Z<|sM Z<|bE h fun x9 h9 h=>cR (.tup [.d (aB.pd x9.1),rI x9.2]) [] (pC h9)<|sM Z<|sV (.d (aB.pd x9.1))<|sV (rI x9.2) ?_
  refine sV (.ptr 192 13)<|sS 192 (.var (rM ai.pd x1.1.dv::ak.rc x5.1++aB.rc x9.1++[rI (x7.length:Int)]))<|sA Z<|sN<|gU Z<|sM Z<|sF h ?_ ?_<;>intro h
  ·refine sN<|cT<|gU Z<|sG (.agg zZ0)<|sM Z<|sH 96 (.var zZ0)<|sA Z<|sN<|qR ?_
   cases oI h
   exact qG
  refine sN<|cF<|qK<|gU Z<|sV (.d (.agg [.lst (x1.1.dv.map ai.pd),.int .i64 x5.1.aX.fX,.int .i64 x5.1.aX.fY,.int .i64 x5.1.aX.fZ,.int .i64 x5.1.bn,.int .i64 x5.1.bq,.int .i64 x5.1.fq,.int .i64 x5.1.bh.aI.fX,.int .i64 x5.1.bh.aI.fY,.int .i64 x5.1.bh.aI.fZ,.int .i64 x5.1.bh.aC.fX,.int .i64 x5.1.bh.aC.fY,.int .i64 x5.1.bh.aC.fZ,.int .i64 x9.1.aI,.int .i64 x9.1.aC,.int .i64 (x7.length:Int)]))<|sH 96 (.var (rM ai.pd x1.1.dv::ak.rc x5.1++aB.rc x9.1++[rI (x7.length:Int)]))<|sV (r0)<|sN<|qR ?_
  cases oI h
  exact qG
 refine sN<|cF<|qK<|gU Z<|sV (.d (.agg [.lst (x1.1.dv.map ai.pd),.int .i64 x5.1.aX.fX,.int .i64 x5.1.aX.fY,.int .i64 x5.1.aX.fZ,.int .i64 x5.1.bn,.int .i64 x5.1.bq,.int .i64 x5.1.fq,.int .i64 x5.1.bh.aI.fX,.int .i64 x5.1.bh.aI.fY,.int .i64 x5.1.bh.aI.fZ,.int .i64 x5.1.bh.aC.fX,.int .i64 x5.1.bh.aC.fY,.int .i64 x5.1.bh.aC.fZ,.int .i64 0,.int .i64 0,.int .i64 0]))<|sH 96 (.var (rM ai.pd x1.1.dv::ak.rc x5.1++[r0,r0,r0]))<|sV (r0)<|sN<|qR ?_
 cases oI h
 exact qG
theorem n7{a0:ai}{a1:ai}{r:Int}(h:jx a0 a1=some r):EvP prog az ext 42 [.d (ai.pd a0),.d (ai.pd a1)] [] (rI r,[]):=by
 refine Ev.body Z Tryz.func42 Z Zk<|gU Z<|sB (.ptr 32 0) 32 (.var (ai.rc a0))<|sB (.ptr 48 0) 48 (.var (ai.rc a1))<|sV (r0)<|sN<|WC.cI Z Z<|sV (.ptr 32 4)<|sL Z<|sV (.ptr 48 4)<|sL Z<|bE h fun x1 h1 h=>cD (bL h1)<|sV (.d (ai.pd a0))<|sV (.d (ai.pd a1)) ?_
 refine bE h fun x2 h2 h=>cD (rP h2)<|sV (.d (.lst ([x1,x2].map (PD.int .i64))))<|bE h fun x3 h3 h=>cD (ic h3)<|sA Z ?_
 refine sN<|sO<|qR ?_
 cases oI h
 exact qG
theorem lC{a0:(List ai)}{r:ai}(h:eW a0=some r):EvP prog az ext 134 [rM ai.pd a0,.d (.raw (.func (.func 42) #[] #[]))] [] (.d (ai.pd r),[]):=by
 refine Ev.body Z Tryz.func134 Z Zk<|gU Z<|sB (.ptr 64 0) 64 (.var zZ2)<|sN<|qS<|gU Z<|sM Z<|sE (rI (a0.length:Int)) (dX _ _)<|sF h ?_ ?_<;>intro h
 ·refine sN<|cT<|WC.region Z Z<|sG (.ifc 9 (rS [115,108,105,99,101,115,46,77,105,110,70,117,110,99,58,32,101,109,112,116,121,32,108,105,115,116])) ?_
  cases h
 refine sN<|cF<|qK<|gU Z<|sM Z<|bE h fun x2 h2 h=>eG h2 Z<|sV (.d (ai.pd x2))<|sB (.ptr 80 0) 80 (.var zZ2)<|sH 80 (.var (ai.rc x2))<|sN<|qS<|gU Z<|sV (rI 1)<|sN ?_
 refine bE h fun o29 ho29 h=>WC.block (WC.loop (WL.fV ho29 (fun s R' B'=>dN prog 0 (A R' B') (az.at_ 134 0 5)=some (A [(0,rM ai.pd a0),(1,.d (.raw (.func (.func 42) #[] #[]))),(4,.ptr 64 0),(5,.ptr 80 0),(6,rI s.1)] [(64,.var zZ2),(80,.var [rS s.2.1,rS s.2.2.1,rS s.2.2.2.1,rS s.2.2.2.2.1,rI s.2.2.2.2.2.1,rI s.2.2.2.2.2.2.1,rI s.2.2.2.2.2.2.2.1,rI s.2.2.2.2.2.2.2.2.1,rI s.2.2.2.2.2.2.2.2.2])])) (fun o e R' B'=>e= .exit 0∧dN prog 0 (A R' B') (az.at_ 134 0 9)=some (A [(4,.ptr 64 0),(5,.ptr 80 0)] [(64,.var zZ2),(80,.var [rS o.1,rS o.2.1,rS o.2.2.1,rS o.2.2.2.1,rI o.2.2.2.2.1,rI o.2.2.2.2.2.1,rI o.2.2.2.2.2.2.1,rI o.2.2.2.2.2.2.2.1,rI o.2.2.2.2.2.2.2.2])])) Z ?_ ?_))
 ·rintro⟨s3,s4,s5,s6,s7,s8,s9,s10,s11,s12⟩ R' B' q22 hI h
  refine qS<|gS Z hI<|sM Z<|sM Z<|sE (rI (a0.length:Int)) (dX _ _)<|sF h ?_ ?_<;>intro h
  ·refine sN<|cT<|qK<|qS<|qB<|WC.cI Z Z<|sM Z<|sM Z<|sM Z<|bE h fun x24 h24 h=>eG h24 Z<|sV (.d (ai.pd x24))<|sV (.d (ai.pd (ai.mk (au.mk s4 s5 s6 s7) s8 s9 s10 s11 s12)))<|bE h fun x25 h25 h=>cD (n7 h25) ?_
   refine sF h ?_ ?_<;>intro h
   ·refine sN<|sO<|cT<|WC.region Z Z<|sM Z<|sM Z<|bE h fun x27 h27 h=>eG h27 Z<|sV (.d (ai.pd x27))<|sH 80 (.var (ai.rc x27))<|sN<|WC.region Z Z<|sM Z<|sV (rI (rW (s3+(1:Int))))<|sA Z<|sN ?_
    cases oI h
    exact⟨rfl,rfl⟩
   refine sN<|sO<|cF<|qK<|WC.region Z Z<|sM Z<|sV (rI (rW (s3+(1:Int))))<|sA Z<|sN ?_
   cases oI h
   exact⟨rfl,rfl⟩
  refine sN<|cF<|qX ?_
  cases oI h
  exact⟨nofun,rfl,rfl⟩
 intro e R' B' he hq
 obtain⟨rfl,hI⟩:=hq
 refine qE<|gS Z hI<|sV (.d (ai.pd (ai.mk (au.mk o29.1 o29.2.1 o29.2.2.1 o29.2.2.2.1) o29.2.2.2.2.1 o29.2.2.2.2.2.1 o29.2.2.2.2.2.2.1 o29.2.2.2.2.2.2.2.1 o29.2.2.2.2.2.2.2.2)))<|sH 64 (.var [rS o29.1,rS o29.2.1,rS o29.2.2.1,rS o29.2.2.2.1,rI o29.2.2.2.2.1,rI o29.2.2.2.2.2.1,rI o29.2.2.2.2.2.2.1,rI o29.2.2.2.2.2.2.2.1,rI o29.2.2.2.2.2.2.2.2])<|sN<|qR ?_
 cases oI h
 exact qG
theorem event_name_ev{a0:(List ai)}{r:ai}(h:oD a0=some r):EvP prog az ext 67 [rM ai.pd a0] [] (.d (ai.pd r),[]):=by
 refine Ev.body Z Tryz.func67 Z Zk<|gU Z<|sB (.ptr 32 0) 32 (.var zZ2)<|sN<|qS<|gU Z<|sM Z<|sE (rI (a0.length:Int)) (dX _ _)<|sF h ?_ ?_<;>intro h
 ·refine sN<|cT<|gU Z<|sG (.d (ai.pd (ai.mk (au.mk [] [] [] []) 0 0 0 0 0)))<|sH 32 (.var zZ2)<|sN<|qR ?_
  cases oI h
  exact qG
 refine sN<|cF<|qK<|gU Z<|sM Z<|bE h fun x2 h2 h=>cD (lC h2)<|sH 32 (.var (ai.rc x2))<|sN<|qR ?_
 cases oI h
 exact qG
theorem names_compare_ev{a0:eY}{a1:aH}{a2:aH}{r:Int}(h:jA a0 a1 a2=some r):EvP prog az ext 69 [.d (eY.pd a0),.d (aH.pd a1),.d (aH.pd a2)] [] (rI r,[]):=by
 refine Ev.body Z Tryz.func69 Z Zk<|gU Z<|sB (.ptr 48 0) 48 (.var [])<|sB (.ptr 64 0) 64 (.var (aH.rc a1))<|sB (.ptr 80 0) 80 (.var (aH.rc a2))<|sV (r0)<|sN<|gU Z<|sV (.ptr 64 0)<|sV (.d (ai.pd a1.cb))<|sV (.ptr 80 0)<|sV (.d (ai.pd a2.cb))<|bE h fun x1 h1 h=>cD (n7 h1)<|sA Z ?_
 refine sN<|qR ?_
 cases oI h
 exact qG
theorem gx{a1:Int}{a2:Int}{d0:(List aH)}{r:(List aH)}(h:cO a1 a2 d0=some r):EvP prog az ext 208 [.ref 0 0,rI a1,rI a2,.d (.raw (.func (.func 69) #[.agg #[]] #[]))] [.arr 0 86 (d0.map aH.pd)] (.tup [],[.arr 0 86 (r.map aH.pd)]):=by
 refine Ev.body Z Tryz.func208 Z Zk<|gU Z<|sM Z<|sV (rI (rW (a1+(1:Int))))<|sA Z<|sN<|bE h fun o35 ho35 h=>?_
 cases oI h
 refine WC.block (WC.loop (WL.wI ho35 (fun s R' B'=>dN prog 1 (A R' B') (az.at_ 208 1 1)=some (A [(0,.ref 0 0),(1,rI a1),(2,rI a2),(3,.d (.raw (.func (.func 69) #[.agg #[]] #[]))),(8,rI s.1)] [(0,.arr 0 86 (s.2.map aH.pd))])) Z ?_))
 rintro⟨s1,s2⟩ R' B' q3 hI h
 refine qS<|gS Z hI<|sM Z<|sM Z<|sF h ?_ ?_<;>intro h
 ·refine sN<|cT<|qK<|qS<|qB<|gU Z<|sM Z<|sA Z<|sN<|bE h fun o32 ho32 h=>WC.block (WC.loop (WL.fV ho32 (fun s R' B'=>dN prog 1 (A R' B') (az.at_ 208 1 4)=some (A [(0,.ref 0 0),(1,rI a1),(2,rI a2),(3,.d (.raw (.func (.func 69) #[.agg #[]] #[]))),(8,rI s1),(9,rI s.1)] [(0,.arr 0 86 (s.2.map aH.pd))])) (fun o e R' B'=>e= .exit 2∧dN prog 1 (A R' B') (az.at_ 208 1 2)=some (A [(0,.ref 0 0),(1,rI a1),(2,rI a2),(3,.d (.raw (.func (.func 69) #[.agg #[]] #[]))),(8,rI o.1)] [(0,.arr 0 86 (o.2.map aH.pd))])) Z ?_ ?_))
  ·rintro⟨s5,s6⟩ R' B' q9 hI h
   refine qS<|WC.cI hI Z<|sM Z<|sM Z<|sF h ?_ ?_<;>intro h
   ·refine sM Z<|sM Z<|sM Z<|sM Z<|bE h fun x12 h12 h=>WO.qV h12 Z Z Z Z Z Z Z Z<|bE h fun x13 h13 h=>WO.oB h13 Z Z Z Z Z Z<|sM Z<|sM Z<|sV (rI (rW (s5-(1:Int))))<|bE h fun x15 h15 h=>WO.qV h15 Z Z Z Z Z Z Z Z<|bE h fun x16 h16 h=>WO.oB h16 Z Z Z Z Z Z ?_
    refine bE h fun x17 h17 h=>cD (names_compare_ev h17)<|sV (rB (decide (x17<(0:Int))))<|sF h ?_ ?_<;>intro h
    ·refine sN<|sO<|cT<|qK<|qS<|qB<|WC.kT Z Z<|sM Z<|sM Z<|sM Z<|sM Z<|sV (rI (rW (s5-(1:Int))))<|sM Z<|sM Z<|sV (rI (rW (s5-(1:Int))))<|bE h fun x20 h20 h=>?_
     refine WO.qV h20 Z Z Z Z Z Z Z Z<|bE h fun x21 h21 h=>WO.oB h21 Z Z Z Z Z Z<|sM Z<|sM Z<|bE h fun x23 h23 h=>WO.qV h23 Z Z Z Z Z Z Z Z<|bE h fun x24 h24 h=>WO.oB h24 Z Z Z Z Z Z<|bE h fun x26 h26 h=>WO.qV h26 Z Z Z Z Z Z Z Z<|bE h fun x27 h27 h=>WO.th (g:=aH.pd) (sz:=25) (p:=aH.pd x21) h27 (by intro _;kernel_rfl) (by intro _;kernel_rfl) Z Z Z Z Z Z Z Z Z<|bE h fun x29 h29 h=>WO.qV h29 Z Z Z Z Z Z Z Z ?_
     refine bE h fun x30 h30 h=>WO.th (g:=aH.pd) (sz:=25) (p:=aH.pd x24) h30 (by intro _;kernel_rfl) (by intro _;kernel_rfl) Z Z Z Z Z Z Z Z Z ?_
     refine sN<|sO<|WC.region Z Z<|sM Z<|sV (rI (rW (s5-(1:Int))))<|sA Z<|sN ?_
     cases oI h
     exact⟨rfl,rfl⟩
    refine sN<|sO<|cF<|qX ?_
    cases oI h
    exact⟨nofun,rfl,rfl⟩
   refine sM Z<|k3<|k3<|k3<|k3<|sU ?_
   refine sN<|sO<|cF<|qX ?_
   cases oI h
   exact⟨nofun,rfl,rfl⟩
  intro e R' B' he hq
  obtain⟨rfl,hI⟩:=hq
  refine qE<|WC.region hI Z<|sM Z<|sV (rI (rW (o32.1+(1:Int))))<|sA Z<|sN ?_
  cases oI h
  exact⟨rfl,rfl⟩
 refine sN<|cF<|qX<|uD h (fun z33 hkz33 hz=>?_)
 obtain rfl:=Option.some.inj hz
 refine⟨(fun he=>by cases he),fun hz2=>?_⟩
 subst hz2
 have h:=hkz33
 refine qE ?_
 exact oI h▸qD
theorem iA:∀(nfu:Nat){a1:Int}{a2:Int}{a3:Int}{d0:(List aH)}{r:(List aH)}(_:eQ nfu a1 a2 a3 d0=some r),EvP prog az ext 135 [.ref 0 0,rI a1,rI a2,rI a3,.d (.raw (.func (.func 69) #[.agg #[]] #[]))] [.arr 0 86 (d0.map aH.pd)] (.tup [],[.arr 0 86 (r.map aH.pd)])
  |0,_,_,_,_,_,h=>by cases h
  |nfu+1,a1,a2,a3,d0,r,h=>by
   refine Ev.body Z Tryz.func135 Z Zk<|gU Z<|sT<|sN<|gU Z<|sT<|sN<|bE h fun o6 ho6 h=>WC.block (WC.loop (WL.fV ho6 (fun s R' B'=>dN prog 1 (A R' B') (az.at_ 135 1 2)=some (A [(0,.ref 0 0),(1,rI a1),(2,rI a2),(3,rI a3),(4,.d (.raw (.func (.func 69) #[.agg #[]] #[]))),(10,rB true),(11,rB true)] [(0,.arr 0 86 (d0.map aH.pd))])) (fun o e R' B'=>e= .ret∧finish prog (az.own 135) Tryz.f135 1 (A R' B')=some (.tup [],[.arr 0 86 (o.map aH.pd)])) Z ?_ ?_))
   ·rintro⟨⟩ R' B' q1 hI h
    refine qB<|gS Z hI<|sM Z<|sM Z<|sV (rI (rW (a2-a1)))<|sA Z<|sN<|qS<|gU Z<|sM Z<|sF h ?_ ?_<;>intro h
    ·refine sN<|cT<|gU Z<|sM Z<|sM Z<|sM Z<|sM Z<|bE h fun x3 h3 h=>cR (.tup []) [(0,.arr 0 86 (x3.map aH.pd))] (gx h3)<|sN<|qR ?_
     cases oI h
     exact⟨nofun,rfl,rfl⟩
    refine sN<|cF<|qK<|qS<|gU Z<|sM Z<|sF h ?_ ?_<;>intro h
    ·refine sN<|cT<|gU Z<|sM Z<|sM Z<|sM Z<|sM Z ?_
     cases h
    refine sN<|cF<|qK<|qS<|gU Z<|sM Z<|sU<|sN<|cF<|qK<|gU Z<|sM Z<|sM Z<|sM Z<|sM Z ?_
    cases h
   intro e R' B' he hq
   obtain⟨rfl,hf⟩:=hq
   cases oI h
   exact hf
theorem iV{a1:Int}{a2:Int}{a3:Int}{d0:(List aH)}{r:(List aH)}(h:cC a1 a2 a3 d0=some r):EvP prog az ext 135 [.ref 0 0,rI a1,rI a2,rI a3,.d (.raw (.func (.func 69) #[.agg #[]] #[]))] [.arr 0 86 (d0.map aH.pd)] (.tup [],[.arr 0 86 (r.map aH.pd)]):=
  let⟨n,hn⟩:=Cb h;iA n hn
theorem kV{d0:(List aH)}{r:(List aH)}(h:dn d0=some r):EvP prog az ext 68 [.ref 0 0,.d (.raw (.func (.func 69) #[.agg #[]] #[]))] [.arr 0 86 (d0.map aH.pd)] (.tup [],[.arr 0 86 (r.map aH.pd)]):=by
 refine Ev.body Z Tryz.func68 Z Zk<|gU Z<|sM Z<|WO.vG Z Z Z Z Z Z Z Z Z<|sA Z<|sN<|WC.region Z Z<|sM Z<|sM Z<|sM Z<|sV (.d (.int .u64 (IntKind.wrap .u64 (d0.length:Int))))<|bE h fun x1 h1 h=>cD (pu h1)<|sM Z<|bE h fun x2 h2 h=>?_
 refine cR (.tup []) [(0,.arr 0 86 (x2.map aH.pd))] (iV h2)<|sN ?_
 exact oI h▸qD
theorem nQ{a0:ar}{a1:al}{a2:(List ai)}{r:(List aH)×(List ai)×Int}(h:fe a0 a1 a2=some r):EvP prog az ext 20 [.d (ar.pd a0),.d (al.pd a1),rM ai.pd a2] [] (.tup [rM aH.pd r.1,rM ai.pd r.2.1,rI r.2.2],[]):=by
 refine Ev.body Z Tryz.func20 Z Zk<|gU Z<|sB (.ptr 48 0) 48 (.var (ar.rc a0))<|sB (.ptr 64 0) 64 (.var [rM aq.pd a1.aJ])<|sV .dO<|sV .dO<|sV (r0)<|sN<|gU Z<|sV (.d (ar.pd a0))<|sV (.d (al.pd a1))<|sM Z<|bE h fun x1 h1 h=>cR (.tup [rM ai.pd x1.1,rM aj.pd x1.2.1,rI x1.2.2]) [] (event_usable_ev h1)<|sM Z ?_
 refine sV (rM ai.pd x1.1)<|sV (rM aj.pd x1.2.1)<|sV (rI x1.2.2)<|sA Z<|sA Z<|sA Z<|sN<|qS<|gU Z<|sM Z<|sF h ?_ ?_<;>intro h
 ·refine sN<|cT<|gU Z<|sM Z<|sV .dO<|sV .dO<|sA Z<|sN<|qR ?_
  cases oI h
  exact qG
 refine sN<|cF<|qK<|gU Z<|sV (.ptr 48 0)<|sV (.d (aG.pd a0.ae))<|sM Z<|bE h fun x3 h3 h=>cR (.tup [rM a8.pd x3.1,rL x3.2.1,rI x3.2.2]) [] (ov h3)<|sM Z<|sV (rM a8.pd x3.1)<|sV (rL x3.2.1)<|sV (rI x3.2.2)<|sA Z<|sA Z ?_
 refine sA Z<|sN<|qS<|gU Z<|sM Z<|sF h ?_ ?_<;>intro h
 ·refine sN<|cT<|gU Z<|sM Z<|sV .dO<|sV .dO<|sA Z<|sN<|qR ?_
  cases oI h
  exact qG
 refine sN<|cF<|qK<|gU Z<|sV .dO<|sN<|qS<|gU Z<|sM Z<|sE (rI (x3.1.length:Int)) (dX _ _)<|sV (r0)<|sN<|bE h fun o28 ho28 h=>WC.block (WC.loop (WL.fV ho28 (fun s R' B'=>dN prog 0 (A R' B') (az.at_ 20 0 9)=some (A [(3,.ptr 48 0),(4,.ptr 64 0),(9,rM ai.pd x1.1),(13,rL x3.2.1),(14,.ref 1360 0),(47,rM a8.pd x3.1),(48,rI (x3.1.length:Int)),(49,rI s.1)] [(48,.var (ar.rc a0)),(64,.var [rM aq.pd a1.aJ]),(1360,.arr 0 86 (s.2.map aH.pd))])) (fun o e R' B'=>match o with| .inl y=>e= .exit 0∧dN prog 0 (A R' B') (az.at_ 20 0 22)=some (A [(9,rM ai.pd x1.1),(13,rL x3.2.1),(14,.ref 1360 0)] [(1360,.arr 0 86 (y.map aH.pd))])| .inr r=>e= .ret∧finish prog (az.own 20) Tryz.f20 0 (A R' B')=some (.tup [rM aH.pd r.1,rM ai.pd r.2.1,rI r.2.2],[])) Z ?_ ?_))
 ·rintro⟨s5,s6⟩ R' B' q8 hI h
  refine gS Z hI<|sF h ?_ ?_<;>intro h
  ·refine sN<|qS<|cT<|qK<|qS<|qB<|gU Z<|bE h fun x10 h10 h=>eG h10 Z<|sV (.d (a8.pd x10))<|sB (.ptr 256 0) 256 (.var [.dO,r0,r0,r0,r0])<|sS 256 (.var (a8.rc x10))<|sN<|gU Z<|sV .dO ?_
   refine sN<|qS<|gU Z<|sV (.ptr 256 0)<|sL Z<|sE (rI (x10.cz.length:Int)) (dX _ _)<|sV (r0)<|sN<|bE h fun o22 ho22 h=>WC.block (WC.loop (WL.fV ho22 (fun s R' B'=>dN prog 0 (A R' B') (az.at_ 20 0 13)=some (A [(3,.ptr 48 0),(4,.ptr 64 0),(9,rM ai.pd x1.1),(13,rL x3.2.1),(14,.ref 1360 0),(17,.ref 1056 0),(47,rM a8.pd x3.1),(48,rI (x3.1.length:Int)),(49,rI s5),(54,rL x10.cz),(55,rI (x10.cz.length:Int)),(56,rI s.1)] [(48,.var (ar.rc a0)),(64,.var [rM aq.pd a1.aJ]),(1056,.arr 0 66 (s.2.map ai.pd)),(1360,.arr 0 86 (s6.map aH.pd))])) (fun o e R' B'=>e= .exit 2∧dN prog 0 (A R' B') (az.at_ 20 0 17)=some (A [(3,.ptr 48 0),(4,.ptr 64 0),(9,rM ai.pd x1.1),(13,rL x3.2.1),(14,.ref 1360 0),(17,.ref 1056 0),(47,rM a8.pd x3.1),(48,rI (x3.1.length:Int)),(49,rI o.1)] [(48,.var (ar.rc a0)),(64,.var [rM aq.pd a1.aJ]),(1056,.arr 0 66 (o.2.2.map ai.pd)),(1360,.arr 0 86 (o.2.1.map aH.pd))])) Z ?_ ?_))
   ·rintro⟨s11,s12⟩ R' B' q16 hI h
    refine gS Z hI<|sF h ?_ ?_<;>intro h
    ·refine sN<|qS<|cT<|qK<|qS<|qB<|gU Z<|bE h fun x18 h18 h=>eG h18 Z<|sC Z<|sA Z<|sN<|WC.region Z Z<|sM Z<|sM Z ?_
     refine sM Z<|bE h fun x19 h19 h=>eG h19 Z<|sV (.d (ai.pd x19))<|sG (.d (.lst ([x19].map ai.pd)))<|bE h fun x20 h20 h=>aR h20 (fun _=>Z) Z<|sA Z<|sN<|WC.region Z Z<|sV (rI (rW (s11+(1:Int))))<|sM Z<|sN ?_
     cases oI h
     exact⟨rfl,rfl⟩
    refine sN<|qS<|cF<|qX ?_
    cases oI h
    exact⟨nofun,rfl,rfl⟩
   intro e R' B' he hq
   obtain⟨rfl,hI⟩:=hq
   refine qE<|gS Z hI<|sV (.d (ar.pd a0))<|sV (.d (al.pd a1))<|sM Z<|bE h fun x23 h23 h=>cR (.tup [.d (bv.pd x23.1),rI x23.2]) [(1056,.dead)] (rY h23)<|sM Z<|sV (.d (bv.pd x23.1))<|sV (rI x23.2)<|sB (.ptr 320 0) 320 (.var zZ0)<|sH 320 (.var (bv.rc x23.1))<|sA Z<|sN<|qS ?_
   refine gU Z<|sM Z<|sF h ?_ ?_<;>intro h
   ·refine sN<|cT<|gU Z<|sM Z<|sV .dO<|sV .dO<|sA Z<|sN<|qR ?_
    cases oI h
    exact⟨nofun,rfl,rfl⟩
   refine sN<|cF<|qK<|WC.kT Z Z<|sM Z<|sV (.ptr 320 0)<|sL Z<|bE h fun x25 h25 h=>cD (event_name_ev h25)<|sV (.d (bv.pd x23.1))<|sG (.d (.agg [.str x25.aw.ba,.str x25.aw.aN,.str x25.aw.av,.str x25.aw.bc,.int .i64 x25.bn,.int .i64 x25.aQ,.int .i64 x25.bw,.int .i64 x25.bg,.int .i64 x25.bz,.lst (x23.1.ec.map ai.pd),.int .i64 x23.1.av.aX.fX,.int .i64 x23.1.av.aX.fY,.int .i64 x23.1.av.aX.fZ,.int .i64 x23.1.av.bn,.int .i64 x23.1.av.bq,.int .i64 x23.1.av.fq,.int .i64 x23.1.av.bh.aI.fX,.int .i64 x23.1.av.bh.aI.fY,.int .i64 x23.1.av.bh.aI.fZ,.int .i64 x23.1.av.bh.aC.fX,.int .i64 x23.1.av.bh.aC.fY,.int .i64 x23.1.av.bh.aC.fZ,.int .i64 x23.1.bQ.aI,.int .i64 x23.1.bQ.aC,.int .i64 x23.1.lf]))<|sG (.d (.lst ([(aH.mk x25 x23.1)].map aH.pd)))<|bE h fun x26 h26 h=>aR h26 (fun _=>Z) Z<|sA Z ?_
   refine sN<|sO<|WC.region Z Z<|sV (rI (rW (o22.1+(1:Int))))<|sM Z<|sN ?_
   cases oI h
   exact⟨rfl,rfl⟩
  refine sN<|qS<|cF<|qX ?_
  cases oI h
  exact⟨nofun,rfl,rfl⟩
 intro e R' B' he hq
 rcases o28 with y29|r30
 ·obtain⟨rfl,hI⟩:=hq
  refine qE<|gS Z hI<|sM Z<|sV (.d (eY.pd (eY.mk )))<|sV (.d (.raw (.func (.func 69) #[.agg #[]] #[])))<|bE h fun x31 h31 h=>cR (.tup []) [(1360,.arr 0 86 (x31.map aH.pd))] (kV h31)<|sN<|gU Z<|sV .dO<|sN<|qS<|gU Z<|sM Z<|sE (rI (x3.2.1.length:Int)) (dX _ _) ?_
  refine sV (r0)<|sN<|bE h fun o41 ho41 h=>WC.block (WC.loop (WL.fV ho41 (fun s R' B'=>dN prog 0 (A R' B') (az.at_ 20 0 25)=some (A [(9,rM ai.pd x1.1),(14,.ref 1360 0),(22,.ref 1648 0),(91,rL x3.2.1),(92,rI (x3.2.1.length:Int)),(93,rI s.1)] [(1360,.arr 0 86 (x31.map aH.pd)),(1648,.arr 0 66 (s.2.map ai.pd))])) (fun o e R' B'=>e= .exit 4∧dN prog 0 (A R' B') (az.at_ 20 0 29)=some (A [(14,.ref 1360 0),(22,.ref 1648 0)] [(1360,.arr 0 86 (x31.map aH.pd)),(1648,.arr 0 66 (o.map ai.pd))])) Z ?_ ?_))
  ·rintro⟨s32,s33⟩ R' B' q35 hI h
   refine gS Z hI<|sF h ?_ ?_<;>intro h
   ·refine sN<|qS<|cT<|qK<|qS<|qB<|gU Z<|bE h fun x37 h37 h=>eG h37 Z<|sC Z<|sA Z<|sN<|WC.region Z Z<|sM Z<|sM Z ?_
    refine sM Z<|bE h fun x38 h38 h=>eG h38 Z<|sV (.d (ai.pd x38))<|sG (.d (.lst ([x38].map ai.pd)))<|bE h fun x39 h39 h=>aR h39 (fun _=>Z) Z<|sA Z<|sN<|WC.region Z Z<|sV (rI (rW (s32+(1:Int))))<|sM Z<|sN ?_
    cases oI h
    exact⟨rfl,rfl⟩
   refine sN<|qS<|cF<|qX ?_
   cases oI h
   exact⟨nofun,rfl,rfl⟩
  intro e R' B' he hq
  obtain⟨rfl,hI⟩:=hq
  refine qE<|gS Z hI<|sM Z<|sM Z<|sA Z<|sA Z<|sV (r0)<|sN<|qR ?_
  exact oI h▸qD
 obtain⟨rfl,hf⟩:=hq
 cases oI h
 exact hf
theorem mu{a0:aH}{d0:ai}{r:Bool}(h:lc a0 d0=some r):EvP prog az ext 91 [.d (aH.pd a0),.ptr 0 0] [.var (ai.rc d0)] (rB r,[.var (ai.rc d0)]):=by
 refine Ev.body Z Tryz.func91 Z Zk<|gU Z<|sB (.ptr 32 0) 32 (.var (aH.rc a0))<|sU<|sN<|gU Z<|sV (.ptr 32 0)<|sV (.d (ai.pd a0.cb))<|sV (.d (ai.pd d0))<|WO.bin (eqE_66 a0.cb d0) Z Z Z Z Z<|sA Z<|sN<|qR ?_
 cases oI h
 exact qG
theorem lA{a0:(List aH)}{d0:ai}{r:Int}(h:eU a0 d0=some r):EvP prog az ext 90 [rM aH.pd a0,.clo 91 [.ptr 0 0]] [.var (ai.rc d0)] (rI r,[.var (ai.rc d0)]):=by
 refine Ev.body Z Tryz.func90 Z Zk<|gU Z<|sV (r0)<|sN<|qS<|gU Z<|sM Z<|sE (rI (a0.length:Int)) (dX _ _)<|sV (r0)<|sN<|bE h fun o8 ho8 h=>WC.block (WC.loop (WL.fV ho8 (fun s R' B'=>dN prog 1 (A R' B') (az.at_ 90 1 2)=some (A [(0,rM aH.pd a0),(1,.clo 91 [.ptr 0 0]),(7,rI (a0.length:Int)),(8,rI s)] [(0,.var (ai.rc d0))])) (fun o e R' B'=>match o with| .inl y=>e= .exit 0∧dN prog 1 (A R' B') (az.at_ 90 1 7)=some (A [] [(0,.var (ai.rc d0))])| .inr r=>e= .ret∧finish prog (az.own 90) Tryz.f90 1 (A R' B')=some (rI r,[.var (ai.rc d0)])) Z ?_ ?_))
 ·rintro s1 R' B' q2 hI h
  refine gS Z hI<|sF h ?_ ?_<;>intro h
  ·refine sN<|qS<|cT<|qK<|qS<|qB<|gU Z<|sM Z<|sA Z<|sN<|gU Z<|sM Z<|sM Z<|sM Z<|bE h fun x4 h4 h=>?_
   refine eG h4 Z<|sV (.d (aH.pd x4))<|bE h fun x5 h5 h=>ir h (fun hb6 h=>?_) (fun hb6 h=>?_)
   ·refine WO.lE (v:=rB true) (u:=[(0,.var (ai.rc d0))]) Z Z (fun _=>Z) Z Z Z Z Z (mu h5) Z Z (congrArg (fun b=>RV.d (.bool b)) hb6) Z<|sN<|cT<|gU Z<|sM Z<|sA Z<|sN<|qR ?_
    cases oI h
    exact⟨nofun,rfl,rfl⟩
   refine WO.lE (v:=rB false) (u:=[(0,.var (ai.rc d0))]) Z Z (fun _=>Z) Z Z Z Z Z (mu h5) Z Z (congrArg (fun b=>RV.d (.bool b)) hb6) Z<|sN<|cF<|qK<|WC.region Z Z<|sV (rI (rW (s1+(1:Int))))<|sM Z<|sN ?_
   cases oI h
   exact⟨rfl,rfl⟩
  refine sN<|qS<|cF<|qX ?_
  cases oI h
  exact⟨nofun,rfl,rfl⟩
 intro e R' B' he hq
 rcases o8 with y9|r10
 ·obtain⟨rfl,hI⟩:=hq
  refine qE<|gS Z hI<|sV (rI (-1))<|sN<|qR ?_
  cases oI h
  exact qG
 obtain⟨rfl,hf⟩:=hq
 cases oI h
 exact hf
theorem pz{a0:(List aH)}{a1:ai}{r:Int}(h:iD a0 a1=some r):EvP prog az ext 39 [rM aH.pd a0,.d (ai.pd a1)] [] (rI r,[]):=by
 refine Ev.body Z Tryz.func39 Z Zk<|gU Z<|sB (.ptr 48 0) 48 (.var (ai.rc a1))<|sV (r0)<|sN<|gU Z<|sM Z<|sV (.clo 91 [.ptr 48 0])<|bE h fun x1 h1 h=>cR (rI x1) [(48,.var (ai.rc a1))] (lA h1)<|sA Z<|sN<|qR ?_
 cases oI h
 exact qG
end Go.Dw.Em
