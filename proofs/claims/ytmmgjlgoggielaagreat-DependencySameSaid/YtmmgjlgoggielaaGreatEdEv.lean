
import Derived.Test.YtmmgjlgoggielaaGreatEdEvB

set_option maxRecDepth 100000
set_option maxHeartbeats 4000000
namespace Go.Dw.Ed
open Go.Proofs Go.Proofs.Tryz Go.Dw
theorem oB{a0:ag}{a1:Int}{r:(Option bM)×Int}(h:gP a0 a1=some r):EvP prog aN ext 108 [.d (ag.pd a0),rI a1] [] (match r.1 with|none=>(.tup [.d (.raw (.pointer none)),rI r.2],[])|some yv=>(.tup [.ptr 0 0,rI r.2],[.var (bM.rc yv)])):=by
 refine Ev.body Z Tryz.func108 Z Zk<|gU Z<|sB (.ptr 32 0) 32 (.var (ag.rc a0))<|sV (.d (.raw (.pointer none)))<|sV (r0)<|sN<|qS<|gU Z<|sV (.d (ag.pd a0))<|bE h fun x1 h1 h=>cD (lL h1)<|sA Z<|sN<|gU Z<|sM Z ?_
 refine sF h ?_ ?_<;>intro h
 ·refine sN<|cT<|gU Z<|sM Z<|sV (.d (.raw (.pointer none)))<|sA Z<|sN<|qR ?_
  cases oI h
  exact qG
 refine sN<|cF<|qK<|qS<|gU Z<|sM Z<|sF h ?_ ?_<;>intro h
 ·refine sN<|cT<|gU Z<|sV (.d (.raw (.pointer none)))<|sV (rI 2)<|sN<|qR ?_
  cases oI h
  exact qG
 refine sN<|cF<|qK<|gU Z<|sV (.d (ag.pd a0))<|sG (.agg (ag.rc a0++[.mA,r0,r0,rB false,r0,r0,r0,r0,r0,r0,r0,r0,r0,r0,r0,r0]))<|sB (.ptr 304 0) 304 (.var (ag.rc a0++[.mA,r0,r0,rB false,r0,r0,r0,r0,r0,r0,r0,r0,r0,r0,r0,r0]))<|sA Z<|sN<|qS<|gU Z<|sM Z<|sV (.ptr 32 0)<|sV (.d (ah.pd a0.aK))<|bE h fun x4 h4 h=>?_
 refine cR (rI x4.1) [(304,.var (ag.rc a0++[.ref 368 0,rI x4.2.2,r0,rB false,r0,r0,r0,r0,r0,r0,r0,r0,r0,r0,r0,r0])),(368,.arr 0 194 (x4.2.1.map ak.pd))] (search_add_ev h4)<|sA Z<|sN<|gU Z<|sM Z<|sF h ?_ ?_<;>intro h
 ·refine sN<|cT<|gU Z<|sM Z<|sV (.d (.raw (.pointer none)))<|sA Z<|sN<|qR ?_
  cases oI h
  exact qG
 refine sN<|cF<|qK<|qS<|bE h fun o22 ho22 h=>WC.block (WC.loop (WL.pI ho22 (fun s=>gI 0 108 10 [(1,rI a1),(7,.ptr 304 0)] [(304,.var (ag.rc a0++ .ref 368 0::rI s.1::rI s.2.1::rB s.2.2.1::aj.rc s.2.2.2.1)),(368,.arr 0 194 (s.2.2.2.2.map ak.pd))]) (fun o=>match o with| .inl y=>gX 0 0 108 14 [(7,.ptr 304 0)] [(304,.var (ag.rc a0++rM ak.pd y.1::rI y.2.1::rI y.2.2.1::rB y.2.2.2.1::aj.rc y.2.2.2.2))]| .inr r=>gF 108 Tryz.f108 0 (match r.1 with|none=>(.tup [.d (.raw (.pointer none)),rI r.2],[])|some yv=>(.tup [.ptr 0 0,rI r.2],[.var (bM.rc yv)]))) Z ?_ ?_))
 ·rintro⟨s6,s7,s8,s9,s10⟩ R' B' q16 hI h
  unfold jH at h
  refine qS<|gS Z hI<|mM Z<|bE h fun x17 h17 h=>cR (rB x17) [(304,.var (ag.rc a0++ .ref 368 0::rI s6::rI s7::rB s8::aj.rc s9)),(368,.arr 0 194 (s10.map ak.pd))] (search_ended_ev h17)<|sF h ?_ ?_<;>intro h
  ·refine sN<|cT<|qK<|qB<|gU Z<|sM Z<|bE h fun x19 h19 h=>cR (rI x19.1) [(304,.var (ag.rc a0++ .ref 368 1::rI x19.2.1::rI x19.2.2.1::rB x19.2.2.2.1::aj.rc x19.2.2.2.2.1)),(368,.arr 1 194 (x19.2.2.2.2.2.map ak.pd))] (search_step_ev h19)<|sA Z<|sN<|gU Z<|sM Z<|sF h ?_ ?_<;>intro h
   ·refine sN<|cT<|gU Z<|sM Z<|sV (.d (.raw (.pointer none)))<|sA Z<|sN<|qR ?_
    cases oI h
    exact⟨nofun,rfl,rfl⟩
   refine sN<|cF<|qK ?_
   cases oI h
   exact⟨rfl,rfl⟩
  refine sN<|cF<|qX ?_
  cases oI h
  exact⟨nofun,rfl,rfl⟩
 intro e R' B' he hq
 rcases o22 with y23|r24
 ·obtain⟨rfl,hI⟩:=hq
  refine qE<|gS Z hI<|sM Z<|sA Z<|sV (r0)<|sN<|qR ?_
  cases oI h
  exact qG
 obtain⟨rfl,hf⟩:=hq
 cases oI h
 exact hf
theorem locate_run_evN{a0:ag}{a1:Int}{r:(Option bM)×Int}(h:gP a0 a1=some r)(ho:r.1=none):EvP prog aN ext 108 [.d (ag.pd a0),rI a1] [] (.tup [.d (.raw (.pointer none)),rI r.2],[]):=by
  have:=oB h;rw [ho]at this;exact this
theorem locate_run_evS{a0:ag}{a1:Int}{r:(Option bM)×Int}{yv:bM}(h:gP a0 a1=some r)(ho:r.1=some yv):EvP prog aN ext 108 [.d (ag.pd a0),rI a1] [] (.tup [.ptr 0 0,rI r.2],[.var (bM.rc yv)]):=by
  have:=oB h;rw [ho]at this;exact this
theorem geometry_Hull_ev{a0:ah}{a1:ah}{r:ah}(h:kz a0 a1=some r):EvP prog aN ext 109 [.d (ah.pd a0),.d (ah.pd a1)] [] (.d (ah.pd r),[]):=by
 refine Ev.body Z Tryz.func109 Z Zk<|gU Z<|sB (.ptr 32 0) 32 (.var (ah.rc a0))<|sB (.ptr 48 0) 48 (.var (ah.rc a1))<|sB (.ptr 64 0) 64 (.var zZ4)<|sN<|qS<|gU Z<|sV (.d (ah.pd a0))<|bE h fun x1 h1 h=>cD (bt h1)<|sF h ?_ ?_<;>intro h
 ·refine sM Z<|k3<|sT<|sN<|cT<|gU Z<|sG (.d (ah.pd (ah.mk (aa.mk 0 0 0) (aa.mk 0 0 0))))<|sH 64 (.var zZ4)<|sN<|qR ?_
  cases oI h
  exact qG
 refine sM Z<|sV (.d (ah.pd a1))<|bE h fun x3 h3 h=>cD (bt h3)<|sV (rB (!x3))<|sF h ?_ ?_<;>intro h
 ·refine sN<|cT<|gU Z<|sG (.d (ah.pd (ah.mk (aa.mk 0 0 0) (aa.mk 0 0 0))))<|sH 64 (.var zZ4)<|sN<|qR ?_
  cases oI h
  exact qG
 refine sN<|cF<|qK<|WC.cI Z Z<|sV (.ptr 32 0)<|sV (.d (aa.pd a0.aI))<|bE h fun x5 h5 h=>cD (bI h5)<|sV (.ptr 32 3)<|sV (.d (aa.pd a0.aC))<|bE h fun x6 h6 h=>cD (bI h6)<|sV (.ptr 48 0)<|sV (.d (aa.pd a1.aI))<|bE h fun x7 h7 h=>?_
 refine cD (bI h7)<|sV (.ptr 48 3)<|sV (.d (aa.pd a1.aC))<|bE h fun x8 h8 h=>cD (bI h8)<|sB (.ptr 80 0) 80 (.var [r0,r0,r0])<|sB (.ptr 96 0) 96 (.var [r0,r0,r0])<|sB (.ptr 112 0) 112 (.var [r0,r0,r0])<|sB (.ptr 128 0) 128 (.var [r0,r0,r0])<|sS 80 (.var [rI x5.a0,rI x5.a1,rI x5.a2])<|sS 96 (.var [rI x6.a0,rI x6.a1,rI x6.a2])<|sS 112 (.var [rI x7.a0,rI x7.a1,rI x7.a2])<|sS 128 (.var [rI x8.a0,rI x8.a1,rI x8.a2]) ?_
 refine sN<|sO<|qS<|gU Z<|sV (r0)<|sN<|WC.block (WC.loop ?_)
 refine WL.round<|WC.p7 (R0:=[(4,.ptr 64 0),(5,.ptr 80 0),(6,.ptr 96 0),(7,.ptr 112 0),(8,.ptr 128 0),(31,r0)]) (B0:=[(64,.var zZ4),(80,.var [rI x5.a0,rI x5.a1,rI x5.a2]),(96,.var [rI x6.a0,rI x6.a1,rI x6.a2]),(112,.var [rI x7.a0,rI x7.a1,rI x7.a2]),(128,.var [rI x8.a0,rI x8.a1,rI x8.a2])]) Z Z<|sT<|sN<|qS<|cT<|qK<|qS<|qB<|gU Z<|sM Z<|sA Z<|sN<|WC.pX Z Z<|sM Z ?_
 refine mM Z<|sV (.ptr 80 0)<|sL Z<|sM Z<|sV (.ptr 112 0)<|sL Z<|sV (rI (if x7.a0<x5.a0 then x7.a0 else x5.a0))<|sM Z<|sV (.ptr 96 0)<|sL Z<|sM Z<|sV (.ptr 128 0)<|sL Z<|sV (rI (if x8.a0>x6.a0 then x8.a0 else x6.a0)) ?_
 refine sV (.ptr 80 0)<|sS 80 (.var [rI (if x7.a0<x5.a0 then x7.a0 else x5.a0),rI x5.a1,rI x5.a2])<|sV (.ptr 96 0)<|sS 96 (.var [rI (if x8.a0>x6.a0 then x8.a0 else x6.a0),rI x6.a1,rI x6.a2]) ?_
 refine sN<|sO<|WC.region Z Z<|sV (rI 1)<|sM Z<|sN<|WL.round<|WC.p7 (R0:=[(4,.ptr 64 0),(5,.ptr 80 0),(6,.ptr 96 0),(7,.ptr 112 0),(8,.ptr 128 0),(31,rI 1)]) (B0:=[(64,.var zZ4),(80,.var [rI (if x7.a0<x5.a0 then x7.a0 else x5.a0),rI x5.a1,rI x5.a2]),(96,.var [rI (if x8.a0>x6.a0 then x8.a0 else x6.a0),rI x6.a1,rI x6.a2]),(112,.var [rI x7.a0,rI x7.a1,rI x7.a2]),(128,.var [rI x8.a0,rI x8.a1,rI x8.a2])]) Z Z<|sT<|sN<|qS<|cT<|qK<|qS<|qB<|gU Z ?_
 refine sM Z<|sA Z<|sN<|WC.pX Z Z<|mM Z<|sM Z<|sV (.ptr 80 1)<|sL Z<|sM Z<|sV (.ptr 112 1)<|sL Z<|sV (rI (if x7.a1<x5.a1 then x7.a1 else x5.a1))<|sM Z<|sV (.ptr 96 1) ?_
 refine sL Z<|sM Z<|sV (.ptr 128 1)<|sL Z<|sV (rI (if x8.a1>x6.a1 then x8.a1 else x6.a1))<|sV (.ptr 80 1)<|sS 80 (.var [rI (if x7.a0<x5.a0 then x7.a0 else x5.a0),rI (if x7.a1<x5.a1 then x7.a1 else x5.a1),rI x5.a2])<|sV (.ptr 96 1)<|sS 96 (.var [rI (if x8.a0>x6.a0 then x8.a0 else x6.a0),rI (if x8.a1>x6.a1 then x8.a1 else x6.a1),rI x6.a2]) ?_
 refine sN<|sO<|WC.region Z Z<|sV (rI 2)<|sM Z<|sN<|WL.round<|WC.p7 (R0:=[(4,.ptr 64 0),(5,.ptr 80 0),(6,.ptr 96 0),(7,.ptr 112 0),(8,.ptr 128 0),(31,rI 2)]) (B0:=[(64,.var zZ4),(80,.var [rI (if x7.a0<x5.a0 then x7.a0 else x5.a0),rI (if x7.a1<x5.a1 then x7.a1 else x5.a1),rI x5.a2]),(96,.var [rI (if x8.a0>x6.a0 then x8.a0 else x6.a0),rI (if x8.a1>x6.a1 then x8.a1 else x6.a1),rI x6.a2]),(112,.var [rI x7.a0,rI x7.a1,rI x7.a2]),(128,.var [rI x8.a0,rI x8.a1,rI x8.a2])]) Z Z<|sT<|sN<|qS<|cT<|qK<|qS<|qB<|gU Z ?_
 refine sM Z<|sA Z<|sN<|WC.pX Z Z<|mM Z<|sM Z<|sV (.ptr 80 2)<|sL Z<|sM Z<|sV (.ptr 112 2)<|sL Z<|sV (rI (if x7.a2<x5.a2 then x7.a2 else x5.a2))<|sM Z<|sV (.ptr 96 2) ?_
 refine sL Z<|sM Z<|sV (.ptr 128 2)<|sL Z<|sV (rI (if x8.a2>x6.a2 then x8.a2 else x6.a2))<|sV (.ptr 80 2)<|sS 80 (.var [rI (if x7.a0<x5.a0 then x7.a0 else x5.a0),rI (if x7.a1<x5.a1 then x7.a1 else x5.a1),rI (if x7.a2<x5.a2 then x7.a2 else x5.a2)])<|sV (.ptr 96 2)<|sS 96 (.var [rI (if x8.a0>x6.a0 then x8.a0 else x6.a0),rI (if x8.a1>x6.a1 then x8.a1 else x6.a1),rI (if x8.a2>x6.a2 then x8.a2 else x6.a2)]) ?_
 refine sN<|sO<|WC.region Z Z<|sV (rI 3)<|sM Z<|sN<|WL.round<|WC.p7 (R0:=[(4,.ptr 64 0),(5,.ptr 80 0),(6,.ptr 96 0),(7,.ptr 112 0),(8,.ptr 128 0),(31,rI 3)]) (B0:=[(64,.var zZ4),(80,.var [rI (if x7.a0<x5.a0 then x7.a0 else x5.a0),rI (if x7.a1<x5.a1 then x7.a1 else x5.a1),rI (if x7.a2<x5.a2 then x7.a2 else x5.a2)]),(96,.var [rI (if x8.a0>x6.a0 then x8.a0 else x6.a0),rI (if x8.a1>x6.a1 then x8.a1 else x6.a1),rI (if x8.a2>x6.a2 then x8.a2 else x6.a2)]),(112,.var [rI x7.a0,rI x7.a1,rI x7.a2]),(128,.var [rI x8.a0,rI x8.a1,rI x8.a2])]) Z Z<|sU<|sN<|qS<|cF<|qX<|qE<|WC.cI Z Z<|sV (.d (aT.pd (aT.mk (if x7.a0<x5.a0 then x7.a0 else x5.a0) (if x7.a1<x5.a1 then x7.a1 else x5.a1) (if x7.a2<x5.a2 then x7.a2 else x5.a2)))) ?_
 refine bE h fun x9 h9 h=>cD (bR h9)<|sV (.d (aT.pd (aT.mk (if x8.a0>x6.a0 then x8.a0 else x6.a0) (if x8.a1>x6.a1 then x8.a1 else x6.a1) (if x8.a2>x6.a2 then x8.a2 else x6.a2))))<|bE h fun x10 h10 h=>cD (bR h10)<|sG (.d (ah.pd (ah.mk x9 x10)))<|sH 64 (.var (aa.rc x9++aa.rc x10)) ?_
 refine sN<|sO<|qR ?_
 cases oI h
 exact qG
theorem mI{a0:ag}{a1:Int}{r:aj×Int}(h:c7 a0 a1=some r):EvP prog aN ext 57 [.d (ag.pd a0),rI a1] [] (.tup [.d (aj.pd r.1),rI r.2],[]):=by
 refine Ev.body Z Tryz.func57 Z Zk<|gU Z<|sB (.ptr 32 0) 32 (.var (ag.rc a0))<|sB (.ptr 64 0) 64 (.var zZ1)<|sV (r0)<|sN<|gU Z<|sV (.d (ag.pd a0))<|sM Z<|bE h fun x1 h1 h=>opt_elim h (fun hox1 h=>?_) (fun y2 hox1 h=>?_)
 ·refine cR (.tup [.d (.raw (.pointer none)),rI x1.2]) [] (locate_run_evN h1 hox1)<|sM Z<|sV (.d (.raw (.pointer none)))<|sV (rI x1.2)<|sA Z<|sA Z<|sN<|qS<|gU Z<|sM Z<|sF h ?_ ?_<;>intro h
  ·refine sN<|cT<|gU Z<|sG (.d (aj.pd (aj.mk (aa.mk 0 0 0) 0 0 0 (ah.mk (aa.mk 0 0 0) (aa.mk 0 0 0)))))<|sM Z<|sH 64 (.var zZ1)<|sA Z<|sN<|qR ?_
   cases oI h
   exact qG
  refine sN<|cF<|qK<|gU Z<|sM Z ?_
  cases h
 refine cR (.tup [.ptr 224 0,rI x1.2]) [(224,.var (bM.rc y2))] (locate_run_evS h1 hox1)<|sM Z<|sV (.ptr 224 0)<|sV (rI x1.2)<|sA Z<|sA Z<|sN<|qS<|gU Z<|sM Z<|sF h ?_ ?_<;>intro h
 ·refine sN<|cT<|gU Z<|sG (.d (aj.pd (aj.mk (aa.mk 0 0 0) 0 0 0 (ah.mk (aa.mk 0 0 0) (aa.mk 0 0 0)))))<|sM Z<|sH 64 (.var zZ1)<|sA Z<|sN<|qR ?_
  cases oI h
  exact qG
 refine sN<|cF<|qK<|gU Z<|sM Z<|sV (.ptr 224 0)<|sV (.ptr 224 15)<|sV (.d (aj.pd y2.bQ))<|sB (.ptr 128 0) 128 (.var zZ1)<|sH 128 (.var (aj.rc y2.bQ))<|sN<|gU Z<|sV (.ptr 128 4)<|sL Z<|sV (.ptr 128 0) ?_
 refine sV (.d (aa.pd y2.bQ.aU))<|sV (.ptr 128 0)<|sV (.d (aa.pd y2.bQ.aU))<|sG (.d (ah.pd (ah.mk y2.bQ.aU y2.bQ.aU)))<|sV (.ptr 128 5)<|sS 128 (.var (aa.rc y2.bQ.aU++rI y2.bQ.a7::rI y2.bQ.bi::rI y2.bQ.bi::ah.rc y2.bQ.aZ))<|sV (.ptr 128 6)<|sH 128 (.var (aa.rc y2.bQ.aU++rI y2.bQ.a7::rI y2.bQ.bi::rI y2.bQ.bi::aa.rc y2.bQ.aU++aa.rc y2.bQ.aU))<|sN<|qS<|gU Z<|sM Z<|sV (.ptr 224 0)<|sV (.ptr 224 11)<|sL Z ?_
 refine sE (rI (y2.jD.length:Int)) (pf _ _)<|sV (r0)<|sN<|bE h fun o16 ho16 h=>WC.block (WC.loop (WL.pI ho16 (fun s=>gI 0 57 7 [(4,.ptr 64 0),(8,.ptr 128 0),(37,rM ak.pd y2.jD),(38,rI (y2.jD.length:Int)),(39,rI s.1)] [(64,.var zZ1),(128,.var (aa.rc y2.bQ.aU++rI y2.bQ.a7::rI y2.bQ.bi::rI s.2.1::ah.rc s.2.2))]) (fun o=>gX 0 0 57 13 [(4,.ptr 64 0),(8,.ptr 128 0)] [(64,.var zZ1),(128,.var (aa.rc y2.bQ.aU++rI y2.bQ.a7::rI y2.bQ.bi::rI o.1::ah.rc o.2))]) Z ?_ ?_))
 ·rintro⟨s5,s6,s7⟩ R' B' q10 hI h
  refine gS Z hI<|sF h ?_ ?_<;>intro h
  ·refine sN<|qS<|cT<|qK<|qS<|qB<|gU Z<|bE h fun x12 h12 h=>eG h12 Z<|sV (.d (ak.pd x12))<|sB (.ptr 160 0) 160 (.var [r0,r0,r0,r0,r0,r0,r0,r0])<|sH 160 (.var (ak.rc x12))<|sN<|gU Z<|sV (.ptr 128 5) ?_
   refine sL Z<|sV (.ptr 160 6)<|sL Z<|sV (rI (if x12.ce<s6 then x12.ce else s6))<|sV (.ptr 128 5)<|sS 128 (.var (aa.rc y2.bQ.aU++rI y2.bQ.a7::rI y2.bQ.bi::rI (if x12.ce<s6 then x12.ce else s6)::ah.rc s7))<|sN<|gU Z<|sV (.ptr 160 6)<|sL Z<|sV (.ptr 128 4)<|sL Z<|sF h ?_ ?_<;>intro h
   ·refine sN<|cT<|WC.region Z Z<|sV (.ptr 128 6)<|sV (.d (ah.pd s7))<|sV (.ptr 160 0)<|sV (.d (ah.pd x12.jd))<|bE h fun x14 h14 h=>cD (geometry_Hull_ev h14)<|sV (.ptr 128 6)<|sH 128 (.var (aa.rc y2.bQ.aU++rI y2.bQ.a7::rI y2.bQ.bi::rI (if x12.ce<s6 then x12.ce else s6)::ah.rc x14))<|sN<|WC.region Z Z<|sV (rI (rW (s5+(1:Int))))<|sM Z ?_
    refine sN ?_
    cases oI h
    exact⟨rfl,rfl⟩
   refine sN<|cF<|qK<|WC.region Z Z<|sV (rI (rW (s5+(1:Int))))<|sM Z<|sN ?_
   cases oI h
   exact⟨rfl,rfl⟩
  refine sN<|qS<|cF<|qX ?_
  cases oI h
  exact⟨nofun,rfl,rfl⟩
 intro e R' B' he hq
 obtain⟨rfl,hI⟩:=hq
 refine qE<|gS Z hI<|sV (.d (aj.pd (aj.mk y2.bQ.aU y2.bQ.a7 y2.bQ.bi o16.1 (ah.mk (aa.mk o16.2.aI.fX o16.2.aI.fY o16.2.aI.fZ) (aa.mk o16.2.aC.fX o16.2.aC.fY o16.2.aC.fZ)))))<|sH 64 (.var (aa.rc y2.bQ.aU++rI y2.bQ.a7::rI y2.bQ.bi::rI o16.1::ah.rc o16.2))<|sV (r0)<|sN<|qR ?_
 cases oI h
 exact qG
theorem ou{a0:ag}{a1:aa}{a2:Int}{r:(List Int)×Int}(h:fF a0 a1 a2=some r):EvP prog aN ext 131 [.d (ag.pd a0),.d (aa.pd a1),rI a2] [] (.tup [rL r.1,rI r.2],[]):=by
 refine Ev.body Z Tryz.func131 Z Zk<|gU Z<|sB (.ptr 48 0) 48 (.var (ag.rc a0))<|sB (.ptr 64 0) 64 (.var (aa.rc a1))<|sV .mA<|sV (r0)<|sN<|gU Z<|sV (.d (ag.pd a0))<|sV (.d (aa.pd a1))<|sV (.d (aa.pd a1))<|sG (.d (ah.pd (ah.mk a1 a1)))<|bE h fun x1 h1 h=>cR (.tup [rM aF.pd x1.1,rI x1.2]) [] (kS h1)<|sM Z ?_
 refine sV (rM aF.pd x1.1)<|sV (rI x1.2)<|sA Z<|sA Z<|sN<|qS<|gU Z<|sM Z<|sF h ?_ ?_<;>intro h
 ·refine sN<|cT<|gU Z<|sM Z<|sV .mA<|sA Z<|sN<|qR ?_
  cases oI h
  exact qG
 refine sN<|cF<|qK<|qS<|gU Z<|sM Z<|sF h ?_ ?_<;>intro h
 ·refine sM Z<|sK<|sK<|sT<|sN<|cT<|gU Z<|sV .mA<|sV (rI 2)<|sN<|qR ?_
  cases oI h
  exact qG
 refine mM Z<|sV (rB (decide (a2>(18014398509481984:Int))))<|sF h ?_ ?_<;>intro h
 ·refine sN<|cT<|gU Z<|sV .mA<|sV (rI 2)<|sN<|qR ?_
  cases oI h
  exact qG
 refine sN<|cF<|qK<|gU Z<|sM Z<|sE (rI (x1.1.length:Int)) (pf _ _)<|bE h fun x5 h5 h=>WO.mkC (g:=(PD.int .i64)) h5 Z Z Z Z Z Z Z Z Z Z Z<|sA Z<|sN<|qS<|gU Z<|sM Z<|sE (rI (x1.1.length:Int)) (pf _ _)<|sV (r0) ?_
 refine sN<|bE h fun o15 ho15 h=>WC.block (WC.loop (WL.pI ho15 (fun s=>gI 0 131 8 [(2,rI a2),(10,.ref 512 0),(33,rM aF.pd x1.1),(34,rI (x1.1.length:Int)),(35,rI s.1)] [(512,.arr 0 3 (s.2.map (PD.int .i64)))]) (fun o=>gX 0 0 131 12 [(10,.ref 512 0)] [(512,.arr 0 3 (o.map (PD.int .i64)))]) Z ?_ ?_))
 ·rintro⟨s6,s7⟩ R' B' q9 hI h
  refine gS Z hI<|sF h ?_ ?_<;>intro h
  ·refine sN<|qS<|cT<|qK<|qS<|qB<|gU Z<|bE h fun x11 h11 h=>eG h11 Z<|sV (.d (aF.pd x11))<|sB (.ptr 192 0) 192 (.var [r0,r0])<|sS 192 (.var [rI x11.bj,rI x11.fTo])<|sN<|WC.region Z Z<|sM Z ?_
   refine sV (.d (aF.pd x11))<|sM Z<|bE h fun x12 h12 h=>cD (lK h12)<|sV (.d (.lst ([x12].map (PD.int .i64))))<|bE h fun x13 h13 h=>aR h13 (fun _=>Z) Z<|sA Z<|sN<|WC.region Z Z<|sV (rI (rW (s6+(1:Int))))<|sM Z<|sN ?_
   cases oI h
   exact⟨rfl,rfl⟩
  refine sN<|qS<|cF<|qX ?_
  cases oI h
  exact⟨nofun,rfl,rfl⟩
 intro e R' B' he hq
 obtain⟨rfl,hI⟩:=hq
 refine qE<|gS Z hI<|sM Z<|sA Z<|sV (r0)<|sN<|qR ?_
 exact oI h▸qD
theorem nn{a1:Int}{d0:(List Int)}{d1:(List Int)}{r:(List Int)×(List Int)}(h:jy a1 d0 d1=some r):EvP prog aN ext 132 [.agg [.ref 0 0,.ref 1 0],rI a1] [.arr 0 3 (d0.map (PD.int .i64)),.arr 0 3 (d1.map (PD.int .i64))] (.tup [],[.arr 0 3 (r.1.map (PD.int .i64)),.arr 0 3 (r.2.map (PD.int .i64))]):=by
 refine Ev.body Z Tryz.func132 Z Zk<|gU Z<|sB (.ptr 32 0) 32 (.var [.ref 0 0,.ref 1 0])<|sN<|WC.pX Z Z<|sV (.ptr 32 0)<|sL Z<|sV (.ptr 32 1)<|sL Z<|sM Z<|bE h fun x2 h2 h=>WO.qk h2 Z Z Z Z Z Z Z Z<|bE h fun x3 h3 h=>WO.qj h3 Z Z Z Z Z Z<|sV (.ptr 32 1) ?_
 refine sL Z<|sV (.ptr 32 0)<|sL Z<|sM Z<|bE h fun x5 h5 h=>WO.qk h5 Z Z Z Z Z Z Z Z<|bE h fun x6 h6 h=>WO.qj h6 Z Z Z Z Z Z<|sV (.ptr 32 0)<|sL Z<|sM Z<|bE h fun x8 h8 h=>WO.qk h8 Z Z Z Z Z Z Z Z<|bE h fun x9 h9 h=>WO.qj h9 Z Z Z Z Z Z ?_
 refine sV (.ptr 32 1)<|sL Z<|sM Z<|bE h fun x11 h11 h=>WO.qk h11 Z Z Z Z Z Z Z Z<|bE h fun x12 h12 h=>WO.qj h12 Z Z Z Z Z Z<|bE h fun x14 h14 h=>WO.qk h14 Z Z Z Z Z Z Z Z<|bE h fun x15 h15 h=>WO.rA (g:=(PD.int .i64)) (sz:=1) (p:= .int .i64 x9) h15 (fun _=>Z) (fun _=>Z) Z Z Z Z Z Z Z Z Z<|bE h fun x17 h17 h=>WO.qk h17 Z Z Z Z Z Z Z Z<|bE h fun x18 h18 h=>WO.rA (g:=(PD.int .i64)) (sz:=1) (p:= .int .i64 x12) h18 (fun _=>Z) (fun _=>Z) Z Z Z Z Z Z Z Z Z ?_
 refine sN<|sO ?_
 exact oI h▸qD
theorem mS{a0:aG}{a1:(List al)}{r:(List aV)×(List Int)×Int}(h:fo a0 a1=some r):EvP prog aN ext 66 [.d (aG.pd a0),rM al.pd a1] [] (.tup [rM aV.pd r.1,rL r.2.1,rI r.2.2],[]):=by
 refine Ev.body Z Tryz.func66 Z Zk<|gU Z<|sB (.ptr 32 0) 32 (.var (aG.rc a0))<|sV .mA<|sV .mA<|sV (r0)<|sN<|WC.scope<|qS<|gU Z<|sV (.d (aG.pd a0))<|sM Z<|bE h fun x1 h1 h=>cD (jT h1)<|sA Z ?_
 refine sN<|gU Z<|sM Z<|sF h ?_ ?_<;>intro h
 ·refine sN<|cT<|gU Z<|sM Z<|sV .mA<|sV .mA<|sA Z<|sN<|qR ?_
  cases oI h
  exact qG
 refine sN<|cF<|qK<|gU Z<|sV .mA<|sN<|gU Z<|sV .mA<|sN<|gU Z<|sM Z<|bE h fun x3 h3 h=>cD (oJ h3)<|sA Z<|sN ?_
 refine gU Z<|sM Z<|sE (rI (a1.length:Int)) (pf _ _)<|bE h fun x4 h4 h=>cR (.agg [.ref 560 0,.ref 561 0]) [(560,.arr 0 3 (x4.mE.map (PD.int .i64))),(561,.arr 0 3 (x4.fback.map (PD.int .i64)))] (nu h4)<|sB (.ptr 176 0) 176 (.var [.mA,.mA])<|sS 176 (.var [.ref 560 0,.ref 561 0])<|sN<|qS<|WC.label<|qS<|bE h fun o79 ho79 h=>WC.block (WC.loop (WL.pI ho79 (fun s=>gI 0 66 8 [(1,rM al.pd a1),(2,.ptr 32 0),(8,.ref 2432 0),(9,.ref 2576 0),(10,rL x3),(11,.ptr 176 0)] [(32,.var (aG.rc a0)),(176,.var [.ref 560 0,.ref 561 0]),(560,.arr 0 3 (s.2.2.1.map (PD.int .i64))),(561,.arr 0 3 (s.2.2.2.map (PD.int .i64))),(2432,.arr 0 142 (s.1.map aV.pd)),(2576,.arr 0 3 (s.2.1.map (PD.int .i64)))]) (fun o=>match o with| .inl y=>gX 0 0 66 42 [(8,.ref 2432 0),(9,.ref 2576 0)] [(2432,.arr 0 142 (y.1.map aV.pd)),(2576,.arr 0 3 (y.2.map (PD.int .i64)))]| .inr r=>gF 66 Tryz.f66 0 (.tup [rM aV.pd r.1,rL r.2.1,rI r.2.2],[])) Z ?_ ?_))
 ·rintro⟨s5,s6,s7,s8⟩ R' B' q11 hI h
  unfold bT at h
  refine qS<|WC.cI hI Z<|sV (.ptr 176 0)<|sL Z<|sV (.agg [.ref 560 0,.ref 561 0])<|bE h fun x12 h12 h=>cR (rI x12) [ ] (ik h12)<|bE h fun x14 h14 h=>WO.qk h14 Z Z Z Z Z Z Z Z<|bE h fun x15 h15 h=>WO.qj h15 Z Z Z Z Z Z<|sV (.agg [.ref 560 0,.ref 561 0])<|bE h fun x16 h16 h=>cR (rI x16) [ ] (ik h16)<|sF h ?_ ?_<;>intro h
  ·refine sN<|sO<|cT<|qK<|qB<|gU Z<|sV (.agg [.ref 560 0,.ref 561 0])<|sV (.d (aG.pd a0))<|mM Z<|bE h fun x18 h18 h=>cR (rL x18.1) [(560,.arr 0 3 (x18.2.1.map (PD.int .i64))),(561,.arr 0 3 (x18.2.2.map (PD.int .i64)))] (chain_windowq_ev h18)<|sA Z<|sN<|WC.join (α:=(List aV)×(List Int)) (fun x R' B'=>qb prog 0 (A R' B') (aN.at_ 66 0 40)=some (A [(1,rM al.pd a1),(2,.ptr 32 0),(8,.ref 2432 0),(9,.ref 2576 0),(10,rL x3),(11,.ptr 176 0),(12,rL x18.1)] [(32,.var (aG.rc a0)),(176,.var [.ref 560 0,.ref 561 0]),(560,.arr 0 3 (x18.2.1.map (PD.int .i64))),(561,.arr 0 3 (x18.2.2.map (PD.int .i64))),(2432,.arr 0 142 (x.1.map aV.pd)),(2576,.arr 0 3 (x.2.map (PD.int .i64)))])) (fun x=>cg x18 x3 x.1 x.2=some q11) ?_ ?_
   ·refine gU Z<|sM Z<|sE (rI (x18.1.length:Int)) (pf _ _)<|sV (.ptr 32 13)<|sL Z<|sF h ?_ ?_<;>intro h
    ·refine sN<|cT<|gU Z<|sV .mA<|sN<|qS<|gU Z<|sM Z<|sE (rI (x18.1.length:Int)) (pf _ _)<|sV (r0)<|sN<|bE h fun o40 ho40 h=>WC.block (WC.loop (WL.pI ho40 (fun s=>gI 0 66 13 [(1,rM al.pd a1),(2,.ptr 32 0),(8,.ref 2432 0),(9,.ref 2576 0),(10,rL x3),(11,.ptr 176 0),(12,rL x18.1),(13,.ref 1120 0),(55,rL x18.1),(56,rI (x18.1.length:Int)),(57,rI s.1)] [(32,.var (aG.rc a0)),(176,.var [.ref 560 0,.ref 561 0]),(560,.arr 0 3 (x18.2.1.map (PD.int .i64))),(561,.arr 0 3 (x18.2.2.map (PD.int .i64))),(1120,.arr 0 81 (s.2.map al.pd)),(2432,.arr 0 142 (s5.map aV.pd)),(2576,.arr 0 3 (s6.map (PD.int .i64)))]) (fun o=>gX 2 0 66 17 [(1,rM al.pd a1),(2,.ptr 32 0),(8,.ref 2432 0),(9,.ref 2576 0),(10,rL x3),(11,.ptr 176 0),(12,rL x18.1),(13,rM al.pd o.1)] [(32,.var (aG.rc a0)),(176,.var [.ref 560 0,.ref 561 0]),(560,.arr 0 3 (x18.2.1.map (PD.int .i64))),(561,.arr 0 3 (x18.2.2.map (PD.int .i64))),(2432,.arr 0 142 (o.2.1.map aV.pd)),(2576,.arr 0 3 (o.2.2.map (PD.int .i64)))]) Z ?_ ?_))
     ·rintro⟨s28,s29⟩ R' B' q33 hI h
      refine gS Z hI<|sF h ?_ ?_<;>intro h
      ·refine sN<|qS<|cT<|qK<|qS<|qB<|gU Z<|bE h fun x35 h35 h=>eG h35 Z<|sC Z<|sA Z<|sN<|WC.region Z Z<|sM Z<|sM Z ?_
       refine mM Z<|bE h fun x36 h36 h=>eG h36 Z<|sC Z<|bE h fun x37 h37 h=>eG h37 Z<|sV (.d (al.pd x37))<|sV (.d (.lst ([x37].map al.pd)))<|bE h fun x38 h38 h=>aR h38 (fun _=>Z) Z<|sA Z<|sN<|WC.region Z Z<|sV (rI (rW (s28+(1:Int)))) ?_
       refine sM Z<|sN ?_
       cases oI h
       exact⟨rfl,rfl⟩
      refine sN<|qS<|cF<|qX ?_
      cases oI h
      exact⟨nofun,rfl,rfl⟩
     intro e R' B' he hq
     obtain⟨rfl,hI⟩:=hq
     refine qE<|WC.cI hI Z<|sV (.d (aG.pd a0))<|sM Z<|bE h fun x41 h41 h=>cD (kD h41)<|sV (.ptr 32 10)<|sL Z<|bE h fun x42 h42 h=>cR (.tup [.d (aj.pd x42.1),rI x42.2]) [] (mI h42)<|sM Z<|sV (.d (aj.pd x42.1))<|sV (rI x42.2)<|sB (.ptr 256 0) 256 (.var zZ1)<|sH 256 (.var (aj.rc x42.1)) ?_
     refine sA Z ?_
     refine sN<|sO<|qS<|gU Z<|sM Z<|sF h ?_ ?_<;>intro h
     ·refine sN<|cT<|gU Z<|sM Z<|sV .mA<|sV .mA<|sA Z<|sN<|qR ?_
      cases oI h
      exact⟨nofun,rfl,rfl⟩
     refine sN<|cF<|qK<|WC.cI Z Z<|sV (.d (aG.pd a0))<|sM Z<|bE h fun x44 h44 h=>cD (kD h44)<|sV (.ptr 256 0)<|sV (.d (aa.pd x42.1.aU))<|sV (.ptr 256 3)<|sL Z<|bE h fun x45 h45 h=>cR (.tup [rL x45.1,rI x45.2]) [] (ou h45)<|sM Z ?_
     refine sV (rL x45.1)<|sV (rI x45.2)<|sA Z<|sA Z ?_
     refine sN<|sO<|qS<|gU Z<|sM Z<|sF h ?_ ?_<;>intro h
     ·refine sN<|cT<|gU Z<|sM Z<|sV .mA<|sV .mA<|sA Z<|sN<|qR ?_
      cases oI h
      exact⟨nofun,rfl,rfl⟩
     refine sN<|cF<|qK<|gU Z<|sV .mA<|sN<|qS<|gU Z<|sM Z<|sE (rI (x18.1.length:Int)) (pf _ _)<|sV (r0)<|sN<|bE h fun o57 ho57 h=>WC.block (WC.loop (WL.pI ho57 (fun s=>gI 0 66 25 [(1,rM al.pd a1),(2,.ptr 32 0),(8,.ref 2432 0),(9,.ref 2576 0),(10,rL x3),(11,.ptr 176 0),(12,rL x18.1),(16,.ptr 256 0),(18,rL x45.1),(19,.ref 1840 0),(98,rL x18.1),(99,rI (x18.1.length:Int)),(100,rI s.1)] [(32,.var (aG.rc a0)),(176,.var [.ref 560 0,.ref 561 0]),(256,.var (aj.rc x42.1)),(560,.arr 0 3 (x18.2.1.map (PD.int .i64))),(561,.arr 0 3 (x18.2.2.map (PD.int .i64))),(1840,.arr 0 3 (s.2.map (PD.int .i64))),(2432,.arr 0 142 (o40.2.1.map aV.pd)),(2576,.arr 0 3 (o40.2.2.map (PD.int .i64)))]) (fun o=>gX 4 0 66 30 [(1,rM al.pd a1),(2,.ptr 32 0),(8,.ref 2432 0),(9,.ref 2576 0),(10,rL x3),(11,.ptr 176 0),(12,rL x18.1),(16,.ptr 256 0),(19,.ref 1840 0)] [(32,.var (aG.rc a0)),(176,.var [.ref 560 0,.ref 561 0]),(256,.var (aj.rc x42.1)),(560,.arr 0 3 (x18.2.1.map (PD.int .i64))),(561,.arr 0 3 (x18.2.2.map (PD.int .i64))),(1840,.arr 0 3 (o.map (PD.int .i64))),(2432,.arr 0 142 (o40.2.1.map aV.pd)),(2576,.arr 0 3 (o40.2.2.map (PD.int .i64)))]) Z ?_ ?_))
     ·rintro⟨s47,s48⟩ R' B' q50 hI h
      refine gS Z hI<|sF h ?_ ?_<;>intro h
      ·refine sN<|qS<|cT<|qK<|qS<|qB<|gU Z<|sM Z<|bE h fun x52 h52 h=>eG h52 Z<|sC Z<|sA Z<|sA Z<|sN<|WC.cI Z Z ?_
       refine mM Z<|bE h fun x53 h53 h=>eG h53 Z<|sC Z<|sV (.ptr 32 12)<|sL Z<|sF h ?_ ?_<;>intro h
       ·refine sN<|sO<|cT<|WC.region Z Z<|mM Z<|sV (.d (.lst ([x52].map (PD.int .i64))))<|bE h fun x55 h55 h=>aR h55 (fun _=>Z) Z<|sA Z<|sN<|WC.region Z Z<|sV (rI (rW (s47+(1:Int))))<|sM Z<|sN ?_
        cases oI h
        exact⟨rfl,rfl⟩
       refine sN<|sO<|cF<|qK<|WC.region Z Z<|sV (rI (rW (s47+(1:Int))))<|sM Z<|sN ?_
       cases oI h
       exact⟨rfl,rfl⟩
      refine sN<|qS<|cF<|qX ?_
      cases oI h
      exact⟨nofun,rfl,rfl⟩
     intro e R' B' he hq
     obtain⟨rfl,hI⟩:=hq
     refine qE<|gS Z hI<|sM Z<|WO.tn Z Z Z Z Z Z Z Z Z<|sV (.ptr 32 13)<|sL Z<|sF h ?_ ?_<;>intro h
     ·refine sN<|cT<|gU Z<|sV (.ptr 256 0)<|sV (.d (aa.pd x42.1.aU))<|sV (.ptr 256 3)<|sL Z<|sV (.agg (.mA::aa.rc x42.1.aU++[rI x42.1.a7]))<|sB (.ptr 352 0) 352 (.var [.mA,r0,r0,r0,r0])<|sS 352 (.var (.mA::aa.rc x42.1.aU++[rI x42.1.a7]))<|sN<|qS<|gU Z<|sM Z<|WO.tn Z Z Z Z Z Z Z Z Z ?_
      refine sV (r0)<|sN<|bE h fun o75 ho75 h=>WC.block (WC.loop (WL.pI ho75 (fun s=>gI 0 66 33 [(1,rM al.pd a1),(2,.ptr 32 0),(8,.ref 2432 0),(9,.ref 2576 0),(10,rL x3),(11,.ptr 176 0),(22,.ptr 352 0),(127,.ref 1840 0),(128,rI (o57.length:Int)),(129,rI s.1)] [(32,.var (aG.rc a0)),(176,.var [.ref 560 0,.ref 561 0]),(352,.var (.ref 2288 0::aa.rc x42.1.aU++[rI x42.1.a7])),(560,.arr 0 3 (s.2.1.map (PD.int .i64))),(561,.arr 0 3 (s.2.2.1.map (PD.int .i64))),(1840,.arr 0 3 (o57.map (PD.int .i64))),(2288,.arr 0 3 (s.2.2.2.map (PD.int .i64))),(2432,.arr 0 142 (o40.2.1.map aV.pd)),(2576,.arr 0 3 (o40.2.2.map (PD.int .i64)))]) (fun o=>gX 6 0 66 38 [(1,rM al.pd a1),(2,.ptr 32 0),(8,.ref 2432 0),(9,.ref 2576 0),(10,rL x3),(11,.ptr 176 0),(22,.ptr 352 0)] [(32,.var (aG.rc a0)),(176,.var [.ref 560 0,.ref 561 0]),(352,.var (.ref 2288 0::aa.rc x42.1.aU++[rI x42.1.a7])),(560,.arr 0 3 (o.1.map (PD.int .i64))),(561,.arr 0 3 (o.2.1.map (PD.int .i64))),(2288,.arr 0 3 (o.2.2.map (PD.int .i64))),(2432,.arr 0 142 (o40.2.1.map aV.pd)),(2576,.arr 0 3 (o40.2.2.map (PD.int .i64)))]) Z ?_ ?_))
      ·rintro⟨s59,s60,s61,s62⟩ R' B' q66 hI h
       refine gS Z hI<|sF h ?_ ?_<;>intro h
       ·refine sN<|qS<|cT<|qK<|qS<|qB<|gU Z<|bE h fun x69 h69 h=>WO.qk h69 Z Z Z Z Z Z Z Z<|bE h fun x70 h70 h=>WO.qj h70 Z Z Z Z Z Z<|sA Z<|sN<|gU Z<|sV (.agg [.ref 560 0,.ref 561 0]) ?_
        refine sM Z<|bE h fun x71 h71 h=>cR (.tup []) [(560,.arr 0 3 (x71.1.map (PD.int .i64))),(561,.arr 0 3 (x71.2.map (PD.int .i64)))] (nn h71)<|sN<|WC.pX Z Z<|sV (.ptr 352 0)<|sL Z<|mM Z<|bE h fun x72 h72 h=>eG h72 Z<|sC Z<|sV (.d (.lst ([x72].map (PD.int .i64))))<|bE h fun x73 h73 h=>aR h73 (fun _=>Z) Z ?_
        refine sV (.ptr 352 0)<|sS 352 (.var (.ref 2288 1::aa.rc x42.1.aU++[rI x42.1.a7])) ?_
        refine sN<|sO<|WC.region Z Z<|sV (rI (rW (s59+(1:Int))))<|sM Z<|sN ?_
        cases oI h
        exact⟨rfl,rfl⟩
       refine sN<|qS<|cF<|qX ?_
       cases oI h
       exact⟨nofun,rfl,rfl⟩
      intro e R' B' he hq
      obtain⟨rfl,hI⟩:=hq
      refine qE<|gS Z hI<|sV (.ptr 352 0)<|sL Z<|bE h fun x76 h76 h=>cR (.tup []) [(2288,.arr 0 3 (x76.map (PD.int .i64)))] (og h76)<|sN<|gU Z<|sM Z<|sV (.agg (.ref 2288 0::aa.rc x42.1.aU++[rI x42.1.a7]))<|sB (.d (.lst [aV.pd (aV.mk x76 x42.1.aU x42.1.a7)])) 2288 .dead<|bE h fun x77 h77 h=>aR h77 (fun _=>Z) Z<|sA Z<|sN ?_
      refine qX<|qE ?_
      cases oI h
      exact⟨rfl,rfl⟩
     exact sN<|cF<|qK<|⟨(o40.2.1,o40.2.2),rfl,h⟩
    exact sN<|cF<|qK<|⟨(s5,s6),rfl,h⟩
   rintro⟨j19,j20⟩ R' B' hI h
   refine gS Z hI<|mM Z<|sM Z<|bE h fun x21 h21 h=>eG h21 Z<|sC Z<|bE h fun x22 h22 h=>eG h22 Z<|sC Z<|sV (.d (.lst ([x22].map (PD.int .i64))))<|bE h fun x23 h23 h=>aR h23 (fun _=>Z) Z<|sA Z<|sN ?_
   refine WC.pX Z Z<|sV (.agg [.ref 560 0,.ref 561 0])<|sM Z<|bE h fun x24 h24 h=>eG h24 Z<|sC Z<|bE h fun x25 h25 h=>cR (.tup []) [(560,.arr 0 3 (x25.1.map (PD.int .i64))),(561,.arr 0 3 (x25.2.map (PD.int .i64)))] (nn h25) ?_
   refine sN<|sO ?_
   cases oI h
   exact⟨rfl,rfl⟩
  refine sN<|sO<|cF<|qX ?_
  cases oI h
  exact⟨nofun,rfl,rfl⟩
 intro e R' B' he hq
 rcases o79 with y80|r81
 ·obtain⟨rfl,hI⟩:=hq
  refine qE<|gS Z hI<|sM Z<|bE h fun x82 h82 h=>cR (.tup []) [(2576,.arr 0 3 (x82.map (PD.int .i64)))] (og h82)<|sN<|gU Z<|mM Z<|sA Z<|sA Z<|sV (r0)<|sN<|qR ?_
  exact oI h▸qD
 obtain⟨rfl,hf⟩:=hq
 cases oI h
 exact hf
theorem oX{a0:aq}{a1:ap}{a2:(List ae)}{r:aS×Int}(h:gu a0 a1 a2=some r):EvP prog aN ext 55 [.d (aq.pd a0),.d (ap.pd a1),rM ae.pd a2] [] (.tup [.d (aS.pd r.1),rI r.2],[]):=by
 refine Ev.body Z Tryz.func55 Z Zk<|gU Z<|sB (.ptr 48 0) 48 (.var (aq.rc a0))<|sB (.ptr 64 0) 64 (.var [rM au.pd a1.aO])<|sB (.ptr 96 0) 96 (.var [.mA,.mA,.mA])<|sV (r0)<|sN<|gU Z<|sB (.ptr 128 0) 128 (.var [.mA,.mA,.mA])<|sN<|qS<|qB<|gU Z<|sV (.d (aq.pd a0))<|bE h fun x1 h1 h=>?_
 refine cD (ib h1)<|sF h ?_ ?_<;>intro h
 ·refine sA Z<|sN<|cT<|gU Z<|sV (.agg [.mA,.mA,.mA])<|sS 96 (.var [.mA,.mA,.mA])<|sV (rI 27)<|sN<|qR ?_
  cases oI h
  exact qG
 refine sA Z<|sN<|cF<|gU Z<|sV (.d (ap.pd a1))<|bE h fun x3 h3 h=>cD (gd h3)<|sF h ?_ ?_<;>intro h
 ·refine sA Z<|sN<|cT<|gU Z<|sV (.agg [.mA,.mA,.mA])<|sS 96 (.var [.mA,.mA,.mA])<|sV (rI 1)<|sN<|qR ?_
  cases oI h
  exact qG
 refine sA Z<|sN<|cF<|qK<|qS<|gU Z<|sM Z<|bE h fun x5 h5 h=>cR (.ref 400 0) [(400,.arr 0 66 (x5.map ae.pd))] (lO h5)<|WO.tn Z Z Z Z Z Z Z Z Z<|sV (r0)<|sN<|bE h fun o24 ho24 h=>WC.block (WC.loop (WL.pI ho24 (fun s=>gI 0 55 7 [(3,.ptr 48 0),(4,.ptr 64 0),(6,.ptr 96 0),(8,.ptr 128 0),(25,.ref 400 0),(26,rI (x5.length:Int)),(27,rI s.1)] [(48,.var (aq.rc a0)),(64,.var [rM au.pd a1.aO]),(96,.var [.mA,.mA,.mA]),(128,.var [.ref 704 0,.ref 784 0,.ref 864 0]),(400,.arr 0 66 (x5.map ae.pd)),(704,.arr 0 66 (s.2.1.map ae.pd)),(784,.arr 0 81 (s.2.2.1.map al.pd)),(864,.arr 0 113 (s.2.2.2.map ar.pd))]) (fun o=>gX 1 0 55 13 [(6,.ptr 96 0),(8,.ptr 128 0)] [(96,.var [.mA,.mA,.mA]),(128,.var [.ref 704 0,.ref 784 0,.ref 864 0]),(704,.arr 0 66 (o.1.map ae.pd)),(784,.arr 0 81 (o.2.1.map al.pd)),(864,.arr 0 113 (o.2.2.map ar.pd))]) Z ?_ ?_))
 ·rintro⟨s6,s7,s8,s9⟩ R' B' q13 hI h
  refine gS Z hI<|sF h ?_ ?_<;>intro h
  ·refine sN<|qS<|cT<|qK<|qS<|qB<|gU Z<|bE h fun x16 h16 h=>WO.qk h16 Z Z Z Z Z Z Z Z<|bE h fun x17 h17 h=>WO.qj h17 Z Z Z Z Z Z<|sB (.ptr 160 0) 160 (.var zZ2)<|sH 160 (.var (ae.rc x17))<|sN<|gU Z ?_
   refine sV (.d (aq.pd a0))<|sV (.d (ap.pd a1))<|sV (.d (ae.pd x17))<|bE h fun x18 h18 h=>cR (.tup [.d (al.pd x18.1),.d (ar.pd x18.2.1),rB x18.2.2]) [] (mP h18)<|sM Z<|sV (.d (al.pd x18.1))<|sV (.d (ar.pd x18.2.1))<|sV (rB x18.2.2)<|sB (.ptr 176 0) 176 (.var zZ4)<|sB (.ptr 192 0) 192 (.var zZ3)<|sH 176 (.var (al.rc x18.1))<|sH 192 (.var (ar.rc x18.2.1))<|sA Z<|sN ?_
   refine gU Z<|sF h ?_ ?_<;>intro h
   ·refine sN<|cT<|WC.pX Z Z<|sV (.ptr 128 0)<|sL Z<|sV (.d (ae.pd x17))<|sG (.d (.lst ([x17].map ae.pd)))<|bE h fun x20 h20 h=>aR h20 (fun _=>Z) Z<|sV (.ptr 128 1)<|sL Z<|sV (.d (al.pd x18.1))<|sV (.d (.lst ([x18.1].map al.pd)))<|bE h fun x21 h21 h=>aR h21 (fun _=>Z) Z ?_
    refine sV (.ptr 128 2)<|sL Z<|sV (.d (ar.pd x18.2.1))<|sG (.d (.lst ([x18.2.1].map ar.pd)))<|bE h fun x22 h22 h=>aR h22 (fun _=>Z) Z<|sV (.ptr 128 0)<|sS 128 (.var [.ref 704 1,.ref 784 0,.ref 864 0])<|sV (.ptr 128 1)<|sS 128 (.var [.ref 704 1,.ref 784 1,.ref 864 0])<|sV (.ptr 128 2)<|sS 128 (.var [.ref 704 1,.ref 784 1,.ref 864 1]) ?_
    refine sN<|sO<|WC.region Z Z<|sV (rI (rW (s6+(1:Int))))<|sM Z<|sN ?_
    cases oI h
    exact⟨rfl,rfl⟩
   refine sN<|cF<|qK<|WC.region Z Z<|sV (rI (rW (s6+(1:Int))))<|sM Z<|sN ?_
   cases oI h
   exact⟨rfl,rfl⟩
  refine sN<|qS<|cF<|qX ?_
  cases oI h
  exact⟨nofun,rfl,rfl⟩
 intro e R' B' he hq
 obtain⟨rfl,hI⟩:=hq
 refine qE<|gS Z hI<|sV (.agg [.ref 704 0,.ref 784 0,.ref 864 0])<|sS 96 (.var [.ref 704 0,.ref 784 0,.ref 864 0])<|sV (r0)<|sN<|qR ?_
 exact oI h▸qD
theorem ot{a0:aS}{a1:aq}{r:ag×Int}(h:iv a0 a1=some r):EvP prog aN ext 56 [.d (aS.pd a0),.d (aq.pd a1)] [] (.tup [.d (ag.pd r.1),rI r.2],[]):=by
 refine Ev.body Z Tryz.func56 Z Zk<|gU Z<|sB (.ptr 32 0) 32 (.var (aS.rc a0))<|sB (.ptr 48 0) 48 (.var (aq.rc a1))<|sB (.ptr 64 0) 64 (.var [r0,r0,r0,r0,r0,r0,r0,.mA,.mA,.mA,r0])<|sV (r0)<|sN<|qS<|gU Z<|sV (.ptr 32 1)<|sL Z<|sE (rI (a0.cx.length:Int)) (pf _ _)<|sA Z<|sN<|qB ?_
 refine gU Z<|sM Z<|sF h ?_ ?_<;>intro h
 ·refine sA Z<|sN<|cT<|gU Z<|sG (.agg [r0,r0,r0,r0,r0,r0,r0,.mA,.mA,.mA,r0])<|sH 64 (.var [r0,r0,r0,r0,r0,r0,r0,.mA,.mA,.mA,r0])<|sV (rI 24)<|sN<|qR ?_
  cases oI h
  exact qG
 refine sA Z<|sN<|cF<|gU Z<|sM Z<|sF h ?_ ?_<;>intro h
 ·refine sA Z<|sN<|cT<|gU Z<|sG (.agg [r0,r0,r0,r0,r0,r0,r0,.mA,.mA,.mA,r0])<|sH 64 (.var [r0,r0,r0,r0,r0,r0,r0,.mA,.mA,.mA,r0])<|sV (rI 8)<|sN<|qR ?_
  cases oI h
  exact qG
 refine sA Z<|sN<|cF<|qK<|gU Z<|sV (.ptr 48 0)<|sV (.d (aG.pd a1.ai))<|sB (.ptr 112 0) 112 (.var [r0,r0,r0,r0,r0,r0,r0,.mA,.mA,r0,r0,r0,r0,r0])<|sH 112 (.var (aG.rc a1.ai))<|sN<|WC.cI Z Z<|sV (.ptr 112 6)<|sV (.ptr 112 6)<|sL Z<|sV (.ptr 112 6) ?_
 refine sV (.ptr 112 7)<|sL Z<|bE h fun x3 h3 h=>cR (.ref 448 0) [(448,.arr 0 3 (x3.map (PD.int .i64)))] (clone_107 h3)<|sV (.ptr 112 6)<|sV (.ptr 112 8)<|sL Z<|bE h fun x4 h4 h=>cR (.ref 512 0) [(512,.arr 0 3 (x4.map (PD.int .i64)))] (clone_107 h4)<|sV (.agg [rI a1.ai.bc.bn,.ref 448 0,.ref 512 0])<|sB (.ptr 128 0) 128 (.var [r0,.mA,.mA])<|sS 128 (.var [rI a1.ai.bc.bn,.ref 448 0,.ref 512 0]) ?_
 refine sN<|sO<|gU Z<|sV (.ptr 112 0)<|sV (.d (ah.pd a1.ai.aK))<|sV (.agg [rI a1.ai.bc.bn,.ref 448 0,.ref 512 0])<|sV (.ptr 32 1)<|sL Z<|sV (.ptr 112 9)<|sL Z<|sG (.agg (ah.rc a1.ai.aK++[rI a1.ai.bc.bn,.ref 448 0,.ref 512 0,rM al.pd a0.cx,rI a1.ai.cU]))<|sH 64 (.var (ah.rc a1.ai.aK++[rI a1.ai.bc.bn,.ref 448 0,.ref 512 0,rM al.pd a0.cx,rI a1.ai.cU]))<|sV (r0)<|sN<|qR ?_
 cases oI h
 exact qG
theorem nat_From_ev{a0:Int}{r:(List Int)×Int}(h:pu a0=some r):EvP prog aN ext 406 [rI a0] [] (.tup [rL r.1,rI r.2],[]):=by
 refine Ev.body Z Tryz.func406 Z Zk<|gU Z<|sV .mA<|sV (r0)<|sN<|qS<|gU Z<|sM Z<|sF h ?_ ?_<;>intro h
 ·refine sN<|cT<|gU Z<|sV .mA<|sV (rI 2)<|sN<|qR ?_
  exact oI h▸qD
 refine sN<|cF<|qK<|gU Z<|sV .mA<|sN<|qS<|bE h fun o10 ho10 h=>WC.block (WC.loop (WL.pI ho10 (fun s=>gI 0 406 4 [(0,rI s.1),(4,.ref 240 0)] [(240,.arr 0 3 (s.2.map (PD.int .i64)))]) (fun o=>gX 0 0 406 7 [(4,.ref 240 0)] [(240,.arr 0 3 (o.map (PD.int .i64)))]) Z ?_ ?_))
 ·rintro⟨s2,s3⟩ R' B' q5 hI h
  refine qS<|gS Z hI<|sM Z<|sF h ?_ ?_<;>intro h
  ·refine sN<|cT<|qK<|qS<|qB<|WC.region Z Z<|mM Z<|bE h fun x7 h7 h=>WO.remG h7 Z Z Z Z Z Z<|sV (.d (.lst ([x7].map (PD.int .i64))))<|bE h fun x8 h8 h=>aR h8 (fun _=>Z) Z<|sA Z<|sN ?_
   refine WC.region Z Z<|sM Z<|sV (rI (p9 .i64 s2 (30:Int)))<|sA Z<|sN ?_
   cases oI h
   exact⟨rfl,rfl⟩
  refine sN<|cF<|qX ?_
  cases oI h
  exact⟨nofun,rfl,rfl⟩
 intro e R' B' he hq
 obtain⟨rfl,hI⟩:=hq
 refine qE<|gS Z hI<|sM Z<|sA Z<|sV (r0)<|sN<|qR ?_
 exact oI h▸qD
theorem l7{a0:Int}{r:Bool}(h:lM a0=some r):EvP prog aN ext 388 [rI a0] [] (rB r,[]):=by
 refine Ev.body Z Tryz.func388 Z Zk<|gU Z<|sU<|sN<|gU Z<|sM Z<|sF h ?_ ?_<;>intro h
 ·refine sM Z<|sK<|sK<|sT<|sA Z<|sN<|qR ?_
  exact oI h▸qD
 refine mM Z<|sV (rB (decide (a0>=(1073741824:Int))))<|sV (rB (decide (a0>=(1073741824:Int))))<|sA Z<|sN<|qR ?_
 exact oI h▸qD
theorem kK{a0:(List Int)}{r:Int}(h:eF a0=some r):EvP prog aN ext 411 [rL a0,.d (.raw (.func (.func 388) #[] #[]))] [] (rI r,[]):=by
 refine Ev.body Z Tryz.func411 Z Zk<|gU Z<|sV (r0)<|sN<|qS<|gU Z<|sM Z<|sE (rI (a0.length:Int)) (pf _ _)<|sV (r0)<|sN<|bE h fun o8 ho8 h=>WC.block (WC.loop (WL.pI ho8 (fun s=>gI 0 411 2 [(0,rL a0),(1,.d (.raw (.func (.func 388) #[] #[]))),(7,rI (a0.length:Int)),(8,rI s)] []) (fun o=>match o with| .inl y=>gX 0 0 411 7 [] []| .inr r=>gF 411 Tryz.f411 0 (rI r,[])) Z ?_ ?_))
 ·rintro s1 R' B' q2 hI h
  refine gS Z hI<|sF h ?_ ?_<;>intro h
  ·refine sN<|qS<|cT<|qK<|qS<|qB<|gU Z<|sM Z<|sA Z<|sN<|gU Z<|mM Z<|sM Z<|bE h fun x4 h4 h=>?_
   refine eG h4 Z<|sC Z<|bE h fun x5 h5 h=>qe h (fun hb6 h=>?_) (fun hb6 h=>?_)
   ·refine WO.qH (v:=rB true) (u:=[]) Z Z (fun _=>Z) Z Z Z Z Z (l7 h5) Z Z (congrArg (fun b=>RV.d (.bool b)) hb6) Z<|sN<|cT<|gU Z<|sM Z<|sA Z<|sN<|qR ?_
    cases oI h
    exact⟨nofun,rfl,rfl⟩
   refine WO.qH (v:=rB false) (u:=[]) Z Z (fun _=>Z) Z Z Z Z Z (l7 h5) Z Z (congrArg (fun b=>RV.d (.bool b)) hb6) Z<|sN<|cF<|qK<|WC.region Z Z<|sV (rI (rW (s1+(1:Int))))<|sM Z<|sN ?_
   cases oI h
   exact⟨rfl,rfl⟩
  refine sN<|qS<|cF<|qX ?_
  cases oI h
  exact⟨nofun,rfl,rfl⟩
 intro e R' B' he hq
 rcases o8 with y9|r10
 ·obtain⟨rfl,hI⟩:=hq
  refine qE<|gS Z hI<|sV (rI (-1))<|sN<|qR ?_
  exact oI h▸qD
 obtain⟨rfl,hf⟩:=hq
 cases oI h
 exact hf
theorem fd{a0:(List Int)}{r:Bool}(h:cq a0=some r):EvP prog aN ext 387 [rL a0,.d (.raw (.func (.func 388) #[] #[]))] [] (rB r,[]):=by
 refine Ev.body Z Tryz.func387 Z Zk<|gU Z<|sU<|sN<|gU Z<|mM Z<|bE h fun x1 h1 h=>cD (kK h1)<|sV (rB (decide (x1>=(0:Int))))<|sA Z<|sN<|qR ?_
 exact oI h▸qD
theorem gh{a0:(List Int)}{r:Bool}(h:jo a0=some r):EvP prog aN ext 338 [rL a0] [] (rB r,[]):=by
 refine Ev.body Z Tryz.func338 Z Zk<|gU Z<|sU<|sN<|qS<|gU Z<|sM Z<|sE (rI (a0.length:Int)) (pf _ _)<|sF h ?_ ?_<;>intro h
 ·refine sM Z<|k3<|k3<|k3<|k3<|sT<|sN ?_
  refine cT<|gU Z<|sU<|sN<|qR ?_
  exact oI h▸qD
 refine mM Z<|sE (rI (a0.length:Int)) (pf _ _)<|sF h ?_ ?_<;>intro h
 ·refine mM Z<|sM Z<|sE (rI (a0.length:Int)) (pf _ _)<|sV (rI (rW ((a0.length:Int)-(1:Int))))<|bE h fun x3 h3 h=>eG h3 Z<|sC Z<|sV (rB (x3==(0:Int)))<|sV (rB (x3==(0:Int)))<|sF h ?_ ?_<;>intro h
  ·refine sN<|cT<|gU Z<|sU<|sN<|qR ?_
   exact oI h▸qD
  refine sN<|cF<|qK<|gU Z<|sM Z<|bE h fun x5 h5 h=>cD (fd h5)<|sV (rB (!x5))<|sA Z<|sN<|qR ?_
  exact oI h▸qD
 refine sM Z<|k3<|k3<|sK<|sU<|sU<|sN<|cF<|qK<|gU Z<|sM Z ?_
 refine bE h fun x6 h6 h=>cD (fd h6)<|sV (rB (!x6))<|sA Z<|sN<|qR ?_
 exact oI h▸qD
theorem nat_both_ev{a0:(List Int)}{a1:(List Int)}{r:Bool}(h:nU a0 a1=some r):EvP prog aN ext 420 [rL a0,rL a1] [] (rB r,[]):=by
 refine Ev.body Z Tryz.func420 Z Zk<|gU Z<|sU<|sN<|gU Z<|sM Z<|bE h fun x1 h1 h=>qe h (fun hb2 h=>?_) (fun hb2 h=>?_)
 ·refine WO.qH (v:=rB true) (u:=[]) Z Z (fun _=>Z) Z Z Z Z Z (gh h1) Z Z (congrArg (fun b=>RV.d (.bool b)) hb2) Z<|mM Z<|bE h fun x3 h3 h=>cD (gh h3)<|sV (rB x3)<|sA Z<|sN<|qR ?_
  exact oI h▸qD
 refine WO.qH (v:=rB false) (u:=[]) Z Z (fun _=>Z) Z Z Z Z Z (gh h1) Z Z (congrArg (fun b=>RV.d (.bool b)) hb2) Z<|sM Z<|sK<|sK<|sU<|sA Z<|sN<|qR ?_
 exact oI h▸qD
theorem m6{a0:(List Int)}{a1:Int}{r:Int}(h:lC a0 a1=some r):EvP prog aN ext 410 [rL a0,rI a1] [] (rI r,[]):=by
 refine Ev.body Z Tryz.func410 Z Zk<|gU Z<|sV (r0)<|sN<|qS<|gU Z<|mM Z<|sE (rI (a0.length:Int)) (pf _ _)<|sF h ?_ ?_<;>intro h
 ·refine sN<|cT<|gU Z<|sV (r0)<|sN<|qR ?_
  exact oI h▸qD
 refine sN<|cF<|qK<|gU Z<|mM Z<|bE h fun x2 h2 h=>eG h2 Z<|sC Z<|sA Z<|sN<|qR ?_
 exact oI h▸qD
theorem nat_trim_ev{a0:(List Int)}{r:(List Int)}(h:nV a0=some r):EvP prog aN ext 409 [rL a0] [] (rL r,[]):=by
 refine Ev.body Z Tryz.func409 Z Zk<|gU Z<|sV .mA<|sN<|qS<|bE h fun o9 ho9 h=>WC.block (WC.loop (WL.pI ho9 (fun s=>gI 0 409 1 [(0,rL s)] []) (fun o=>gX 0 0 409 3 [(0,rL o)] []) Z ?_ ?_))
 ·rintro s1 R' B' q3 hI h
  refine qS<|gS Z hI<|sM Z<|sE (rI (s1.length:Int)) (pf _ _)<|sF h ?_ ?_<;>intro h
  ·refine mM Z<|sM Z<|sE (rI (s1.length:Int)) (pf _ _)<|sV (rI (rW ((s1.length:Int)-(1:Int))))<|bE h fun x5 h5 h=>eG h5 Z<|sC Z<|sV (rB (x5==(0:Int)))<|sF h ?_ ?_<;>intro h
   ·refine sN<|cT<|qK<|qB<|WC.region Z Z<|mM Z<|sE (rI (s1.length:Int)) (pf _ _)<|sV (rI (rW ((s1.length:Int)-(1:Int))))<|bE h fun x7 h7 h=>WO.cutL (sz:=1) (g:=(PD.int .i64)) h7 (fun _=>Z) Z Z Z Z Z Z Z Z Z Z Z<|sA Z<|sN ?_
    cases oI h
    exact⟨rfl,rfl⟩
   refine sN<|cF<|qX ?_
   cases oI h
   exact⟨nofun,rfl,rfl⟩
  refine sM Z<|k3<|k3<|sK<|sU<|sN<|cF<|qX ?_
  cases oI h
  exact⟨nofun,rfl,rfl⟩
 intro e R' B' he hq
 obtain⟨rfl,hI⟩:=hq
 refine qE<|gS Z hI<|sM Z<|sA Z<|sN<|qR ?_
 exact oI h▸qD
theorem kT{a0:(List Int)}{a1:(List Int)}{r:(List Int)}(h:iw a0 a1=some r):EvP prog aN ext 386 [rL a0,rL a1] [] (rL r,[]):=by
 refine Ev.body Z Tryz.func386 Z Zk<|gU Z<|sV .mA<|sN<|gU Z<|sM Z<|sE (rI (a0.length:Int)) (pf _ _)<|sM Z<|sE (rI (a1.length:Int)) (pf _ _)<|sV (rI (rW ((a0.length:Int)+(a1.length:Int))))<|bE h fun x1 h1 h=>WO.mkS (g:=(PD.int .i64)) h1 Z Z Z Z Z Z Z Z Z Z Z<|sA Z<|sN<|qS ?_
 refine gU Z<|sM Z<|sE (rI (a0.length:Int)) (pf _ _)<|sV (r0)<|sN<|bE h fun o27 ho27 h=>WC.block (WC.loop (WL.pI ho27 (fun s=>gI 0 386 3 [(1,rL a1),(5,.ref 240 0),(16,rL a0),(17,rI (a0.length:Int)),(18,rI s.1)] [(240,.arr 0 3 (s.2.map (PD.int .i64)))]) (fun o=>gX 0 0 386 15 [(5,.ref 240 0)] [(240,.arr 0 3 (o.map (PD.int .i64)))]) Z ?_ ?_))
 ·rintro⟨s2,s3⟩ R' B' q5 hI h
  refine gS Z hI<|sF h ?_ ?_<;>intro h
  ·refine sN<|qS<|cT<|qK<|qS<|qB<|gU Z<|sM Z<|bE h fun x7 h7 h=>eG h7 Z<|sC Z<|sA Z<|sA Z<|sN<|gU Z ?_
   refine sV (r0)<|sN<|gU Z<|sM Z<|sE (rI (a1.length:Int)) (pf _ _)<|sV (rI (rW ((a1.length:Int)+(1:Int))))<|sV (r0)<|sN<|bE h fun o25 ho25 h=>WC.block (WC.loop (WL.pI ho25 (fun s=>gI 0 386 7 [(1,rL a1),(5,.ref 240 0),(6,rI s2),(7,rI x7),(8,rI s.1),(16,rL a0),(17,rI (a0.length:Int)),(18,rI s2),(25,rI (rW ((a1.length:Int)+(1:Int)))),(26,rI s.2.1)] [(240,.arr 0 3 (s.2.2.map (PD.int .i64)))]) (fun o=>gX 2 0 386 14 [(1,rL a1),(5,.ref 240 0),(16,rL a0),(17,rI (a0.length:Int)),(18,rI o.1)] [(240,.arr 0 3 (o.2.map (PD.int .i64)))]) Z ?_ ?_))
   ·rintro⟨s8,s9,s10⟩ R' B' q13 hI h
    refine gS Z hI<|sF h ?_ ?_<;>intro h
    ·refine sN<|qS<|cT<|qK<|qS<|qB<|gU Z<|sM Z<|sA Z<|sN<|gU Z<|mM Z<|sV (rI (rW (s2+s9)))<|sM Z ?_
     refine WO.tn Z Z Z Z Z Z Z Z Z<|sF h ?_ ?_<;>intro h
     ·refine sN<|cT<|WC.cI Z Z<|mM Z<|mM Z<|sV (rI (rW (s2+s9)))<|bE h fun x17 h17 h=>WO.qk h17 Z Z Z Z Z Z Z Z<|bE h fun x18 h18 h=>WO.qj h18 Z Z Z Z Z Z<|mM Z<|sM Z ?_
      refine bE h fun x19 h19 h=>cD (m6 h19)<|sV (rI (rW (x7*x19)))<|sV (rI (rW (x18+(rW (x7*x19)))))<|sV (rI (rW (s8+(rW (x18+(rW (x7*x19)))))))<|sA Z ?_
      refine sN<|sO<|gU Z<|mM Z<|sM Z<|sV (rI (rW (s2+s9)))<|sM Z<|bE h fun x20 h20 h=>WO.remG h20 Z Z Z Z Z Z<|bE h fun x22 h22 h=>WO.qk h22 Z Z Z Z Z Z Z Z<|bE h fun x23 h23 h=>WO.rA (g:=(PD.int .i64)) (sz:=1) (p:= .int .i64 x20) h23 (fun _=>Z) (fun _=>Z) Z Z Z Z Z Z Z Z Z<|sN<|WC.region Z Z ?_
      refine sM Z<|sV (rI (p9 .i64 (rW (s8+(rW (x18+(rW (x7*x19)))))) (30:Int)))<|sA Z<|sN<|WC.region Z Z<|sV (rI (rW (s9+(1:Int))))<|sM Z<|sN ?_
      cases oI h
      exact⟨rfl,rfl⟩
     refine sN<|cF<|qK<|WC.region Z Z<|sV (rI (rW (s9+(1:Int))))<|sM Z<|sN ?_
     cases oI h
     exact⟨rfl,rfl⟩
    refine sN<|qS<|cF<|qX ?_
    cases oI h
    exact⟨nofun,rfl,rfl⟩
   intro e R' B' he hq
   obtain⟨rfl,hI⟩:=hq
   refine qE<|WC.region hI Z<|sV (rI (rW (o25.1+(1:Int))))<|sM Z<|sN ?_
   cases oI h
   exact⟨rfl,rfl⟩
  refine sN<|qS<|cF<|qX ?_
  cases oI h
  exact⟨nofun,rfl,rfl⟩
 intro e R' B' he hq
 obtain⟨rfl,hI⟩:=hq
 refine qE<|gS Z hI<|sM Z<|bE h fun x28 h28 h=>cR (rL x28) [(240,.dead)] (nat_trim_ev h28)<|sA Z<|sN<|qR ?_
 exact oI h▸qD
theorem jJ{a0:(List Int)}{r:(List Int)×Int}(h:gW a0=some r):EvP prog aN ext 385 [rL a0] [] (.tup [rL r.1,rI r.2],[]):=by
 refine Ev.body Z Tryz.func385 Z Zk<|gU Z<|sV .mA<|sV (r0)<|sN<|qS<|gU Z<|sM Z<|bE h fun x1 h1 h=>cD (nat_trim_ev h1)<|sA Z<|sN<|gU Z<|sM Z<|sE (rI (x1.length:Int)) (pf _ _) ?_
 refine sF h ?_ ?_<;>intro h
 ·refine sN<|cT<|gU Z<|sV .mA<|sV (rI 8)<|sN<|qR ?_
  exact oI h▸qD
 refine sN<|cF<|qK<|gU Z<|sM Z<|sA Z<|sV (r0)<|sN<|qR ?_
 exact oI h▸qD
theorem nat_Mul_ev{a0:(List Int)}{a1:(List Int)}{r:(List Int)×Int}(h:nat_Mul a0 a1=some r):EvP prog aN ext 407 [rL a0,rL a1] [] (.tup [rL r.1,rI r.2],[]):=by
 refine Ev.body Z Tryz.func407 Z Zk<|gU Z<|sV .mA<|sV (r0)<|sN<|qS<|gU Z<|mM Z<|bE h fun x1 h1 h=>cD (nat_both_ev h1)<|sF h ?_ ?_<;>intro h
 ·refine sN<|cT<|gU Z<|sV .mA<|sV (rI 1)<|sN<|qR ?_
  exact oI h▸qD
 refine sN<|cF<|qK<|gU Z<|mM Z<|bE h fun x3 h3 h=>cD (kT h3)<|bE h fun x4 h4 h=>cR (.tup [rL x4.1,rI x4.2]) [] (jJ h4)<|sV (rL x4.1)<|sV (rI x4.2)<|sA Z<|sA Z<|sN ?_
 refine qR ?_
 exact oI h▸qD
theorem dy{a0:Int}{r:(List Int)}(h:c8 a0=some r):EvP prog aN ext 381 [rI a0] [] (rL r,[]):=by
 refine Ev.body Z Tryz.func381 Z Zk<|gU Z<|sV .mA<|sN<|gU Z<|mM Z<|sV (rI (rW (0-a0)))<|sV (rI (if(rW (0-a0))>a0 then(rW (0-a0))else a0))<|bE h fun x1 h1 h=>cR (.tup [rL x1.1,rI x1.2]) [] (nat_From_ev h1)<|sM Z<|sV (rL x1.1)<|sV (rI x1.2)<|sA Z ?_
 refine sA Z<|sN<|gU Z<|mM Z<|bE h fun x2 h2 h=>cR (.tup [rL x2.1,rI x2.2]) [] (nat_Mul_ev h2)<|sM Z<|sV (rL x2.1)<|sV (rI x2.2)<|sA Z<|sA Z<|sN<|gU Z<|sM Z ?_
 refine sA Z<|sN<|qR ?_
 exact oI h▸qD
theorem nat_Add_ev{a0:(List Int)}{a1:(List Int)}{r:(List Int)×Int}(h:nat_Add a0 a1=some r):EvP prog aN ext 408 [rL a0,rL a1] [] (.tup [rL r.1,rI r.2],[]):=by
 refine Ev.body Z Tryz.func408 Z Zk<|gU Z<|sV .mA<|sV (r0)<|sN<|qS<|gU Z<|mM Z<|bE h fun x1 h1 h=>cD (nat_both_ev h1)<|sF h ?_ ?_<;>intro h
 ·refine sN<|cT<|gU Z<|sV .mA<|sV (rI 1)<|sN<|qR ?_
  exact oI h▸qD
 refine sN<|cF<|qK<|gU Z<|sV .mA<|sN<|gU Z<|sV (r0)<|sN<|qS<|gU Z<|sM Z<|sE (rI (a0.length:Int)) (pf _ _)<|sM Z<|sE (rI (a1.length:Int)) (pf _ _) ?_
 refine sV (rI (if(a1.length:Int)>(a0.length:Int)then(a1.length:Int)else(a0.length:Int)))<|sV (rI (rW ((if(a1.length:Int)>(a0.length:Int)then(a1.length:Int)else(a0.length:Int))+(1:Int))))<|sV (r0)<|sN<|bE h fun o14 ho14 h=>WC.block (WC.loop (WL.pI ho14 (fun s=>gI 0 408 6 [(0,rL a0),(1,rL a1),(6,.ref 560 0),(7,rI s.1),(18,rI (rW ((if(a1.length:Int)>(a0.length:Int)then(a1.length:Int)else(a0.length:Int))+(1:Int)))),(19,rI s.2.1)] [(560,.arr 0 3 (s.2.2.map (PD.int .i64)))]) (fun o=>gX 0 0 408 12 [(6,.ref 560 0)] [(560,.arr 0 3 (o.map (PD.int .i64)))]) Z ?_ ?_))
 ·rintro⟨s3,s4,s5⟩ R' B' q7 hI h
  refine gS Z hI<|sF h ?_ ?_<;>intro h
  ·refine sN<|qS<|cT<|qK<|qS<|qB<|gU Z<|sM Z<|sA Z<|sN<|gU Z<|mM Z<|sM Z<|bE h fun x9 h9 h=>?_
   refine cD (m6 h9)<|mM Z<|bE h fun x10 h10 h=>cD (m6 h10)<|sV (rI (rW (x9+x10)))<|sV (rI (rW (s3+(rW (x9+x10)))))<|sA Z<|sN<|gU Z<|mM Z<|bE h fun x11 h11 h=>WO.remG h11 Z Z Z Z Z Z<|sV (.d (.lst ([x11].map (PD.int .i64)))) ?_
   refine bE h fun x12 h12 h=>aR h12 (fun _=>Z) Z<|sA Z<|sN<|WC.region Z Z<|sM Z<|sV (rI (p9 .i64 (rW (s3+(rW (x9+x10)))) (30:Int)))<|sA Z<|sN<|WC.region Z Z<|sV (rI (rW (s4+(1:Int))))<|sM Z<|sN ?_
   cases oI h
   exact⟨rfl,rfl⟩
  refine sN<|qS<|cF<|qX ?_
  cases oI h
  exact⟨nofun,rfl,rfl⟩
 intro e R' B' he hq
 obtain⟨rfl,hI⟩:=hq
 refine qE<|gS Z hI<|sM Z<|bE h fun x15 h15 h=>cR (.tup [rL x15.1,rI x15.2]) [(560,.dead)] (jJ h15)<|sV (rL x15.1)<|sV (rI x15.2)<|sA Z<|sA Z<|sN<|qR ?_
 exact oI h▸qD
theorem lc{a0:aT}{a1:Int}{a2:Int}{r:(List Int)}(h:fH a0 a1 a2=some r):EvP prog aN ext 382 [.d (aT.pd a0),rI a1,rI a2] [] (rL r,[]):=by
 refine Ev.body Z Tryz.func382 Z Zk<|gU Z<|sB (.ptr 48 0) 48 (.var [rI a0.a0,rI a0.a1,rI a0.a2])<|sV .mA<|sN<|WC.cI Z Z<|sV (.ptr 48 0)<|sL Z<|sM Z<|sV (rI (rW (a0.a0*a2)))<|sM Z<|sV (rI (rW ((rW (a0.a0*a2))*a2)))<|sV (.ptr 48 2)<|sL Z<|sM Z ?_
 refine sV (rI (rW (a0.a2*a1)))<|sM Z<|sV (rI (rW ((rW (a0.a2*a1))*a1)))<|sV (rI (rW ((rW ((rW (a0.a0*a2))*a2))-(rW ((rW (a0.a2*a1))*a1)))))<|bE h fun x1 h1 h=>cD (dy h1)<|sV (.ptr 48 1)<|sL Z<|sM Z<|sV (rI (rW (a0.a1*a1)))<|sM Z<|sV (rI (rW ((rW (a0.a1*a1))*a2)))<|bE h fun x2 h2 h=>cD (dy h2)<|bE h fun x3 h3 h=>?_
 refine cR (.tup [rL x3.1,rI x3.2]) [] (nat_Add_ev h3)<|sM Z<|sV (rL x3.1)<|sV (rI x3.2)<|sA Z<|sA Z ?_
 refine sN<|sO<|gU Z<|sM Z<|sA Z<|sN<|qR ?_
 exact oI h▸qD
theorem response_gain_ev{a0:aB}{a1:Int}{a2:Int}{r:aJ×Bool}(h:kC a0 a1 a2=some r):EvP prog aN ext 336 [.d (aB.pd a0),rI a1,rI a2] [] (.tup [.d (aJ.pd r.1),rB r.2],[]):=by
 refine Ev.body Z Tryz.func336 Z Zk<|gU Z<|sB (.ptr 48 0) 48 (.var (aB.rc a0))<|sB (.ptr 96 0) 96 (.var [.mA,.mA])<|sU<|sN<|qS<|gU Z<|sV (.ptr 48 0)<|sL Z<|sN<|qB<|gU Z<|sF h ?_ ?_<;>intro h
 ·refine sA Z<|sN<|cT<|WC.cI Z Z<|sV (.ptr 48 1)<|sV (.ptr 48 1)<|sL Z<|bE h fun x2 h2 h=>cD (dy h2)<|sV (.ptr 48 4)<|sV (.ptr 48 4)<|sL Z<|bE h fun x3 h3 h=>cD (dy h3)<|sV (.d (.agg [.lst (x2.map (PD.int .i64)),.lst (x3.map (PD.int .i64))])) ?_
  refine sS 96 (.var [rL x2,rL x3])<|sT ?_
  refine sN<|sO<|qR ?_
  cases oI h
  exact qG
 refine sA Z<|sN<|cF<|gU Z<|sF h ?_ ?_<;>intro h
 ·refine sA Z<|sN<|cT<|WC.cI Z Z<|sV (.ptr 48 1)<|sV (.d (aT.pd a0.bK))<|mM Z<|bE h fun x5 h5 h=>cD (lc h5)<|sV (.ptr 48 4)<|sV (.d (aT.pd a0.bC))<|mM Z<|bE h fun x6 h6 h=>?_
  refine cD (lc h6)<|sV (.d (.agg [.lst (x5.map (PD.int .i64)),.lst (x6.map (PD.int .i64))]))<|sB (.ptr 128 0) 128 (.var [.mA,.mA])<|sS 128 (.var [rL x5,rL x6]) ?_
  refine sN<|sO<|WC.cI Z Z<|sV (.d (.agg [.lst (x5.map (PD.int .i64)),.lst (x6.map (PD.int .i64))]))<|sV (.ptr 128 1)<|sL Z<|sE (rI (x6.length:Int)) (pf _ _)<|sV (rB (decide ((x6.length:Int)>(0:Int))))<|sS 96 (.var [rL x5,rL x6])<|sA Z ?_
  refine sN<|sO<|qR ?_
  cases oI h
  exact qG
 refine sA Z<|sN<|cF<|qK<|WC.cI Z Z<|sV (.ptr 48 7)<|sL Z<|bE h fun x7 h7 h=>cD (iX h7)<|bE h fun x8 h8 h=>cD (dy h8)<|sV (.ptr 48 9)<|sL Z<|bE h fun x9 h9 h=>WO.shlG h9 Z Z Z Z Z ?_
 refine bE h fun x10 h10 h=>cD (dy h10)<|sV (.d (.agg [.lst (x8.map (PD.int .i64)),.lst (x10.map (PD.int .i64))]))<|sS 96 (.var [rL x8,rL x10])<|sT ?_
 refine sN<|sO<|qR ?_
 cases oI h
 exact qG
theorem kH{a0:aJ}{r:Bool}(h:e9 a0=some r):EvP prog aN ext 384 [.d (aJ.pd a0)] [] (rB r,[]):=by
 refine Ev.body Z Tryz.func384 Z Zk<|gU Z<|sB (.ptr 16 0) 16 (.var (aJ.rc a0))<|sU<|sN<|gU Z<|sV (.ptr 16 0)<|sL Z<|bE h fun x1 h1 h=>qe h (fun hb2 h=>?_) (fun hb2 h=>?_)
 ·refine WO.qH (v:=rB true) (u:=[]) Z Z (fun _=>Z) Z Z Z Z Z (gh h1) Z Z (congrArg (fun b=>RV.d (.bool b)) hb2) Z<|sM Z<|sV (.ptr 16 1)<|sL Z<|bE h fun x3 h3 h=>cD (gh h3)<|sF h ?_ ?_<;>intro h
  ·refine sM Z<|sV (.ptr 16 1)<|sL Z<|sE (rI (a0.bC.length:Int)) (pf _ _)<|sV (rB (decide ((a0.bC.length:Int)>(0:Int))))<|sV (rB (decide ((a0.bC.length:Int)>(0:Int))))<|sA Z<|sN<|qR ?_
   exact oI h▸qD
  refine sM Z<|k3<|sK<|sU<|sA Z<|sN<|qR ?_
  exact oI h▸qD
 refine WO.qH (v:=rB false) (u:=[]) Z Z (fun _=>Z) Z Z Z Z Z (gh h1) Z Z (congrArg (fun b=>RV.d (.bool b)) hb2) Z<|sM Z<|k3<|sU<|sM Z<|k3<|sK<|sU<|sA Z<|sN<|qR ?_
 exact oI h▸qD
theorem nat_Times_ev{a0:aJ}{a1:aJ}{r:aJ×Int}(h:od a0 a1=some r):EvP prog aN ext 337 [.d (aJ.pd a0),.d (aJ.pd a1)] [] (.tup [.d (aJ.pd r.1),rI r.2],[]):=by
 refine Ev.body Z Tryz.func337 Z Zk<|gU Z<|sB (.ptr 32 0) 32 (.var (aJ.rc a0))<|sB (.ptr 48 0) 48 (.var (aJ.rc a1))<|sB (.ptr 64 0) 64 (.var [.mA,.mA])<|sV (r0)<|sN<|qS<|gU Z<|sV (.d (aJ.pd a0))<|bE h fun x1 h1 h=>cD (kH h1)<|sF h ?_ ?_<;>intro h
 ·refine sM Z<|k3<|sT<|sN<|cT<|gU Z<|sV (.agg [.mA,.mA])<|sS 64 (.var [.mA,.mA])<|sV (rI 1)<|sN<|qR ?_
  exact oI h▸qD
 refine sM Z<|sV (.d (aJ.pd a1))<|bE h fun x3 h3 h=>cD (kH h3)<|sV (rB (!x3))<|sF h ?_ ?_<;>intro h
 ·refine sN<|cT<|gU Z<|sV (.agg [.mA,.mA])<|sS 64 (.var [.mA,.mA])<|sV (rI 1)<|sN<|qR ?_
  exact oI h▸qD
 refine sN<|cF<|qK<|gU Z<|sV (.ptr 32 0)<|sL Z<|sV (.ptr 48 0)<|sL Z<|bE h fun x5 h5 h=>cD (kT h5)<|bE h fun x6 h6 h=>cR (.tup [rL x6.1,rI x6.2]) [] (jJ h6)<|sM Z<|sV (rL x6.1)<|sV (rI x6.2) ?_
 refine sA Z<|sA Z<|sN<|gU Z<|sV (.ptr 32 1)<|sL Z<|sV (.ptr 48 1)<|sL Z<|bE h fun x7 h7 h=>cD (kT h7)<|bE h fun x8 h8 h=>cR (.tup [rL x8.1,rI x8.2]) [] (jJ h8)<|sM Z<|sV (rL x8.1)<|sV (rI x8.2) ?_
 refine sA Z<|sA Z<|sN<|qS<|gU Z<|sM Z<|sF h ?_ ?_<;>intro h
 ·refine sM Z<|sK<|sK<|sT<|sN<|cT<|gU Z<|sV (.agg [.mA,.mA])<|sS 64 (.var [.mA,.mA])<|sV (rI 8)<|sN<|qR ?_
  exact oI h▸qD
 refine mM Z<|sV (rB (x8.2 != (0:Int)))<|sF h ?_ ?_<;>intro h
 ·refine sN<|cT<|gU Z<|sV (.agg [.mA,.mA])<|sS 64 (.var [.mA,.mA])<|sV (rI 8)<|sN<|qR ?_
  exact oI h▸qD
 refine sN<|cF<|qK<|gU Z<|mM Z<|sV (.d (.agg [.lst (x6.1.map (PD.int .i64)),.lst (x8.1.map (PD.int .i64))]))<|sS 64 (.var [rL x6.1,rL x8.1])<|sV (r0)<|sN<|qR ?_
 exact oI h▸qD
theorem response_Gain_ev{a0:aP}{a1:Int}{a2:Int}{r:aJ×Int}(h:kA a0 a1 a2=some r):EvP prog aN ext 273 [.d (aP.pd a0),rI a1,rI a2] [] (.tup [.d (aJ.pd r.1),rI r.2],[]):=by
 refine Ev.body Z Tryz.func273 Z Zk<|gU Z<|sB (.ptr 48 0) 48 (.var [rM aB.pd a0.bw])<|sB (.ptr 96 0) 96 (.var [.mA,.mA])<|sV (r0)<|sN<|qS<|gU Z<|sV (.d (aP.pd a0))<|bE h fun x1 h1 h=>cD (mc h1)<|sF h ?_ ?_<;>intro h
 ·refine sN<|cT<|gU Z<|sV (.agg [.mA,.mA])<|sS 96 (.var [.mA,.mA])<|sV (rI 1)<|sN<|qR ?_
  exact oI h▸qD
 refine sN<|cF<|qK<|qS<|gU Z<|sM Z<|bE h fun x3 h3 h=>cD (ca h3)<|sF h ?_ ?_<;>intro h
 ·refine sM Z<|k3<|sT<|sN<|cT<|gU Z<|sV (.agg [.mA,.mA])<|sS 96 (.var [.mA,.mA])<|sV (rI 2)<|sN<|qR ?_
  exact oI h▸qD
 refine mM Z<|bE h fun x5 h5 h=>cD (ca h5)<|sV (rB (!x5))<|sF h ?_ ?_<;>intro h
 ·refine sN<|cT<|gU Z<|sV (.agg [.mA,.mA])<|sS 96 (.var [.mA,.mA])<|sV (rI 2)<|sN<|qR ?_
  exact oI h▸qD
 refine sN<|cF<|qK<|gU Z<|sV (.d (.lst ([1].map (PD.int .i64))))<|sV (.d (.lst ([1].map (PD.int .i64))))<|sV (.d (.agg [.lst ([1].map (PD.int .i64)),.lst ([1].map (PD.int .i64))]))<|sB (.ptr 128 0) 128 (.var [.mA,.mA])<|sS 128 (.var [.d (.lst ([1].map (PD.int .i64))),.d (.lst ([1].map (PD.int .i64)))])<|sN<|qS<|gU Z<|sV (.ptr 48 0)<|sL Z<|sE (rI (a0.bw.length:Int)) (pf _ _) ?_
 refine sV (r0)<|sN<|bE h fun o20 ho20 h=>WC.block (WC.loop (WL.pI ho20 (fun s=>gI 0 273 7 [(1,rI a1),(2,rI a2),(6,.ptr 96 0),(8,.ptr 128 0),(31,rM aB.pd a0.bw),(32,rI (a0.bw.length:Int)),(33,rI s.1)] [(96,.var [.mA,.mA]),(128,.var [rL s.2.1,rL s.2.2])]) (fun o=>match o with| .inl y=>gX 0 0 273 17 [(6,.ptr 96 0),(8,.ptr 128 0)] [(96,.var [.mA,.mA]),(128,.var [rL y.1,rL y.2])]| .inr r=>gF 273 Tryz.f273 0 (.tup [.d (aJ.pd r.1),rI r.2],[])) Z ?_ ?_))
 ·rintro⟨s7,s8,s9⟩ R' B' q12 hI h
  refine gS Z hI<|sF h ?_ ?_<;>intro h
  ·refine sN<|qS<|cT<|qK<|qS<|qB<|gU Z<|bE h fun x14 h14 h=>eG h14 Z<|sV (.d (aB.pd x14))<|sB (.ptr 160 0) 160 (.var [r0,r0,r0,r0,r0,r0,r0,.mA,r0,r0])<|sH 160 (.var (aB.rc x14))<|sN<|gU Z<|sV (.d (aB.pd x14)) ?_
   refine mM Z<|bE h fun x15 h15 h=>cR (.tup [.d (aJ.pd x15.1),rB x15.2]) [] (response_gain_ev h15)<|sM Z<|sV (.d (aJ.pd x15.1))<|sV (rB x15.2)<|sB (.ptr 176 0) 176 (.var [.mA,.mA])<|sS 176 (.var (aJ.rc x15.1))<|sA Z<|sN<|qS<|gU Z<|sM Z<|sF h ?_ ?_<;>intro h
   ·refine sN<|cT<|gU Z<|sV (.agg [.mA,.mA])<|sS 96 (.var [.mA,.mA])<|sV (rI 11)<|sN<|qR ?_
    cases oI h
    exact⟨nofun,rfl,rfl⟩
   refine sN<|cF<|qK<|gU Z<|sV (r0)<|sN<|gU Z<|sV (.d (aJ.pd (aJ.mk s8 s9)))<|sV (.d (aJ.pd x15.1))<|bE h fun x17 h17 h=>cR (.tup [.d (aJ.pd x17.1),rI x17.2]) [] (nat_Times_ev h17)<|sM Z<|sV (.d (aJ.pd x17.1))<|sV (rI x17.2)<|sS 128 (.var (aJ.rc x17.1)) ?_
   refine sA Z<|sN<|gU Z<|sM Z<|sF h ?_ ?_<;>intro h
   ·refine sN<|cT<|gU Z<|sV (.agg [.mA,.mA])<|sM Z<|sS 96 (.var [.mA,.mA])<|sA Z<|sN<|qR ?_
    cases oI h
    exact⟨nofun,rfl,rfl⟩
   refine sN<|cF<|qK<|WC.region Z Z<|sV (rI (rW (s7+(1:Int))))<|sM Z<|sN ?_
   cases oI h
   exact⟨rfl,rfl⟩
  refine sN<|qS<|cF<|qX ?_
  cases oI h
  exact⟨nofun,rfl,rfl⟩
 intro e R' B' he hq
 rcases o20 with y21|r22
 ·obtain⟨rfl,hI⟩:=hq
  refine qE<|gS Z hI<|sV (.d (aJ.pd (aJ.mk y21.1 y21.2)))<|sS 96 (.var [rL y21.1,rL y21.2])<|sV (r0)<|sN<|qR ?_
  exact oI h▸qD
 obtain⟨rfl,hf⟩:=hq
 cases oI h
 exact hf
theorem k8{a0:Int}{a1:Int}{r:Int}(h:fD a0 a1=some r):EvP prog aN ext 339 [rI a0,rI a1] [] (rI r,[]):=by
 refine Ev.body Z Tryz.func339 Z Zk<|gU Z<|sV (r0)<|sN<|gU Z<|sV (r0)<|sN<|qS<|gU Z<|sV (r0)<|sN<|WC.block (WC.loop ?_)
 refine WL.round<|gU Z<|sT<|sN<|qS<|cT<|qK<|WC.join (α:=Int×Int) (fun x R' B'=>qb prog 0 (A R' B') (aN.at_ 339 0 9)=some (A [(0,rI a0),(1,rI x.1),(5,rI x.2),(6,r0)] [])) (fun x=>dQ a0 x.1 x.2=some r) ?_ ?_
 ·refine qB<|gU Z<|mM Z<|sV (rI (rW (a1*a1)))<|sV (rI (p9 .i64 (rW (a1*a1)) (30:Int)))<|sA Z<|sN<|gU Z<|sM Z<|sV (r0)<|sA Z<|sN<|gU Z<|sM Z ?_
  refine sF h ?_ ?_<;>intro h
  ·exact sN<|cT<|gS rfl rfl<|sM rfl<|bE h fun x40 h40 h=>WO.um h40 rfl rfl rfl rfl rfl rfl<|sA rfl<|sN<|WC.region rfl rfl<|sM rfl<|sV (rI 1)<|sA rfl<|sN<|⟨(x40,1),rfl,h⟩
  exact sN<|cF<|qK<|⟨((p9 .i64 (rW (a1*a1)) (30:Int)),0),rfl,h⟩
 rintro⟨j1,j2⟩ R' B' hI h
 refine WC.region hI Z<|sV (rI 1)<|sM Z<|sN<|WL.round<|gU Z<|sT<|sN<|qS<|cT<|qK<|WC.join (α:=Int×Int) (fun x R' B'=>qb prog 0 (A R' B') (aN.at_ 339 0 9)=some (A [(0,rI a0),(1,rI x.1),(5,rI x.2),(6,rI 1)] [])) (fun x=>dP a0 x.1 x.2=some r) ?_ ?_
 ·refine qB<|gU Z<|mM Z<|sV (rI (rW (j1*j1)))<|sV (rI (p9 .i64 (rW (j1*j1)) (30:Int)))<|sA Z<|sN<|gU Z<|sM Z<|sV (rI (rW (j2*(2:Int))))<|sA Z<|sN<|gU Z<|sM Z ?_
  refine sF h ?_ ?_<;>intro h
  ·exact sN<|cT<|gS rfl rfl<|sM rfl<|bE h fun x37 h37 h=>WO.um h37 rfl rfl rfl rfl rfl rfl<|sA rfl<|sN<|WC.region rfl rfl<|sM rfl<|sV (rI (rW ((rW (j2*(2:Int)))+(1:Int))))<|sA rfl<|sN<|⟨(x37,(rW ((rW (j2*(2:Int)))+(1:Int)))),rfl,h⟩
  exact sN<|cF<|qK<|⟨((p9 .i64 (rW (j1*j1)) (30:Int)),(rW (j2*(2:Int)))),rfl,h⟩
 rintro⟨j3,j4⟩ R' B' hI h
 refine WC.region hI Z<|sV (rI 2)<|sM Z<|sN<|WL.round<|gU Z<|sT<|sN<|qS<|cT<|qK<|WC.join (α:=Int×Int) (fun x R' B'=>qb prog 0 (A R' B') (aN.at_ 339 0 9)=some (A [(0,rI a0),(1,rI x.1),(5,rI x.2),(6,rI 2)] [])) (fun x=>dO a0 x.1 x.2=some r) ?_ ?_
 ·refine qB<|gU Z<|mM Z<|sV (rI (rW (j3*j3)))<|sV (rI (p9 .i64 (rW (j3*j3)) (30:Int)))<|sA Z<|sN<|gU Z<|sM Z<|sV (rI (rW (j4*(2:Int))))<|sA Z<|sN<|gU Z<|sM Z ?_
  refine sF h ?_ ?_<;>intro h
  ·exact sN<|cT<|gS rfl rfl<|sM rfl<|bE h fun x34 h34 h=>WO.um h34 rfl rfl rfl rfl rfl rfl<|sA rfl<|sN<|WC.region rfl rfl<|sM rfl<|sV (rI (rW ((rW (j4*(2:Int)))+(1:Int))))<|sA rfl<|sN<|⟨(x34,(rW ((rW (j4*(2:Int)))+(1:Int)))),rfl,h⟩
  exact sN<|cF<|qK<|⟨((p9 .i64 (rW (j3*j3)) (30:Int)),(rW (j4*(2:Int)))),rfl,h⟩
 rintro⟨j5,j6⟩ R' B' hI h
 refine WC.region hI Z<|sV (rI 3)<|sM Z<|sN<|WL.round<|gU Z<|sT<|sN<|qS<|cT<|qK<|WC.join (α:=Int×Int) (fun x R' B'=>qb prog 0 (A R' B') (aN.at_ 339 0 9)=some (A [(0,rI a0),(1,rI x.1),(5,rI x.2),(6,rI 3)] [])) (fun x=>dN a0 x.1 x.2=some r) ?_ ?_
 ·refine qB<|gU Z<|mM Z<|sV (rI (rW (j5*j5)))<|sV (rI (p9 .i64 (rW (j5*j5)) (30:Int)))<|sA Z<|sN<|gU Z<|sM Z<|sV (rI (rW (j6*(2:Int))))<|sA Z<|sN<|gU Z<|sM Z ?_
  refine sF h ?_ ?_<;>intro h
  ·exact sN<|cT<|gS rfl rfl<|sM rfl<|bE h fun x31 h31 h=>WO.um h31 rfl rfl rfl rfl rfl rfl<|sA rfl<|sN<|WC.region rfl rfl<|sM rfl<|sV (rI (rW ((rW (j6*(2:Int)))+(1:Int))))<|sA rfl<|sN<|⟨(x31,(rW ((rW (j6*(2:Int)))+(1:Int)))),rfl,h⟩
  exact sN<|cF<|qK<|⟨((p9 .i64 (rW (j5*j5)) (30:Int)),(rW (j6*(2:Int)))),rfl,h⟩
 rintro⟨j7,j8⟩ R' B' hI h
 refine WC.region hI Z<|sV (rI 4)<|sM Z<|sN<|WL.round<|gU Z<|sT<|sN<|qS<|cT<|qK<|WC.join (α:=Int×Int) (fun x R' B'=>qb prog 0 (A R' B') (aN.at_ 339 0 9)=some (A [(0,rI a0),(1,rI x.1),(5,rI x.2),(6,rI 4)] [])) (fun x=>dM a0 x.1 x.2=some r) ?_ ?_
 ·refine qB<|gU Z<|mM Z<|sV (rI (rW (j7*j7)))<|sV (rI (p9 .i64 (rW (j7*j7)) (30:Int)))<|sA Z<|sN<|gU Z<|sM Z<|sV (rI (rW (j8*(2:Int))))<|sA Z<|sN<|gU Z<|sM Z ?_
  refine sF h ?_ ?_<;>intro h
  ·exact sN<|cT<|gS rfl rfl<|sM rfl<|bE h fun x28 h28 h=>WO.um h28 rfl rfl rfl rfl rfl rfl<|sA rfl<|sN<|WC.region rfl rfl<|sM rfl<|sV (rI (rW ((rW (j8*(2:Int)))+(1:Int))))<|sA rfl<|sN<|⟨(x28,(rW ((rW (j8*(2:Int)))+(1:Int)))),rfl,h⟩
  exact sN<|cF<|qK<|⟨((p9 .i64 (rW (j7*j7)) (30:Int)),(rW (j8*(2:Int)))),rfl,h⟩
 rintro⟨j9,j10⟩ R' B' hI h
 refine WC.region hI Z<|sV (rI 5)<|sM Z<|sN<|WL.round<|gU Z<|sT<|sN<|qS<|cT<|qK<|WC.join (α:=Int×Int) (fun x R' B'=>qb prog 0 (A R' B') (aN.at_ 339 0 9)=some (A [(0,rI a0),(1,rI x.1),(5,rI x.2),(6,rI 5)] [])) (fun x=>dL a0 x.1 x.2=some r) ?_ ?_
 ·refine qB<|gU Z<|mM Z<|sV (rI (rW (j9*j9)))<|sV (rI (p9 .i64 (rW (j9*j9)) (30:Int)))<|sA Z<|sN<|gU Z<|sM Z<|sV (rI (rW (j10*(2:Int))))<|sA Z<|sN<|gU Z<|sM Z ?_
  refine sF h ?_ ?_<;>intro h
  ·exact sN<|cT<|gS rfl rfl<|sM rfl<|bE h fun x25 h25 h=>WO.um h25 rfl rfl rfl rfl rfl rfl<|sA rfl<|sN<|WC.region rfl rfl<|sM rfl<|sV (rI (rW ((rW (j10*(2:Int)))+(1:Int))))<|sA rfl<|sN<|⟨(x25,(rW ((rW (j10*(2:Int)))+(1:Int)))),rfl,h⟩
  exact sN<|cF<|qK<|⟨((p9 .i64 (rW (j9*j9)) (30:Int)),(rW (j10*(2:Int)))),rfl,h⟩
 rintro⟨j11,j12⟩ R' B' hI h
 refine WC.region hI Z<|sV (rI 6)<|sM Z<|sN<|WL.round<|gU Z<|sT<|sN<|qS<|cT<|qK<|WC.join (α:=Int×Int) (fun x R' B'=>qb prog 0 (A R' B') (aN.at_ 339 0 9)=some (A [(0,rI a0),(1,rI x.1),(5,rI x.2),(6,rI 6)] [])) (fun x=>dK a0 x.1 x.2=some r) ?_ ?_
 ·refine qB<|gU Z<|mM Z<|sV (rI (rW (j11*j11)))<|sV (rI (p9 .i64 (rW (j11*j11)) (30:Int)))<|sA Z<|sN<|gU Z<|sM Z<|sV (rI (rW (j12*(2:Int))))<|sA Z<|sN<|gU Z<|sM Z ?_
  refine sF h ?_ ?_<;>intro h
  ·exact sN<|cT<|gS rfl rfl<|sM rfl<|bE h fun x22 h22 h=>WO.um h22 rfl rfl rfl rfl rfl rfl<|sA rfl<|sN<|WC.region rfl rfl<|sM rfl<|sV (rI (rW ((rW (j12*(2:Int)))+(1:Int))))<|sA rfl<|sN<|⟨(x22,(rW ((rW (j12*(2:Int)))+(1:Int)))),rfl,h⟩
  exact sN<|cF<|qK<|⟨((p9 .i64 (rW (j11*j11)) (30:Int)),(rW (j12*(2:Int)))),rfl,h⟩
 rintro⟨j13,j14⟩ R' B' hI h
 refine WC.region hI Z<|sV (rI 7)<|sM Z<|sN<|WL.round<|gU Z<|sT<|sN<|qS<|cT<|qK<|WC.join (α:=Int×Int) (fun x R' B'=>qb prog 0 (A R' B') (aN.at_ 339 0 9)=some (A [(0,rI a0),(1,rI x.1),(5,rI x.2),(6,rI 7)] [])) (fun x=>dJ a0 x.1 x.2=some r) ?_ ?_
 ·refine qB<|gU Z<|mM Z<|sV (rI (rW (j13*j13)))<|sV (rI (p9 .i64 (rW (j13*j13)) (30:Int)))<|sA Z<|sN<|gU Z<|sM Z<|sV (rI (rW (j14*(2:Int))))<|sA Z<|sN<|gU Z<|sM Z ?_
  refine sF h ?_ ?_<;>intro h
  ·exact sN<|cT<|gS rfl rfl<|sM rfl<|bE h fun x19 h19 h=>WO.um h19 rfl rfl rfl rfl rfl rfl<|sA rfl<|sN<|WC.region rfl rfl<|sM rfl<|sV (rI (rW ((rW (j14*(2:Int)))+(1:Int))))<|sA rfl<|sN<|⟨(x19,(rW ((rW (j14*(2:Int)))+(1:Int)))),rfl,h⟩
  exact sN<|cF<|qK<|⟨((p9 .i64 (rW (j13*j13)) (30:Int)),(rW (j14*(2:Int)))),rfl,h⟩
 rintro⟨j15,j16⟩ R' B' hI h
 refine WC.region hI Z<|sV (rI 8)<|sM Z<|sN<|WL.round<|gU Z<|sU<|sN<|qS<|cF<|qX<|qE<|gU Z<|sM Z<|sV (rI (rW ((256:Int)*a0))) ?_
 refine sM Z<|sV (rI (rW ((rW ((256:Int)*a0))+j16)))<|sA Z<|sN<|qR ?_
 exact oI h▸qD
theorem kd{a0:Int}{r:Int×Int}(h:gy a0=some r):EvP prog aN ext 275 [rI a0] [] (.tup [rI r.1,rI r.2],[]):=by
 refine Ev.body Z Tryz.func275 Z Zk<|gU Z<|sV (r0)<|sV (r0)<|sN<|qS<|gU Z<|sM Z<|sF h ?_ ?_<;>intro h
 ·refine sN<|cT<|gU Z<|sV (r0)<|sV (rI 2)<|sN<|qR ?_
  exact oI h▸qD
 refine sN<|cF<|qK<|gU Z<|sM Z<|sV (.d (.int .u64 (IntKind.wrap .u64 a0)))<|bE h fun x2 h2 h=>cD (nE h2)<|sV (rI (rW (x2-(1:Int))))<|sA Z<|sN<|qS<|gU Z<|sM Z<|sF h ?_ ?_<;>intro h
 ·refine sN<|cT<|gU Z<|mM Z<|sM Z<|sV (rI (rW ((30:Int)-(rW (x2-(1:Int))))))<|bE h fun x4 h4 h=>WO.shlG h4 Z Z Z Z Z<|bE h fun x5 h5 h=>cD (k8 h5)<|sA Z<|sV (r0)<|sN<|qR ?_
  exact oI h▸qD
 refine sN<|cF<|qK<|gU Z<|mM Z<|sM Z<|sV (rI (rW ((rW (x2-(1:Int)))-(30:Int))))<|bE h fun x6 h6 h=>WO.shrG h6 Z Z Z Z Z<|bE h fun x7 h7 h=>cD (k8 h7)<|sA Z<|sV (r0)<|sN ?_
 refine qR ?_
 exact oI h▸qD
theorem k7{a0:(List Int)}{r:Int×Int}(h:fC a0=some r):EvP prog aN ext 274 [rL a0] [] (.tup [rI r.1,rI r.2],[]):=by
 refine Ev.body Z Tryz.func274 Z Zk<|gU Z<|sV (r0)<|sV (r0)<|sN<|qS<|gU Z<|sM Z<|bE h fun x1 h1 h=>cD (gh h1)<|sF h ?_ ?_<;>intro h
 ·refine sN<|cT<|gU Z<|sV (r0)<|sV (rI 1)<|sN<|qR ?_
  exact oI h▸qD
 refine sN<|cF<|qK<|gU Z<|sM Z<|sE (rI (a0.length:Int)) (pf _ _)<|sV (rI (rW ((a0.length:Int)-(1:Int))))<|sA Z<|sN<|qS<|qB<|gU Z<|sM Z<|sF h ?_ ?_<;>intro h
 ·refine sA Z<|sN<|cT<|gU Z<|sV (r0)<|sV (rI 2)<|sN<|qR ?_
  exact oI h▸qD
 refine sA Z<|sN<|cF<|gU Z<|sM Z<|sF h ?_ ?_<;>intro h
 ·refine sA Z<|sN<|cT<|gU Z<|sM Z<|bE h fun x5 h5 h=>eG h5 Z<|sC Z<|bE h fun x6 h6 h=>cR (.tup [rI x6.1,rI x6.2]) [] (kd h6)<|sV (rI x6.1)<|sV (rI x6.2)<|sA Z<|sA Z<|sN ?_
  refine qR ?_
  exact oI h▸qD
 refine sA Z<|sN<|cF<|qK<|WC.cI Z Z<|mM Z<|bE h fun x7 h7 h=>eG h7 Z<|sC Z<|sV (rI (shlI .i64 x7 (30:Int)))<|mM Z<|sV (rI (rW ((rW ((a0.length:Int)-(1:Int)))-(1:Int))))<|bE h fun x8 h8 h=>?_
 refine eG h8 Z<|sC Z<|sV (rI (orI .i64 (shlI .i64 x7 (30:Int)) x8))<|sA Z ?_
 refine sN<|sO<|gU Z<|sM Z<|bE h fun x9 h9 h=>cR (.tup [rI x9.1,rI x9.2]) [] (kd h9)<|sM Z<|sV (rI x9.1)<|sV (rI x9.2)<|sA Z<|sA Z<|sN<|gU Z<|mM Z<|sV (rI (rW ((rW ((a0.length:Int)-(1:Int)))-(1:Int)))) ?_
 refine sV (rI (rW ((7680:Int)*(rW ((rW ((a0.length:Int)-(1:Int)))-(1:Int))))))<|sV (rI (rW (x9.1+(rW ((7680:Int)*(rW ((rW ((a0.length:Int)-(1:Int)))-(1:Int))))))))<|sM Z<|sA Z<|sA Z<|sN<|qR ?_
 exact oI h▸qD
theorem oq{a0:bz}{a1:aP}{a2:Int}{r:Int×Int}(h:iu a0 a1 a2=some r):EvP prog aN ext 190 [.d (bz.pd a0),.d (aP.pd a1),rI a2] [] (.tup [rI r.1,rI r.2],[]):=by
 refine Ev.body Z Tryz.func190 Z Zk<|gU Z<|sB (.ptr 48 0) 48 (.var (bz.rc a0))<|sB (.ptr 64 0) 64 (.var [rM aB.pd a1.bw])<|sV (r0)<|sV (r0)<|sN<|gU Z<|sV (.d (aP.pd a1))<|sV (.ptr 48 3)<|sL Z<|sV (.ptr 48 4)<|sL Z<|bE h fun x1 h1 h=>cR (.tup [.d (aJ.pd x1.1),rI x1.2]) [] (response_Gain_ev h1) ?_
 refine sM Z<|sV (.d (aJ.pd x1.1))<|sV (rI x1.2)<|sB (.ptr 128 0) 128 (.var [.mA,.mA])<|sS 128 (.var (aJ.rc x1.1))<|sA Z<|sN<|qS<|gU Z<|sM Z<|sF h ?_ ?_<;>intro h
 ·refine sN<|cT<|gU Z<|sM Z<|sV (r0)<|sA Z<|sN<|qR ?_
  exact oI h▸qD
 refine sN<|cF<|qK<|gU Z<|sV (.ptr 128 0)<|sL Z<|bE h fun x3 h3 h=>cR (.tup [rI x3.1,rI x3.2]) [] (k7 h3)<|sM Z<|sV (rI x3.1)<|sV (rI x3.2)<|sA Z<|sA Z<|sN<|qS ?_
 refine gU Z<|sM Z<|sF h ?_ ?_<;>intro h
 ·refine sN<|cT<|gU Z<|sV (r0)<|sV (rI 24)<|sN<|qR ?_
  exact oI h▸qD
 refine sN<|cF<|qK<|gU Z<|sV (.ptr 128 1)<|sL Z<|bE h fun x5 h5 h=>cR (.tup [rI x5.1,rI x5.2]) [] (k7 h5)<|sM Z<|sV (rI x5.1)<|sV (rI x5.2)<|sA Z<|sA Z<|sN<|qS ?_
 refine gU Z<|sM Z<|sF h ?_ ?_<;>intro h
 ·refine sN<|cT<|gU Z<|sM Z<|sV (r0)<|sA Z<|sN<|qR ?_
  exact oI h▸qD
 refine sN<|cF<|qK<|gU Z<|sM Z<|bE h fun x7 h7 h=>cR (.tup [rI x7.1,rI x7.2]) [] (kd h7)<|sM Z<|sV (rI x7.1)<|sV (rI x7.2)<|sA Z<|sA Z<|sN<|gU Z<|sM Z ?_
 refine sV (rI (rW ((2:Int)*x7.1)))<|sM Z<|sV (rI (rW ((rW ((2:Int)*x7.1))+x5.1)))<|sM Z<|sV (rI (rW ((rW ((rW ((2:Int)*x7.1))+x5.1))-x3.1)))<|sM Z<|sA Z<|sA Z<|sN<|qR ?_
 exact oI h▸qD
theorem l6{a0:Int}{r:Int}(h:gQ a0=some r):EvP prog aN ext 193 [rI a0] [] (rI r,[]):=by
 refine Ev.body Z Tryz.func193 Z Zk<|gU Z<|sV (r0)<|sN<|gU Z<|sM Z<|sV (rI (p9 .i64 a0 (1:Int)))<|sA Z<|sN<|qR ?_
 exact oI h▸qD
theorem oo{a0:Int}{r:Int×Bool}(h:ke a0=some r):EvP prog aN ext 281 [rI a0] [] (.tup [rI r.1,rB r.2],[]):=by
 refine Ev.body Z Tryz.func281 Z Zk<|gU Z<|sV (r0)<|sU<|sN<|gU Z<|sM Z<|sV (rI (rW (a0*(30103:Int))))<|sM Z<|sF h ?_ ?_<;>intro h
 ·refine mM Z<|sV (rB (decide (a0<=(16777216:Int))))<|sV (rB (decide (a0<=(16777216:Int))))<|sA Z<|sA Z<|sN<|qR ?_
  exact oI h▸qD
 refine sM Z<|sK<|sK<|sU<|sA Z<|sA Z<|sN<|qR ?_
 exact oI h▸qD
theorem lI{a0:Int}{r:Int}(h:gq a0=some r):EvP prog aN ext 192 [rI a0] [] (rI r,[]):=by
 refine Ev.body Z Tryz.func192 Z Zk<|gU Z<|sV (r0)<|sN<|gU Z<|sM Z<|bE h fun x1 h1 h=>cR (.tup [rI x1.1,rB x1.2]) [] (oo h1)<|sM Z<|sV (rI x1.1)<|sV (rB x1.2)<|sA Z<|sA Z<|sN<|qS ?_
 refine gU Z<|sM Z<|sF h ?_ ?_<;>intro h
 ·refine sN<|cT<|gU Z<|sV (r0)<|sN<|qR ?_
  exact oI h▸qD
 refine sN<|cF<|qK<|gU Z<|sM Z<|bE h fun x3 h3 h=>WO.um h3 Z Z Z Z Z Z<|sA Z<|sN<|qS<|gU Z<|sM Z<|bE h fun x4 h4 h=>WO.remG h4 Z Z Z Z Z Z<|sF h ?_ ?_<;>intro h
 ·refine sN<|cT<|WC.region Z Z<|sM Z<|sV (rI (rW (x3-(1:Int))))<|sA Z<|sN<|gU Z<|sM Z<|sA Z<|sN<|qR ?_
  exact oI h▸qD
 refine sN<|cF<|qK<|gU Z<|sM Z<|sA Z<|sN<|qR ?_
 exact oI h▸qD
theorem pr{a0:Int}{r:Int}(h:jI a0=some r):EvP prog aN ext 194 [rI a0] [] (rI r,[]):=by
 refine Ev.body Z Tryz.func194 Z Zk<|gU Z<|sV (r0)<|sN<|gU Z<|sM Z<|sV (rI (rW (0-a0)))<|bE h fun x1 h1 h=>cD (lI h1)<|sV (rI (rW (0-x1)))<|sA Z<|sN<|qR ?_
 exact oI h▸qD
theorem nP{a0:bz}{a1:aP}{a2:Int}{a3:Int}{a4:Int}{r:az×Int}(h:e7 a0 a1 a2 a3 a4=some r):EvP prog aN ext 110 [.d (bz.pd a0),.d (aP.pd a1),rI a2,rI a3,rI a4] [] (.tup [.d (az.pd r.1),rI r.2],[]):=by
 refine Ev.body Z Tryz.func110 Z Zk<|gU Z<|sB (.ptr 80 0) 80 (.var (bz.rc a0))<|sB (.ptr 96 0) 96 (.var [rM aB.pd a1.bw])<|sB (.ptr 160 0) 160 (.var [r0,r0])<|sV (r0)<|sN<|qS<|gU Z<|sV (.d (bz.pd a0))<|bE h fun x1 h1 h=>cD (jn h1)<|sF h ?_ ?_<;>intro h
 ·refine sN<|cT<|gU Z<|sV (.d (az.pd (az.mk 0 0)))<|sS 160 (.var [r0,r0])<|sV (rI 27)<|sN<|qR ?_
  exact oI h▸qD
 refine sN<|cF<|qK<|qS<|gU Z<|sM Z<|sF h ?_ ?_<;>intro h
 ·refine sM Z<|sK<|sK<|sT<|sN<|cT<|gU Z<|sV (.d (az.pd (az.mk 0 0)))<|sS 160 (.var [r0,r0])<|sV (rI 2)<|sN<|qR ?_
  exact oI h▸qD
 refine mM Z<|sV (rB (decide (a2>(1073741823:Int))))<|sF h ?_ ?_<;>intro h
 ·refine sN<|cT<|gU Z<|sV (.d (az.pd (az.mk 0 0)))<|sS 160 (.var [r0,r0])<|sV (rI 2)<|sN<|qR ?_
  exact oI h▸qD
 refine sN<|cF<|qK<|gU Z<|sV (.d (bz.pd a0))<|sV (.d (aP.pd a1))<|sM Z<|bE h fun x5 h5 h=>cR (.tup [rI x5.1,rI x5.2]) [] (oq h5)<|sM Z<|sV (rI x5.1)<|sV (rI x5.2)<|sA Z<|sA Z<|sN ?_
 refine qS<|gU Z<|sM Z<|sF h ?_ ?_<;>intro h
 ·refine sN<|cT<|gU Z<|sV (.d (az.pd (az.mk 0 0)))<|sM Z<|sS 160 (.var [r0,r0])<|sA Z<|sN<|qR ?_
  exact oI h▸qD
 refine sN<|cF<|qK<|gU Z<|sV (.ptr 80 0)<|sV (.d (aH.pd a0.bX))<|mM Z<|bE h fun x7 h7 h=>cR (.tup [rI x7.1,rI x7.2.1,rI x7.2.2]) [] (me h7)<|sM Z<|sV (rI x7.1)<|sV (rI x7.2.1)<|sV (rI x7.2.2)<|sA Z ?_
 refine sA Z<|sA Z<|sN<|qS<|gU Z<|sM Z<|sF h ?_ ?_<;>intro h
 ·refine sN<|cT<|gU Z<|sV (.d (az.pd (az.mk 0 0)))<|sM Z<|sS 160 (.var [r0,r0])<|sA Z<|sN<|qR ?_
  exact oI h▸qD
 refine sN<|cF<|qK<|gU Z<|sM Z<|sV (rI (rW (x5.1-(2:Int))))<|bE h fun x9 h9 h=>cD (l6 h9)<|bE h fun x10 h10 h=>cD (lI h10)<|sM Z<|sV (rI (rW (x10+x7.1)))<|sM Z<|sV (rI (rW (0-x5.1)))<|sV (rI (rW ((rW (0-x5.1))-(6:Int)))) ?_
 refine bE h fun x11 h11 h=>cD (l6 h11)<|sV (rI (rW (0-x11)))<|bE h fun x12 h12 h=>cD (pr h12)<|sM Z<|sV (rI (rW (x12+x7.2.1)))<|sV (.d (az.pd (az.mk (rW (x10+x7.1)) (rW (x12+x7.2.1)))))<|sS 160 (.var [rI (rW (x10+x7.1)),rI (rW (x12+x7.2.1))])<|sV (r0)<|sN<|qR ?_
 exact oI h▸qD
theorem nz{a0:aS}{a1:aq}{a2:ah}{r:(List az)}(h:cC a0 a1 a2=some r):EvP prog aN ext 58 [.d (aS.pd a0),.d (aq.pd a1),.d (ah.pd a2)] [] (rM az.pd r,[]):=by
 refine Ev.body Z Tryz.func58 Z Zk<|gU Z<|sB (.ptr 48 0) 48 (.var (aS.rc a0))<|sB (.ptr 64 0) 64 (.var (aq.rc a1))<|sB (.ptr 80 0) 80 (.var (ah.rc a2))<|sV .mA<|sN<|gU Z<|sV .mA<|sN<|qS<|gU Z<|sV (.ptr 48 1)<|sL Z<|sE (rI (a0.cx.length:Int)) (pf _ _) ?_
 refine sV (r0)<|sN<|bE h fun o15 ho15 h=>WC.block (WC.loop (WL.pI ho15 (fun s=>gI 0 58 3 [(3,.ptr 48 0),(4,.ptr 64 0),(5,.ptr 80 0),(7,.ref 816 0),(13,rM al.pd a0.cx),(14,rI (a0.cx.length:Int)),(15,rI s.1)] [(48,.var (aS.rc a0)),(64,.var (aq.rc a1)),(80,.var (ah.rc a2)),(816,.arr 0 47 (s.2.map az.pd))]) (fun o=>gX 0 0 58 9 [(7,.ref 816 0)] [(816,.arr 0 47 (o.map az.pd))]) Z ?_ ?_))
 ·rintro⟨s1,s2⟩ R' B' q4 hI h
  refine gS Z hI<|sF h ?_ ?_<;>intro h
  ·refine sN<|qS<|cT<|qK<|qS<|qB<|gU Z<|sM Z<|bE h fun x6 h6 h=>eG h6 Z<|sV (.d (al.pd x6))<|sB (.ptr 144 0) 144 (.var zZ4)<|sA Z<|sH 144 (.var (al.rc x6))<|sN ?_
   refine WC.cI Z Z<|sV (.ptr 64 14)<|sV (.d (bz.pd a1.eB))<|sV (.ptr 48 2)<|sL Z<|sM Z<|bE h fun x7 h7 h=>eG h7 Z<|sV (.cptr [.lst (x7.bg.bw.map aB.pd)])<|sV (.d (aP.pd x7.bg))<|sV (.ptr 48 0)<|sL Z<|sM Z<|bE h fun x8 h8 h=>eG h8 Z ?_
   refine sV (.cptr [.int .i64 x8.a8,.int .i64 x8.bp])<|sC Z<|sV (.d (ah.pd a2))<|sV (.ptr 144 0)<|sV (.d (aa.pd x6.aQ))<|bE h fun x9 h9 h=>cD (kb h9)<|sV (.d (ah.pd a2))<|sV (.ptr 144 0)<|sV (.d (aa.pd x6.aQ))<|bE h fun x10 h10 h=>cD (np h10)<|bE h fun x11 h11 h=>cR (.tup [.d (az.pd x11.1),rI x11.2]) [] (nP h11)<|sM Z ?_
   refine sV (.d (az.pd x11.1))<|sV (rI x11.2)<|sB (.ptr 160 0) 160 (.var [r0,r0])<|sS 160 (.var (az.rc x11.1))<|sA Z ?_
   refine sN<|sO<|gU Z<|sM Z<|sF h ?_ ?_<;>intro h
   ·refine sN<|cT<|WC.region Z Z<|sM Z<|sV (.d (az.pd x11.1))<|sV (.d (.lst ([x11.1].map az.pd)))<|bE h fun x13 h13 h=>aR h13 (fun _=>Z) Z<|sA Z<|sN<|WC.region Z Z<|sV (rI (rW (s1+(1:Int))))<|sM Z<|sN ?_
    cases oI h
    exact⟨rfl,rfl⟩
   refine sN<|cF<|qK<|WC.region Z Z<|sV (rI (rW (s1+(1:Int))))<|sM Z<|sN ?_
   cases oI h
   exact⟨rfl,rfl⟩
  refine sN<|qS<|cF<|qX ?_
  cases oI h
  exact⟨nofun,rfl,rfl⟩
 intro e R' B' he hq
 obtain⟨rfl,hI⟩:=hq
 refine qE<|gS Z hI<|sM Z<|sA Z<|sN<|qR ?_
 exact oI h▸qD
theorem iA{a0:az}{r:Bool}(h:ge a0=some r):EvP prog aN ext 114 [.d (az.pd a0)] [] (rB r,[]):=by
 refine Ev.body Z Tryz.func114 Z Zk<|gU Z<|sB (.ptr 16 0) 16 (.var (az.rc a0))<|sU<|sN<|gU Z<|sV (.ptr 16 0)<|sL Z<|sV (.ptr 16 1)<|sL Z<|sV (rB (decide (a0.aI>a0.aC)))<|sA Z<|sN<|qR ?_
 exact oI h▸qD
theorem js{a0:(List az)}{r:Int}(h:dz a0=some r):EvP prog aN ext 198 [rM az.pd a0,.d (.raw (.func (.func 114) #[] #[]))] [] (rI r,[]):=by
 refine Ev.body Z Tryz.func198 Z Zk<|gU Z<|sV (r0)<|sN<|qS<|gU Z<|sM Z<|sE (rI (a0.length:Int)) (pf _ _)<|sV (r0)<|sN<|bE h fun o8 ho8 h=>WC.block (WC.loop (WL.pI ho8 (fun s=>gI 0 198 2 [(0,rM az.pd a0),(1,.d (.raw (.func (.func 114) #[] #[]))),(7,rI (a0.length:Int)),(8,rI s)] []) (fun o=>match o with| .inl y=>gX 0 0 198 7 [] []| .inr r=>gF 198 Tryz.f198 0 (rI r,[])) Z ?_ ?_))
 ·rintro s1 R' B' q2 hI h
  refine gS Z hI<|sF h ?_ ?_<;>intro h
  ·refine sN<|qS<|cT<|qK<|qS<|qB<|gU Z<|sM Z<|sA Z<|sN<|gU Z<|mM Z<|sM Z<|bE h fun x4 h4 h=>?_
   refine eG h4 Z<|sV (.d (az.pd x4))<|bE h fun x5 h5 h=>qe h (fun hb6 h=>?_) (fun hb6 h=>?_)
   ·refine WO.qH (v:=rB true) (u:=[]) Z Z (fun _=>Z) Z Z Z Z Z (iA h5) Z Z (congrArg (fun b=>RV.d (.bool b)) hb6) Z<|sN<|cT<|gU Z<|sM Z<|sA Z<|sN<|qR ?_
    cases oI h
    exact⟨nofun,rfl,rfl⟩
   refine WO.qH (v:=rB false) (u:=[]) Z Z (fun _=>Z) Z Z Z Z Z (iA h5) Z Z (congrArg (fun b=>RV.d (.bool b)) hb6) Z<|sN<|cF<|qK<|WC.region Z Z<|sV (rI (rW (s1+(1:Int))))<|sM Z<|sN ?_
   cases oI h
   exact⟨rfl,rfl⟩
  refine sN<|qS<|cF<|qX ?_
  cases oI h
  exact⟨nofun,rfl,rfl⟩
 intro e R' B' he hq
 rcases o8 with y9|r10
 ·obtain⟨rfl,hI⟩:=hq
  refine qE<|gS Z hI<|sV (rI (-1))<|sN<|qR ?_
  exact oI h▸qD
 obtain⟨rfl,hf⟩:=hq
 cases oI h
 exact hf
theorem d7{a0:(List az)}{r:Bool}(h:cv a0=some r):EvP prog aN ext 113 [rM az.pd a0,.d (.raw (.func (.func 114) #[] #[]))] [] (rB r,[]):=by
 refine Ev.body Z Tryz.func113 Z Zk<|gU Z<|sU<|sN<|gU Z<|mM Z<|bE h fun x1 h1 h=>cD (js h1)<|sV (rB (decide (x1>=(0:Int))))<|sA Z<|sN<|qR ?_
 exact oI h▸qD
theorem lT{a0:az}{r:Int}(h:gf a0=some r):EvP prog aN ext 116 [.d (az.pd a0)] [] (rI r,[]):=by
 refine Ev.body Z Tryz.func116 Z Zk<|gU Z<|sB (.ptr 16 0) 16 (.var (az.rc a0))<|sV (r0)<|sN<|gU Z<|sV (.ptr 16 0)<|sL Z<|sA Z<|sN<|qR ?_
 exact oI h▸qD
theorem mn{a0:(List az)}{r:Int}(h:eJ a0=some r):EvP prog aN ext 115 [rM az.pd a0,.d (.raw (.func (.func 116) #[] #[]))] [] (rI r,[]):=by
 refine Ev.body Z Tryz.func115 Z Zk<|gU Z<|sV (r0)<|sN<|gU Z<|sV .mA<|sN<|qS<|gU Z<|sM Z<|sE (rI (a0.length:Int)) (pf _ _)<|sV (r0)<|sN<|bE h fun o10 ho10 h=>WC.block (WC.loop (WL.pI ho10 (fun s=>gI 0 115 3 [(1,.d (.raw (.func (.func 116) #[] #[]))),(5,.ref 304 0),(8,rM az.pd a0),(9,rI (a0.length:Int)),(10,rI s.1)] [(304,.arr 0 3 (s.2.map (PD.int .i64)))]) (fun o=>gX 0 0 115 7 [(5,.ref 304 0)] [(304,.arr 0 3 (o.map (PD.int .i64)))]) Z ?_ ?_))
 ·rintro⟨s1,s2⟩ R' B' q4 hI h
  refine gS Z hI<|sF h ?_ ?_<;>intro h
  ·refine sN<|qS<|cT<|qK<|qS<|qB<|gU Z<|bE h fun x6 h6 h=>eG h6 Z<|sV (.d (az.pd x6))<|sB (.ptr 112 0) 112 (.var [r0,r0])<|sS 112 (.var (az.rc x6))<|sN<|WC.region Z Z<|sM Z ?_
   refine sM Z<|sV (.d (az.pd x6))<|bE h fun x7 h7 h=>cD (lT h7)<|sV (.d (.lst ([x7].map (PD.int .i64))))<|bE h fun x8 h8 h=>aR h8 (fun _=>Z) Z<|sA Z<|sN<|WC.region Z Z<|sV (rI (rW (s1+(1:Int))))<|sM Z<|sN ?_
   cases oI h
   exact⟨rfl,rfl⟩
  refine sN<|qS<|cF<|qX ?_
  cases oI h
  exact⟨nofun,rfl,rfl⟩
 intro e R' B' he hq
 obtain⟨rfl,hI⟩:=hq
 refine qE<|gS Z hI<|sM Z<|bE h fun x11 h11 h=>cR (.tup []) [(304,.arr 0 3 (x11.map (PD.int .i64)))] (og h11)<|sN<|gU Z<|mM Z<|WO.tn Z Z Z Z Z Z Z Z Z<|sV (rI (rW ((x11.length:Int)-(1:Int))))<|bE h fun x12 h12 h=>WO.um h12 Z Z Z Z Z Z<|bE h fun x14 h14 h=>WO.qk h14 Z Z Z Z Z Z Z Z ?_
 refine bE h fun x15 h15 h=>WO.qj h15 Z Z Z Z Z Z<|sA Z<|sN<|qR ?_
 exact oI h▸qD
theorem lU{a0:az}{r:Int}(h:gg a0=some r):EvP prog aN ext 117 [.d (az.pd a0)] [] (rI r,[]):=by
 refine Ev.body Z Tryz.func117 Z Zk<|gU Z<|sB (.ptr 16 0) 16 (.var (az.rc a0))<|sV (r0)<|sN<|gU Z<|sV (.ptr 16 1)<|sL Z<|sA Z<|sN<|qR ?_
 exact oI h▸qD
theorem mo{a0:(List az)}{r:Int}(h:eK a0=some r):EvP prog aN ext 115 [rM az.pd a0,.d (.raw (.func (.func 117) #[] #[]))] [] (rI r,[]):=by
 refine Ev.body Z Tryz.func115 Z Zk<|gU Z<|sV (r0)<|sN<|gU Z<|sV .mA<|sN<|qS<|gU Z<|sM Z<|sE (rI (a0.length:Int)) (pf _ _)<|sV (r0)<|sN<|bE h fun o10 ho10 h=>WC.block (WC.loop (WL.pI ho10 (fun s=>gI 0 115 3 [(1,.d (.raw (.func (.func 117) #[] #[]))),(5,.ref 304 0),(8,rM az.pd a0),(9,rI (a0.length:Int)),(10,rI s.1)] [(304,.arr 0 3 (s.2.map (PD.int .i64)))]) (fun o=>gX 0 0 115 7 [(5,.ref 304 0)] [(304,.arr 0 3 (o.map (PD.int .i64)))]) Z ?_ ?_))
 ·rintro⟨s1,s2⟩ R' B' q4 hI h
  refine gS Z hI<|sF h ?_ ?_<;>intro h
  ·refine sN<|qS<|cT<|qK<|qS<|qB<|gU Z<|bE h fun x6 h6 h=>eG h6 Z<|sV (.d (az.pd x6))<|sB (.ptr 112 0) 112 (.var [r0,r0])<|sS 112 (.var (az.rc x6))<|sN<|WC.region Z Z<|sM Z ?_
   refine sM Z<|sV (.d (az.pd x6))<|bE h fun x7 h7 h=>cD (lU h7)<|sV (.d (.lst ([x7].map (PD.int .i64))))<|bE h fun x8 h8 h=>aR h8 (fun _=>Z) Z<|sA Z<|sN<|WC.region Z Z<|sV (rI (rW (s1+(1:Int))))<|sM Z<|sN ?_
   cases oI h
   exact⟨rfl,rfl⟩
  refine sN<|qS<|cF<|qX ?_
  cases oI h
  exact⟨nofun,rfl,rfl⟩
 intro e R' B' he hq
 obtain⟨rfl,hI⟩:=hq
 refine qE<|gS Z hI<|sM Z<|bE h fun x11 h11 h=>cR (.tup []) [(304,.arr 0 3 (x11.map (PD.int .i64)))] (og h11)<|sN<|gU Z<|mM Z<|WO.tn Z Z Z Z Z Z Z Z Z<|sV (rI (rW ((x11.length:Int)-(1:Int))))<|bE h fun x12 h12 h=>WO.um h12 Z Z Z Z Z Z<|bE h fun x14 h14 h=>WO.qk h14 Z Z Z Z Z Z Z Z ?_
 refine bE h fun x15 h15 h=>WO.qj h15 Z Z Z Z Z Z<|sA Z<|sN<|qR ?_
 exact oI h▸qD
theorem nO{a0:(List az)}{r:az×Int}(h:eZ a0=some r):EvP prog aN ext 59 [rM az.pd a0] [] (.tup [.d (az.pd r.1),rI r.2],[]):=by
 refine Ev.body Z Tryz.func59 Z Zk<|gU Z<|sB (.ptr 32 0) 32 (.var [r0,r0])<|sV (r0)<|sN<|qS<|gU Z<|sM Z<|sE (rI (a0.length:Int)) (pf _ _)<|sF h ?_ ?_<;>intro h
 ·refine sN<|cT<|gU Z<|sV (.d (az.pd (az.mk 0 0)))<|sS 32 (.var [r0,r0])<|sV (rI 24)<|sN<|qR ?_
  exact oI h▸qD
 refine sN<|cF<|qK<|qS<|gU Z<|sM Z<|bE h fun x2 h2 h=>qe h (fun hb3 h=>?_) (fun hb3 h=>?_)
 ·refine WO.qH (v:=rB true) (u:=[]) Z Z (fun _=>Z) Z Z Z Z Z (d7 h2) Z Z (congrArg (fun b=>RV.d (.bool b)) hb3) Z<|sN<|cT<|gU Z<|sV (.d (az.pd (az.mk 0 0)))<|sS 32 (.var [r0,r0])<|sV (rI 1)<|sN<|qR ?_
  exact oI h▸qD
 refine WO.qH (v:=rB false) (u:=[]) Z Z (fun _=>Z) Z Z Z Z Z (d7 h2) Z Z (congrArg (fun b=>RV.d (.bool b)) hb3) Z<|sN<|cF<|qK<|gU Z<|sM Z<|bE h fun x4 h4 h=>cD (mn h4)<|sM Z<|bE h fun x5 h5 h=>cD (mo h5)<|sV (.d (az.pd (az.mk x4 x5)))<|sS 32 (.var [rI x4,rI x5])<|sV (r0)<|sN ?_
 refine qR ?_
 exact oI h▸qD
theorem pD{a0:aq}{a1:ap}{a2:(List ae)}{r:aY×Int}(h:fM a0 a1 a2=some r):EvP prog aN ext 15 [.d (aq.pd a0),.d (ap.pd a1),rM ae.pd a2] [] (.tup [.d (aY.pd r.1),rI r.2],[]):=by
 refine Ev.body Z Tryz.func15 Z Zk<|gU Z<|sB (.ptr 48 0) 48 (.var (aq.rc a0))<|sB (.ptr 64 0) 64 (.var [rM au.pd a1.aO])<|sB (.ptr 96 0) 96 (.var zZ0)<|sV (r0)<|sN<|gU Z<|sV (.d (aq.pd a0))<|sV (.d (ap.pd a1))<|sM Z<|bE h fun x1 h1 h=>cR (.tup [.d (aS.pd x1.1),rI x1.2]) [] (oX h1)<|sM Z<|sV (.d (aS.pd x1.1)) ?_
 refine sV (rI x1.2)<|sB (.ptr 128 0) 128 (.var [.mA,.mA,.mA])<|sS 128 (.var (aS.rc x1.1))<|sA Z<|sN<|qS<|gU Z<|sM Z<|sF h ?_ ?_<;>intro h
 ·refine sN<|cT<|gU Z<|sG (.agg zZ0)<|sM Z<|sH 96 (.var zZ0)<|sA Z<|sN<|qR ?_
  cases oI h
  exact qG
 refine sN<|cF<|qK<|gU Z<|sV (.d (aS.pd x1.1))<|sV (.d (aq.pd a0))<|bE h fun x3 h3 h=>cR (.tup [.d (ag.pd x3.1),rI x3.2]) [] (ot h3)<|sM Z<|sV (.d (ag.pd x3.1))<|sV (rI x3.2)<|sB (.ptr 160 0) 160 (.var [r0,r0,r0,r0,r0,r0,r0,.mA,.mA,.mA,r0])<|sH 160 (.var (ag.rc x3.1))<|sA Z<|sN ?_
 refine qS<|gU Z<|sM Z<|sF h ?_ ?_<;>intro h
 ·refine sN<|cT<|gU Z<|sG (.agg zZ0)<|sM Z<|sH 96 (.var zZ0)<|sA Z<|sN<|qR ?_
  cases oI h
  exact qG
 refine sN<|cF<|qK<|gU Z<|sV (.d (ag.pd x3.1))<|sV (.ptr 48 19)<|sL Z<|bE h fun x5 h5 h=>cR (.tup [.d (aj.pd x5.1),rI x5.2]) [] (mI h5)<|sM Z<|sV (.d (aj.pd x5.1))<|sV (rI x5.2)<|sB (.ptr 176 0) 176 (.var zZ1)<|sH 176 (.var (aj.rc x5.1))<|sA Z ?_
 refine sN<|qS<|gU Z<|sM Z<|sF h ?_ ?_<;>intro h
 ·refine sN<|cT<|gU Z<|sG (.agg zZ0)<|sM Z<|sH 96 (.var zZ0)<|sA Z<|sN<|qR ?_
  cases oI h
  exact qG
 refine sN<|cF<|qK<|gU Z<|sV (.ptr 128 0)<|sL Z<|sV (.d (aj.pd x5.1))<|sG (.d (.agg [.lst (x1.1.db.map ae.pd),.int .i64 x5.1.aU.fX,.int .i64 x5.1.aU.fY,.int .i64 x5.1.aU.fZ,.int .i64 x5.1.a7,.int .i64 x5.1.bi,.int .i64 x5.1.eN,.int .i64 x5.1.aZ.aI.fX,.int .i64 x5.1.aZ.aI.fY,.int .i64 x5.1.aZ.aI.fZ,.int .i64 x5.1.aZ.aC.fX,.int .i64 x5.1.aZ.aC.fY,.int .i64 x5.1.aZ.aC.fZ,.int .i64 0,.int .i64 0,.int .i64 0]))<|sB (.ptr 192 0) 192 (.var zZ0)<|sH 192 (.var (rM ae.pd x1.1.db::aj.rc x5.1++[r0,r0,r0]))<|sN<|qS<|gU Z<|sV (.d (aS.pd x1.1))<|sV (.d (aq.pd a0)) ?_
 refine sV (.ptr 176 6)<|sV (.d (ah.pd x5.1.aZ))<|bE h fun x7 h7 h=>cD (nz h7)<|sA Z<|sN<|gU Z<|sM Z<|sE (rI (x7.length:Int)) (pf _ _)<|sF h ?_ ?_<;>intro h
 ·refine sN<|cT<|gU Z<|sM Z<|sE (rI (x7.length:Int)) (pf _ _)<|sV (.ptr 192 15)<|sS 192 (.var (rM ae.pd x1.1.db::aj.rc x5.1++[r0,r0,rI (x7.length:Int)]))<|sN<|gU Z<|sM Z<|bE h fun x9 h9 h=>cR (.tup [.d (az.pd x9.1),rI x9.2]) [] (nO h9)<|sM Z<|sV (.d (az.pd x9.1))<|sV (rI x9.2) ?_
  refine sV (.ptr 192 13)<|sS 192 (.var (rM ae.pd x1.1.db::aj.rc x5.1++az.rc x9.1++[rI (x7.length:Int)]))<|sA Z<|sN<|gU Z<|sM Z<|sF h ?_ ?_<;>intro h
  ·refine sN<|cT<|gU Z<|sG (.agg zZ0)<|sM Z<|sH 96 (.var zZ0)<|sA Z<|sN<|qR ?_
   cases oI h
   exact qG
  refine sN<|cF<|qK<|gU Z<|sV (.d (.agg [.lst (x1.1.db.map ae.pd),.int .i64 x5.1.aU.fX,.int .i64 x5.1.aU.fY,.int .i64 x5.1.aU.fZ,.int .i64 x5.1.a7,.int .i64 x5.1.bi,.int .i64 x5.1.eN,.int .i64 x5.1.aZ.aI.fX,.int .i64 x5.1.aZ.aI.fY,.int .i64 x5.1.aZ.aI.fZ,.int .i64 x5.1.aZ.aC.fX,.int .i64 x5.1.aZ.aC.fY,.int .i64 x5.1.aZ.aC.fZ,.int .i64 x9.1.aI,.int .i64 x9.1.aC,.int .i64 (x7.length:Int)]))<|sH 96 (.var (rM ae.pd x1.1.db::aj.rc x5.1++az.rc x9.1++[rI (x7.length:Int)]))<|sV (r0)<|sN<|qR ?_
  cases oI h
  exact qG
 refine sN<|cF<|qK<|gU Z<|sV (.d (.agg [.lst (x1.1.db.map ae.pd),.int .i64 x5.1.aU.fX,.int .i64 x5.1.aU.fY,.int .i64 x5.1.aU.fZ,.int .i64 x5.1.a7,.int .i64 x5.1.bi,.int .i64 x5.1.eN,.int .i64 x5.1.aZ.aI.fX,.int .i64 x5.1.aZ.aI.fY,.int .i64 x5.1.aZ.aI.fZ,.int .i64 x5.1.aZ.aC.fX,.int .i64 x5.1.aZ.aC.fY,.int .i64 x5.1.aZ.aC.fZ,.int .i64 0,.int .i64 0,.int .i64 0]))<|sH 96 (.var (rM ae.pd x1.1.db::aj.rc x5.1++[r0,r0,r0]))<|sV (r0)<|sN<|qR ?_
 cases oI h
 exact qG
theorem mC{a0:ae}{a1:ae}{r:Int}(h:iK a0 a1=some r):EvP prog aN ext 42 [.d (ae.pd a0),.d (ae.pd a1)] [] (rI r,[]):=by
 refine Ev.body Z Tryz.func42 Z Zk<|gU Z<|sB (.ptr 32 0) 32 (.var (ae.rc a0))<|sB (.ptr 48 0) 48 (.var (ae.rc a1))<|sV (r0)<|sN<|WC.cI Z Z<|sV (.ptr 32 4)<|sL Z<|sV (.ptr 48 4)<|sL Z<|bE h fun x1 h1 h=>cD (bB h1)<|sV (.d (ae.pd a0))<|sV (.d (ae.pd a1)) ?_
 refine bE h fun x2 h2 h=>cD (pA h2)<|sV (.d (.lst ([x1,x2].map (PD.int .i64))))<|bE h fun x3 h3 h=>cD (gx h3)<|sA Z ?_
 refine sN<|sO<|qR ?_
 cases oI h
 exact qG
theorem kq{a0:(List ae)}{r:ae}(h:ej a0=some r):EvP prog aN ext 134 [rM ae.pd a0,.d (.raw (.func (.func 42) #[] #[]))] [] (.d (ae.pd r),[]):=by
 refine Ev.body Z Tryz.func134 Z Zk<|gU Z<|sB (.ptr 64 0) 64 (.var zZ2)<|sN<|qS<|gU Z<|sM Z<|sE (rI (a0.length:Int)) (pf _ _)<|sF h ?_ ?_<;>intro h
 ·refine sN<|cT<|WC.region Z Z<|sG (.ifc 9 (rS [115,108,105,99,101,115,46,77,105,110,70,117,110,99,58,32,101,109,112,116,121,32,108,105,115,116])) ?_
  cases h
 refine sN<|cF<|qK<|gU Z<|sM Z<|bE h fun x2 h2 h=>eG h2 Z<|sV (.d (ae.pd x2))<|sB (.ptr 80 0) 80 (.var zZ2)<|sH 80 (.var (ae.rc x2))<|sN<|qS<|gU Z<|sV (rI 1)<|sN ?_
 refine bE h fun o29 ho29 h=>WC.block (WC.loop (WL.pI ho29 (fun s=>gI 0 134 5 [(0,rM ae.pd a0),(1,.d (.raw (.func (.func 42) #[] #[]))),(4,.ptr 64 0),(5,.ptr 80 0),(6,rI s.1)] [(64,.var zZ2),(80,.var [rS s.2.1,rS s.2.2.1,rS s.2.2.2.1,rS s.2.2.2.2.1,rI s.2.2.2.2.2.1,rI s.2.2.2.2.2.2.1,rI s.2.2.2.2.2.2.2.1,rI s.2.2.2.2.2.2.2.2.1,rI s.2.2.2.2.2.2.2.2.2])]) (fun o=>gX 0 0 134 9 [(4,.ptr 64 0),(5,.ptr 80 0)] [(64,.var zZ2),(80,.var [rS o.1,rS o.2.1,rS o.2.2.1,rS o.2.2.2.1,rI o.2.2.2.2.1,rI o.2.2.2.2.2.1,rI o.2.2.2.2.2.2.1,rI o.2.2.2.2.2.2.2.1,rI o.2.2.2.2.2.2.2.2])]) Z ?_ ?_))
 ·rintro⟨s3,s4,s5,s6,s7,s8,s9,s10,s11,s12⟩ R' B' q22 hI h
  refine qS<|gS Z hI<|mM Z<|sE (rI (a0.length:Int)) (pf _ _)<|sF h ?_ ?_<;>intro h
  ·refine sN<|cT<|qK<|qS<|qB<|WC.cI Z Z<|mM Z<|sM Z<|bE h fun x24 h24 h=>eG h24 Z<|sV (.d (ae.pd x24))<|sV (.d (ae.pd (ae.mk (aw.mk s4 s5 s6 s7) s8 s9 s10 s11 s12)))<|bE h fun x25 h25 h=>cD (mC h25) ?_
   refine sF h ?_ ?_<;>intro h
   ·refine sN<|sO<|cT<|WC.region Z Z<|mM Z<|bE h fun x27 h27 h=>eG h27 Z<|sV (.d (ae.pd x27))<|sH 80 (.var (ae.rc x27))<|sN<|WC.region Z Z<|sM Z<|sV (rI (rW (s3+(1:Int))))<|sA Z<|sN ?_
    cases oI h
    exact⟨rfl,rfl⟩
   refine sN<|sO<|cF<|qK<|WC.region Z Z<|sM Z<|sV (rI (rW (s3+(1:Int))))<|sA Z<|sN ?_
   cases oI h
   exact⟨rfl,rfl⟩
  refine sN<|cF<|qX ?_
  cases oI h
  exact⟨nofun,rfl,rfl⟩
 intro e R' B' he hq
 obtain⟨rfl,hI⟩:=hq
 refine qE<|gS Z hI<|sV (.d (ae.pd (ae.mk (aw.mk o29.1 o29.2.1 o29.2.2.1 o29.2.2.2.1) o29.2.2.2.2.1 o29.2.2.2.2.2.1 o29.2.2.2.2.2.2.1 o29.2.2.2.2.2.2.2.1 o29.2.2.2.2.2.2.2.2)))<|sH 64 (.var [rS o29.1,rS o29.2.1,rS o29.2.2.1,rS o29.2.2.2.1,rI o29.2.2.2.2.1,rI o29.2.2.2.2.2.1,rI o29.2.2.2.2.2.2.1,rI o29.2.2.2.2.2.2.2.1,rI o29.2.2.2.2.2.2.2.2])<|sN<|qR ?_
 cases oI h
 exact qG
theorem event_name_ev{a0:(List ae)}{r:ae}(h:mW a0=some r):EvP prog aN ext 67 [rM ae.pd a0] [] (.d (ae.pd r),[]):=by
 refine Ev.body Z Tryz.func67 Z Zk<|gU Z<|sB (.ptr 32 0) 32 (.var zZ2)<|sN<|qS<|gU Z<|sM Z<|sE (rI (a0.length:Int)) (pf _ _)<|sF h ?_ ?_<;>intro h
 ·refine sN<|cT<|gU Z<|sG (.d (ae.pd (ae.mk (aw.mk [] [] [] []) 0 0 0 0 0)))<|sH 32 (.var zZ2)<|sN<|qR ?_
  cases oI h
  exact qG
 refine sN<|cF<|qK<|gU Z<|sM Z<|bE h fun x2 h2 h=>cD (kq h2)<|sH 32 (.var (ae.rc x2))<|sN<|qR ?_
 cases oI h
 exact qG
theorem names_compare_ev{a0:eo}{a1:aD}{a2:aD}{r:Int}(h:iO a0 a1 a2=some r):EvP prog aN ext 69 [.d (eo.pd a0),.d (aD.pd a1),.d (aD.pd a2)] [] (rI r,[]):=by
 refine Ev.body Z Tryz.func69 Z Zk<|gU Z<|sB (.ptr 48 0) 48 (.var [])<|sB (.ptr 64 0) 64 (.var (aD.rc a1))<|sB (.ptr 80 0) 80 (.var (aD.rc a2))<|sV (r0)<|sN<|gU Z<|sV (.ptr 64 0)<|sV (.d (ae.pd a1.bV))<|sV (.ptr 80 0)<|sV (.d (ae.pd a2.bV))<|bE h fun x1 h1 h=>cD (mC h1)<|sA Z ?_
 refine sN<|qR ?_
 cases oI h
 exact qG
theorem fK{a1:Int}{a2:Int}{d0:(List aD)}{r:(List aD)}(h:ct a1 a2 d0=some r):EvP prog aN ext 208 [.ref 0 0,rI a1,rI a2,.d (.raw (.func (.func 69) #[.agg #[]] #[]))] [.arr 0 86 (d0.map aD.pd)] (.tup [],[.arr 0 86 (r.map aD.pd)]):=by
 refine Ev.body Z Tryz.func208 Z Zk<|gU Z<|sM Z<|sV (rI (rW (a1+(1:Int))))<|sA Z<|sN<|bE h fun o35 ho35 h=>?_
 cases oI h
 refine WC.block (WC.loop (WL.tI ho35 (fun s=>gI 1 208 1 [(0,.ref 0 0),(1,rI a1),(2,rI a2),(3,.d (.raw (.func (.func 69) #[.agg #[]] #[]))),(8,rI s.1)] [(0,.arr 0 86 (s.2.map aD.pd))]) Z ?_))
 rintro⟨s1,s2⟩ R' B' q3 hI h
 refine qS<|gS Z hI<|mM Z<|sF h ?_ ?_<;>intro h
 ·refine sN<|cT<|qK<|qS<|qB<|gU Z<|sM Z<|sA Z<|sN<|bE h fun o32 ho32 h=>WC.block (WC.loop (WL.pI ho32 (fun s=>gI 1 208 4 [(0,.ref 0 0),(1,rI a1),(2,rI a2),(3,.d (.raw (.func (.func 69) #[.agg #[]] #[]))),(8,rI s1),(9,rI s.1)] [(0,.arr 0 86 (s.2.map aD.pd))]) (fun o=>gX 2 1 208 2 [(0,.ref 0 0),(1,rI a1),(2,rI a2),(3,.d (.raw (.func (.func 69) #[.agg #[]] #[]))),(8,rI o.1)] [(0,.arr 0 86 (o.2.map aD.pd))]) Z ?_ ?_))
  ·rintro⟨s5,s6⟩ R' B' q9 hI h
   refine qS<|WC.cI hI Z<|mM Z<|sF h ?_ ?_<;>intro h
   ·refine mM Z<|mM Z<|bE h fun x12 h12 h=>WO.qk h12 Z Z Z Z Z Z Z Z<|bE h fun x13 h13 h=>WO.qj h13 Z Z Z Z Z Z<|mM Z<|sV (rI (rW (s5-(1:Int))))<|bE h fun x15 h15 h=>WO.qk h15 Z Z Z Z Z Z Z Z<|bE h fun x16 h16 h=>WO.qj h16 Z Z Z Z Z Z ?_
    refine bE h fun x17 h17 h=>cD (names_compare_ev h17)<|sV (rB (decide (x17<(0:Int))))<|sF h ?_ ?_<;>intro h
    ·refine sN<|sO<|cT<|qK<|qS<|qB<|WC.pX Z Z<|mM Z<|mM Z<|sV (rI (rW (s5-(1:Int))))<|mM Z<|sV (rI (rW (s5-(1:Int))))<|bE h fun x20 h20 h=>?_
     refine WO.qk h20 Z Z Z Z Z Z Z Z<|bE h fun x21 h21 h=>WO.qj h21 Z Z Z Z Z Z<|mM Z<|bE h fun x23 h23 h=>WO.qk h23 Z Z Z Z Z Z Z Z<|bE h fun x24 h24 h=>WO.qj h24 Z Z Z Z Z Z<|bE h fun x26 h26 h=>WO.qk h26 Z Z Z Z Z Z Z Z<|bE h fun x27 h27 h=>WO.rA (g:=aD.pd) (sz:=25) (p:=aD.pd x21) h27 (by intro _;kernel_rfl) (by intro _;kernel_rfl) Z Z Z Z Z Z Z Z Z<|bE h fun x29 h29 h=>WO.qk h29 Z Z Z Z Z Z Z Z ?_
     refine bE h fun x30 h30 h=>WO.rA (g:=aD.pd) (sz:=25) (p:=aD.pd x24) h30 (by intro _;kernel_rfl) (by intro _;kernel_rfl) Z Z Z Z Z Z Z Z Z ?_
     refine sN<|sO<|WC.region Z Z<|sM Z<|sV (rI (rW (s5-(1:Int))))<|sA Z<|sN ?_
     cases oI h
     exact⟨rfl,rfl⟩
    refine sN<|sO<|cF<|qX ?_
    cases oI h
    exact⟨nofun,rfl,rfl⟩
   refine sM Z<|k3<|k3<|k3<|k3<|sU ?_
   refine sN<|sO<|cF<|qX ?_
   cases oI h
   exact⟨nofun,rfl,rfl⟩
  intro e R' B' he hq
  obtain⟨rfl,hI⟩:=hq
  refine qE<|WC.region hI Z<|sM Z<|sV (rI (rW (o32.1+(1:Int))))<|sA Z<|sN ?_
  cases oI h
  exact⟨rfl,rfl⟩
 refine sN<|cF<|qX<|sk h (fun z33 hkz33 hz=>?_)
 obtain rfl:=Option.some.inj hz
 refine⟨(fun he=>by cases he),fun hz2=>?_⟩
 subst hz2
 have h:=hkz33
 refine qE ?_
 exact oI h▸qD
theorem gH:∀(nfu:Nat){a1:Int}{a2:Int}{a3:Int}{d0:(List aD)}{r:(List aD)}(_:d9 nfu a1 a2 a3 d0=some r),EvP prog aN ext 135 [.ref 0 0,rI a1,rI a2,rI a3,.d (.raw (.func (.func 69) #[.agg #[]] #[]))] [.arr 0 86 (d0.map aD.pd)] (.tup [],[.arr 0 86 (r.map aD.pd)])
  |0,_,_,_,_,_,h=>by cases h
  |nfu+1,a1,a2,a3,d0,r,h=>by
   refine Ev.body Z Tryz.func135 Z Zk<|gU Z<|sT<|sN<|gU Z<|sT<|sN<|bE h fun o6 ho6 h=>WC.block (WC.loop (WL.pI ho6 (fun s=>gI 1 135 2 [(0,.ref 0 0),(1,rI a1),(2,rI a2),(3,rI a3),(4,.d (.raw (.func (.func 69) #[.agg #[]] #[]))),(10,rB true),(11,rB true)] [(0,.arr 0 86 (d0.map aD.pd))]) (fun o=>gF 135 Tryz.f135 1 (.tup [],[.arr 0 86 (o.map aD.pd)])) Z ?_ ?_))
   ·rintro⟨⟩ R' B' q1 hI h
    refine qB<|gS Z hI<|mM Z<|sV (rI (rW (a2-a1)))<|sA Z<|sN<|qS<|gU Z<|sM Z<|sF h ?_ ?_<;>intro h
    ·refine sN<|cT<|gU Z<|mM Z<|mM Z<|bE h fun x3 h3 h=>cR (.tup []) [(0,.arr 0 86 (x3.map aD.pd))] (fK h3)<|sN<|qR ?_
     cases oI h
     exact⟨nofun,rfl,rfl⟩
    refine sN<|cF<|qK<|qS<|gU Z<|sM Z<|sF h ?_ ?_<;>intro h
    ·refine sN<|cT<|gU Z<|mM Z<|sM Z<|sM Z ?_
     cases h
    refine sN<|cF<|qK<|qS<|gU Z<|sM Z<|sU<|sN<|cF<|qK<|gU Z<|mM Z<|sM Z<|sM Z ?_
    cases h
   intro e R' B' he hq
   obtain⟨rfl,hf⟩:=hq
   cases oI h
   exact hf
theorem ia{a1:Int}{a2:Int}{a3:Int}{d0:(List aD)}{r:(List aD)}(h:cp a1 a2 a3 d0=some r):EvP prog aN ext 135 [.ref 0 0,rI a1,rI a2,rI a3,.d (.raw (.func (.func 69) #[.agg #[]] #[]))] [.arr 0 86 (d0.map aD.pd)] (.tup [],[.arr 0 86 (r.map aD.pd)]):=
  let⟨n,hn⟩:=B7 h;gH n hn
theorem jN{d0:(List aD)}{r:(List aD)}(h:cS d0=some r):EvP prog aN ext 68 [.ref 0 0,.d (.raw (.func (.func 69) #[.agg #[]] #[]))] [.arr 0 86 (d0.map aD.pd)] (.tup [],[.arr 0 86 (r.map aD.pd)]):=by
 refine Ev.body Z Tryz.func68 Z Zk<|gU Z<|sM Z<|WO.tn Z Z Z Z Z Z Z Z Z<|sA Z<|sN<|WC.region Z Z<|mM Z<|sM Z<|sV (.d (.int .u64 (IntKind.wrap .u64 (d0.length:Int))))<|bE h fun x1 h1 h=>cD (nE h1)<|sM Z<|bE h fun x2 h2 h=>?_
 refine cR (.tup []) [(0,.arr 0 86 (x2.map aD.pd))] (ia h2)<|sN ?_
 exact oI h▸qD
theorem oA{a0:aq}{a1:ap}{a2:(List ae)}{r:(List aD)×(List ae)×Int}(h:jY a0 a1 a2=some r):EvP prog aN ext 20 [.d (aq.pd a0),.d (ap.pd a1),rM ae.pd a2] [] (.tup [rM aD.pd r.1,rM ae.pd r.2.1,rI r.2.2],[]):=by
 refine Ev.body Z Tryz.func20 Z Zk<|gU Z<|sB (.ptr 48 0) 48 (.var (aq.rc a0))<|sB (.ptr 64 0) 64 (.var [rM au.pd a1.aO])<|sV .mA<|sV .mA<|sV (r0)<|sN<|gU Z<|sV (.d (aq.pd a0))<|sV (.d (ap.pd a1))<|sM Z<|bE h fun x1 h1 h=>cR (.tup [rM ae.pd x1.1,rM al.pd x1.2.1,rI x1.2.2]) [] (event_usable_ev h1)<|sM Z ?_
 refine sV (rM ae.pd x1.1)<|sV (rM al.pd x1.2.1)<|sV (rI x1.2.2)<|sA Z<|sA Z<|sA Z<|sN<|qS<|gU Z<|sM Z<|sF h ?_ ?_<;>intro h
 ·refine sN<|cT<|gU Z<|sM Z<|sV .mA<|sV .mA<|sA Z<|sN<|qR ?_
  cases oI h
  exact qG
 refine sN<|cF<|qK<|gU Z<|sV (.ptr 48 0)<|sV (.d (aG.pd a0.ai))<|sM Z<|bE h fun x3 h3 h=>cR (.tup [rM aV.pd x3.1,rL x3.2.1,rI x3.2.2]) [] (mS h3)<|sM Z<|sV (rM aV.pd x3.1)<|sV (rL x3.2.1)<|sV (rI x3.2.2)<|sA Z<|sA Z ?_
 refine sA Z<|sN<|qS<|gU Z<|sM Z<|sF h ?_ ?_<;>intro h
 ·refine sN<|cT<|gU Z<|sM Z<|sV .mA<|sV .mA<|sA Z<|sN<|qR ?_
  cases oI h
  exact qG
 refine sN<|cF<|qK<|gU Z<|sV .mA<|sN<|qS<|gU Z<|sM Z<|sE (rI (x3.1.length:Int)) (pf _ _)<|sV (r0)<|sN<|bE h fun o28 ho28 h=>WC.block (WC.loop (WL.pI ho28 (fun s=>gI 0 20 9 [(3,.ptr 48 0),(4,.ptr 64 0),(9,rM ae.pd x1.1),(13,rL x3.2.1),(14,.ref 1360 0),(47,rM aV.pd x3.1),(48,rI (x3.1.length:Int)),(49,rI s.1)] [(48,.var (aq.rc a0)),(64,.var [rM au.pd a1.aO]),(1360,.arr 0 86 (s.2.map aD.pd))]) (fun o=>match o with| .inl y=>gX 0 0 20 22 [(9,rM ae.pd x1.1),(13,rL x3.2.1),(14,.ref 1360 0)] [(1360,.arr 0 86 (y.map aD.pd))]| .inr r=>gF 20 Tryz.f20 0 (.tup [rM aD.pd r.1,rM ae.pd r.2.1,rI r.2.2],[])) Z ?_ ?_))
 ·rintro⟨s5,s6⟩ R' B' q8 hI h
  refine gS Z hI<|sF h ?_ ?_<;>intro h
  ·refine sN<|qS<|cT<|qK<|qS<|qB<|gU Z<|bE h fun x10 h10 h=>eG h10 Z<|sV (.d (aV.pd x10))<|sB (.ptr 256 0) 256 (.var [.mA,r0,r0,r0,r0])<|sS 256 (.var (aV.rc x10))<|sN<|gU Z<|sV .mA ?_
   refine sN<|qS<|gU Z<|sV (.ptr 256 0)<|sL Z<|sE (rI (x10.cj.length:Int)) (pf _ _)<|sV (r0)<|sN<|bE h fun o22 ho22 h=>WC.block (WC.loop (WL.pI ho22 (fun s=>gI 0 20 13 [(3,.ptr 48 0),(4,.ptr 64 0),(9,rM ae.pd x1.1),(13,rL x3.2.1),(14,.ref 1360 0),(17,.ref 1056 0),(47,rM aV.pd x3.1),(48,rI (x3.1.length:Int)),(49,rI s5),(54,rL x10.cj),(55,rI (x10.cj.length:Int)),(56,rI s.1)] [(48,.var (aq.rc a0)),(64,.var [rM au.pd a1.aO]),(1056,.arr 0 66 (s.2.map ae.pd)),(1360,.arr 0 86 (s6.map aD.pd))]) (fun o=>gX 2 0 20 17 [(3,.ptr 48 0),(4,.ptr 64 0),(9,rM ae.pd x1.1),(13,rL x3.2.1),(14,.ref 1360 0),(17,.ref 1056 0),(47,rM aV.pd x3.1),(48,rI (x3.1.length:Int)),(49,rI o.1)] [(48,.var (aq.rc a0)),(64,.var [rM au.pd a1.aO]),(1056,.arr 0 66 (o.2.2.map ae.pd)),(1360,.arr 0 86 (o.2.1.map aD.pd))]) Z ?_ ?_))
   ·rintro⟨s11,s12⟩ R' B' q16 hI h
    refine gS Z hI<|sF h ?_ ?_<;>intro h
    ·refine sN<|qS<|cT<|qK<|qS<|qB<|gU Z<|bE h fun x18 h18 h=>eG h18 Z<|sC Z<|sA Z<|sN<|WC.region Z Z<|sM Z<|sM Z ?_
     refine sM Z<|bE h fun x19 h19 h=>eG h19 Z<|sV (.d (ae.pd x19))<|sG (.d (.lst ([x19].map ae.pd)))<|bE h fun x20 h20 h=>aR h20 (fun _=>Z) Z<|sA Z<|sN<|WC.region Z Z<|sV (rI (rW (s11+(1:Int))))<|sM Z<|sN ?_
     cases oI h
     exact⟨rfl,rfl⟩
    refine sN<|qS<|cF<|qX ?_
    cases oI h
    exact⟨nofun,rfl,rfl⟩
   intro e R' B' he hq
   obtain⟨rfl,hI⟩:=hq
   refine qE<|gS Z hI<|sV (.d (aq.pd a0))<|sV (.d (ap.pd a1))<|sM Z<|bE h fun x23 h23 h=>cR (.tup [.d (aY.pd x23.1),rI x23.2]) [(1056,.dead)] (pD h23)<|sM Z<|sV (.d (aY.pd x23.1))<|sV (rI x23.2)<|sB (.ptr 320 0) 320 (.var zZ0)<|sH 320 (.var (aY.rc x23.1))<|sA Z<|sN<|qS ?_
   refine gU Z<|sM Z<|sF h ?_ ?_<;>intro h
   ·refine sN<|cT<|gU Z<|sM Z<|sV .mA<|sV .mA<|sA Z<|sN<|qR ?_
    cases oI h
    exact⟨nofun,rfl,rfl⟩
   refine sN<|cF<|qK<|WC.pX Z Z<|sM Z<|sV (.ptr 320 0)<|sL Z<|bE h fun x25 h25 h=>cD (event_name_ev h25)<|sV (.d (aY.pd x23.1))<|sG (.d (.agg [.str x25.aA.bd,.str x25.aA.aQ,.str x25.aA.av,.str x25.aA.bh,.int .i64 x25.a7,.int .i64 x25.aM,.int .i64 x25.bv,.int .i64 x25.a8,.int .i64 x25.bp,.lst (x23.1.f5.map ae.pd),.int .i64 x23.1.av.aU.fX,.int .i64 x23.1.av.aU.fY,.int .i64 x23.1.av.aU.fZ,.int .i64 x23.1.av.a7,.int .i64 x23.1.av.bi,.int .i64 x23.1.av.eN,.int .i64 x23.1.av.aZ.aI.fX,.int .i64 x23.1.av.aZ.aI.fY,.int .i64 x23.1.av.aZ.aI.fZ,.int .i64 x23.1.av.aZ.aC.fX,.int .i64 x23.1.av.aZ.aC.fY,.int .i64 x23.1.av.aZ.aC.fZ,.int .i64 x23.1.bO.aI,.int .i64 x23.1.bO.aC,.int .i64 x23.1.jc]))<|sG (.d (.lst ([(aD.mk x25 x23.1)].map aD.pd)))<|bE h fun x26 h26 h=>aR h26 (fun _=>Z) Z<|sA Z ?_
   refine sN<|sO<|WC.region Z Z<|sV (rI (rW (o22.1+(1:Int))))<|sM Z<|sN ?_
   cases oI h
   exact⟨rfl,rfl⟩
  refine sN<|qS<|cF<|qX ?_
  cases oI h
  exact⟨nofun,rfl,rfl⟩
 intro e R' B' he hq
 rcases o28 with y29|r30
 ·obtain⟨rfl,hI⟩:=hq
  refine qE<|gS Z hI<|sM Z<|sV (.d (eo.pd (eo.mk )))<|sV (.d (.raw (.func (.func 69) #[.agg #[]] #[])))<|bE h fun x31 h31 h=>cR (.tup []) [(1360,.arr 0 86 (x31.map aD.pd))] (jN h31)<|sN<|gU Z<|sV .mA<|sN<|qS<|gU Z<|sM Z<|sE (rI (x3.2.1.length:Int)) (pf _ _) ?_
  refine sV (r0)<|sN<|bE h fun o41 ho41 h=>WC.block (WC.loop (WL.pI ho41 (fun s=>gI 0 20 25 [(9,rM ae.pd x1.1),(14,.ref 1360 0),(22,.ref 1648 0),(91,rL x3.2.1),(92,rI (x3.2.1.length:Int)),(93,rI s.1)] [(1360,.arr 0 86 (x31.map aD.pd)),(1648,.arr 0 66 (s.2.map ae.pd))]) (fun o=>gX 4 0 20 29 [(14,.ref 1360 0),(22,.ref 1648 0)] [(1360,.arr 0 86 (x31.map aD.pd)),(1648,.arr 0 66 (o.map ae.pd))]) Z ?_ ?_))
  ·rintro⟨s32,s33⟩ R' B' q35 hI h
   refine gS Z hI<|sF h ?_ ?_<;>intro h
   ·refine sN<|qS<|cT<|qK<|qS<|qB<|gU Z<|bE h fun x37 h37 h=>eG h37 Z<|sC Z<|sA Z<|sN<|WC.region Z Z<|sM Z<|sM Z ?_
    refine sM Z<|bE h fun x38 h38 h=>eG h38 Z<|sV (.d (ae.pd x38))<|sG (.d (.lst ([x38].map ae.pd)))<|bE h fun x39 h39 h=>aR h39 (fun _=>Z) Z<|sA Z<|sN<|WC.region Z Z<|sV (rI (rW (s32+(1:Int))))<|sM Z<|sN ?_
    cases oI h
    exact⟨rfl,rfl⟩
   refine sN<|qS<|cF<|qX ?_
   cases oI h
   exact⟨nofun,rfl,rfl⟩
  intro e R' B' he hq
  obtain⟨rfl,hI⟩:=hq
  refine qE<|gS Z hI<|mM Z<|sA Z<|sA Z<|sV (r0)<|sN<|qR ?_
  exact oI h▸qD
 obtain⟨rfl,hf⟩:=hq
 cases oI h
 exact hf
theorem jf{a0:(List ae)}{a1:(List ae)}{r:Bool}(h:eS a0 a1=some r):EvP prog aN ext 26 [rM ae.pd a0,rM ae.pd a1] [] (rB r,[]):=by
 refine Ev.body Z Tryz.func26 Z Zk<|gU Z<|sU<|sN<|qS<|gU Z<|sM Z<|sE (rI (a0.length:Int)) (pf _ _)<|sM Z<|sE (rI (a1.length:Int)) (pf _ _)<|sF h ?_ ?_<;>intro h
 ·refine sN<|cT<|gU Z<|sU<|sN<|qR ?_
  exact oI h▸qD
 refine sN<|cF<|qK<|qS<|gU Z<|sV (r0)<|sN<|bE h fun o9 ho9 h=>WC.block (WC.loop (WL.pI ho9 (fun s=>gI 0 26 4 [(0,rM ae.pd a0),(1,rM ae.pd a1),(5,rI s)] []) (fun o=>match o with| .inl y=>gX 0 0 26 8 [] []| .inr r=>gF 26 Tryz.f26 0 (rB r,[])) Z ?_ ?_))
 ·rintro s2 R' B' q3 hI h
  refine qS<|gS Z hI<|mM Z<|sE (rI (a0.length:Int)) (pf _ _)<|sF h ?_ ?_<;>intro h
  ·refine sN<|cT<|qK<|qS<|qB<|WC.cI Z Z<|mM Z<|bE h fun x5 h5 h=>eG h5 Z<|sV (.d (ae.pd x5))<|mM Z<|bE h fun x6 h6 h=>eG h6 Z ?_
   refine sV (.d (ae.pd x6))<|qe h (fun hb7 h=>?_) (fun hb7 h=>?_)
   ·refine WO.uw (eqN_66 x5 x6) hb7 Z Z Z Z Z ?_
    refine sN<|sO<|cT<|gU Z<|sU<|sN<|qR ?_
    cases oI h
    exact⟨nofun,rfl,rfl⟩
   refine WO.uw (eqN_66 x5 x6) hb7 Z Z Z Z Z ?_
   refine sN<|sO<|cF<|qK<|WC.region Z Z<|sM Z<|sV (rI (rW (s2+(1:Int))))<|sA Z<|sN ?_
   cases oI h
   exact⟨rfl,rfl⟩
  refine sN<|cF<|qX ?_
  cases oI h
  exact⟨nofun,rfl,rfl⟩
 intro e R' B' he hq
 rcases o9 with y10|r11
 ·obtain⟨rfl,hI⟩:=hq
  refine qE<|gS Z hI<|sT<|sN<|qR ?_
  exact oI h▸qD
 obtain⟨rfl,hf⟩:=hq
 cases oI h
 exact hf
theorem ref33_Same_ev{a0:aY}{a1:aY}{r:Bool}(h:nf a0 a1=some r):EvP prog aN ext 70 [.d (aY.pd a0),.d (aY.pd a1)] [] (rB r,[]):=by
 refine Ev.body Z Tryz.func70 Z Zk<|gU Z<|sB (.ptr 32 0) 32 (.var (aY.rc a0))<|sB (.ptr 48 0) 48 (.var (aY.rc a1))<|sU<|sN<|gU Z<|sV (.ptr 32 0)<|sL Z<|sV (.ptr 48 0)<|sL Z<|bE h fun x1 h1 h=>qe h (fun hb2 h=>?_) (fun hb2 h=>?_)
 ·refine WO.qH (v:=rB true) (u:=[]) Z Z (fun _=>Z) Z Z Z Z Z (jf h1) Z Z (congrArg (fun b=>RV.d (.bool b)) hb2) Z<|sM Z<|sV (.ptr 32 1)<|sV (.d (aj.pd a0.av))<|sV (.ptr 48 1)<|sV (.d (aj.pd a1.av))<|WO.bin (eqE_45 a0.av a1.av) Z Z Z Z Z<|sF h ?_ ?_<;>intro h
  ·refine sM Z<|sV (.ptr 32 13)<|sV (.d (az.pd a0.bO))<|sV (.ptr 48 13)<|sV (.d (az.pd a1.bO))<|WO.bin (eqE_47 a0.bO a1.bO) Z Z Z Z Z<|sF h ?_ ?_<;>intro h
   ·refine sM Z<|sV (.ptr 32 15)<|sL Z<|sV (.ptr 48 15)<|sL Z<|sV (rB (a0.jc==a1.jc))<|sV (rB (a0.jc==a1.jc))<|sA Z<|sN<|qR ?_
    cases oI h
    exact qG
   refine sM Z<|k3<|sK<|sK<|sU<|sA Z<|sN<|qR ?_
   cases oI h
   exact qG
  refine sM Z<|k3<|sK<|sK<|sU<|sM Z<|k3<|sK<|sK<|sU<|sA Z ?_
  refine sN<|qR ?_
  cases oI h
  exact qG
 refine WO.qH (v:=rB false) (u:=[]) Z Z (fun _=>Z) Z Z Z Z Z (jf h1) Z Z (congrArg (fun b=>RV.d (.bool b)) hb2) Z<|sM Z<|k3<|sK<|sK<|sU<|sM Z<|k3<|sK<|sK<|sU ?_
 refine sM Z<|k3<|sK<|sK<|sU<|sA Z<|sN<|qR ?_
 cases oI h
 exact qG
theorem ref34_Same_ev{a0:(List aD)}{a1:(List aD)}{r:Bool}(h:lQ a0 a1=some r):EvP prog aN ext 21 [rM aD.pd a0,rM aD.pd a1] [] (rB r,[]):=by
 refine Ev.body Z Tryz.func21 Z Zk<|gU Z<|sU<|sN<|qS<|gU Z<|sM Z<|sE (rI (a0.length:Int)) (pf _ _)<|sM Z<|sE (rI (a1.length:Int)) (pf _ _)<|sF h ?_ ?_<;>intro h
 ·refine sN<|cT<|gU Z<|sU<|sN<|qR ?_
  exact oI h▸qD
 refine sN<|cF<|qK<|qS<|gU Z<|sV (r0)<|sN<|bE h fun o13 ho13 h=>WC.block (WC.loop (WL.pI ho13 (fun s=>gI 0 21 4 [(0,rM aD.pd a0),(1,rM aD.pd a1),(5,rI s)] []) (fun o=>match o with| .inl y=>gX 0 0 21 8 [] []| .inr r=>gF 21 Tryz.f21 0 (rB r,[])) Z ?_ ?_))
 ·rintro s2 R' B' q3 hI h
  refine qS<|gS Z hI<|mM Z<|sE (rI (a0.length:Int)) (pf _ _)<|sF h ?_ ?_<;>intro h
  ·refine sN<|cT<|qK<|qS<|qB<|WC.cI Z Z<|mM Z<|bE h fun x5 h5 h=>eG h5 Z<|sV (.cptr [.str x5.bV.aA.bd,.str x5.bV.aA.aQ,.str x5.bV.aA.av,.str x5.bV.aA.bh,.int .i64 x5.bV.a7,.int .i64 x5.bV.aM,.int .i64 x5.bV.bv,.int .i64 x5.bV.a8,.int .i64 x5.bV.bp,.lst (x5.aL.f5.map ae.pd),.int .i64 x5.aL.av.aU.fX,.int .i64 x5.aL.av.aU.fY,.int .i64 x5.aL.av.aU.fZ,.int .i64 x5.aL.av.a7,.int .i64 x5.aL.av.bi,.int .i64 x5.aL.av.eN,.int .i64 x5.aL.av.aZ.aI.fX,.int .i64 x5.aL.av.aZ.aI.fY,.int .i64 x5.aL.av.aZ.aI.fZ,.int .i64 x5.aL.av.aZ.aC.fX,.int .i64 x5.aL.av.aZ.aC.fY,.int .i64 x5.aL.av.aZ.aC.fZ,.int .i64 x5.aL.bO.aI,.int .i64 x5.aL.bO.aC,.int .i64 x5.aL.jc])<|sV (.d (ae.pd x5.bV))<|mM Z<|bE h fun x6 h6 h=>?_
   refine eG h6 Z<|sV (.cptr [.str x6.bV.aA.bd,.str x6.bV.aA.aQ,.str x6.bV.aA.av,.str x6.bV.aA.bh,.int .i64 x6.bV.a7,.int .i64 x6.bV.aM,.int .i64 x6.bV.bv,.int .i64 x6.bV.a8,.int .i64 x6.bV.bp,.lst (x6.aL.f5.map ae.pd),.int .i64 x6.aL.av.aU.fX,.int .i64 x6.aL.av.aU.fY,.int .i64 x6.aL.av.aU.fZ,.int .i64 x6.aL.av.a7,.int .i64 x6.aL.av.bi,.int .i64 x6.aL.av.eN,.int .i64 x6.aL.av.aZ.aI.fX,.int .i64 x6.aL.av.aZ.aI.fY,.int .i64 x6.aL.av.aZ.aI.fZ,.int .i64 x6.aL.av.aZ.aC.fX,.int .i64 x6.aL.av.aZ.aC.fY,.int .i64 x6.aL.av.aZ.aC.fZ,.int .i64 x6.aL.bO.aI,.int .i64 x6.aL.bO.aC,.int .i64 x6.aL.jc])<|sV (.d (ae.pd x6.bV))<|qe h (fun hb7 h=>?_) (fun hb7 h=>?_)
   ·refine WO.uw (eqN_66 x5.bV x6.bV) hb7 Z Z Z Z Z<|sM Z<|k3<|k3<|k3<|k3<|sT ?_
    refine sN<|sO<|cT<|gU Z<|sU<|sN<|qR ?_
    cases oI h
    exact⟨nofun,rfl,rfl⟩
   refine WO.uw (eqN_66 x5.bV x6.bV) hb7 Z Z Z Z Z<|mM Z<|sM Z<|bE h fun x8 h8 h=>eG h8 Z<|sV (.cptr [.lst (x8.aL.f5.map ae.pd),.int .i64 x8.aL.av.aU.fX,.int .i64 x8.aL.av.aU.fY,.int .i64 x8.aL.av.aU.fZ,.int .i64 x8.aL.av.a7,.int .i64 x8.aL.av.bi,.int .i64 x8.aL.av.eN,.int .i64 x8.aL.av.aZ.aI.fX,.int .i64 x8.aL.av.aZ.aI.fY,.int .i64 x8.aL.av.aZ.aI.fZ,.int .i64 x8.aL.av.aZ.aC.fX,.int .i64 x8.aL.av.aZ.aC.fY,.int .i64 x8.aL.av.aZ.aC.fZ,.int .i64 x8.aL.bO.aI,.int .i64 x8.aL.bO.aC,.int .i64 x8.aL.jc])<|sV (.d (aY.pd x8.aL))<|mM Z<|bE h fun x9 h9 h=>eG h9 Z<|sV (.cptr [.lst (x9.aL.f5.map ae.pd),.int .i64 x9.aL.av.aU.fX,.int .i64 x9.aL.av.aU.fY,.int .i64 x9.aL.av.aU.fZ,.int .i64 x9.aL.av.a7,.int .i64 x9.aL.av.bi,.int .i64 x9.aL.av.eN,.int .i64 x9.aL.av.aZ.aI.fX,.int .i64 x9.aL.av.aZ.aI.fY,.int .i64 x9.aL.av.aZ.aI.fZ,.int .i64 x9.aL.av.aZ.aC.fX,.int .i64 x9.aL.av.aZ.aC.fY,.int .i64 x9.aL.av.aZ.aC.fZ,.int .i64 x9.aL.bO.aI,.int .i64 x9.aL.bO.aC,.int .i64 x9.aL.jc])<|sV (.d (aY.pd x9.aL))<|bE h fun x10 h10 h=>?_
   refine cD (ref33_Same_ev h10)<|sV (rB (!x10))<|sF h ?_ ?_<;>intro h
   ·refine sN<|sO<|cT<|gU Z<|sU<|sN<|qR ?_
    cases oI h
    exact⟨nofun,rfl,rfl⟩
   refine sN<|sO<|cF<|qK<|WC.region Z Z<|sM Z<|sV (rI (rW (s2+(1:Int))))<|sA Z<|sN ?_
   cases oI h
   exact⟨rfl,rfl⟩
  refine sN<|cF<|qX ?_
  cases oI h
  exact⟨nofun,rfl,rfl⟩
 intro e R' B' he hq
 rcases o13 with y14|r15
 ·obtain⟨rfl,hI⟩:=hq
  refine qE<|gS Z hI<|sT<|sN<|qR ?_
  exact oI h▸qD
 obtain⟨rfl,hf⟩:=hq
 cases oI h
 exact hf
theorem mH{a0:(List Int)}{r:Bool}(h:gO a0=some r):EvP prog aN ext 10 [rL a0] [] (rB r,[]):=by
 refine Ev.body Z Tryz.func10 Z Zk<|gU Z<|sU<|sN<|gU Z<|sM Z<|bE h fun x1 h1 h=>cR (.ptr 336 0) [(336,.var (ac.rc x1))] (keep_New_ev h1)<|sA Z<|sN<|gU Z<|sM Z<|bE h fun x2 h2 h=>cR (.d (aq.pd x2.1)) [(336,.var (ac.rc x2.2))] (Src_Settings_ev h2)<|sM Z ?_
 refine bE h fun x3 h3 h=>cR (.d (ap.pd x3.1)) [(336,.var (ac.rc x3.2))] (Src_Sites_ev h3)<|sB (.ptr 64 0) 64 (.var [r0,r0,r0,r0,r0,r0,r0,.mA,.mA,r0,r0,r0,r0,r0,r0,.mA,.mA,r0,r0,r0])<|sB (.ptr 80 0) 80 (.var [.mA])<|sH 64 (.var (aq.rc x2.1))<|sS 80 (.var [rM au.pd x3.1.aO])<|sN<|gU Z<|sM Z<|sV (.d (aq.pd x2.1))<|sV (.d (.agg [.lst (x3.1.aO.map au.pd)]))<|bE h fun x4 h4 h=>cR (rM ae.pd x4.1) [(336,.var (ac.rc x4.2))] (Src_Picks_ev h4)<|sA Z<|sN ?_
 refine gU Z<|sM Z<|sV (.d (.agg [.lst (x3.1.aO.map au.pd)]))<|bE h fun x5 h5 h=>cR (.d (ap.pd x5.1)) [(336,.var (ac.rc x5.2))] (Src_Corrected_ev h5)<|sB (.ptr 112 0) 112 (.var [.mA])<|sS 112 (.var [rM au.pd x5.1.aO])<|sN<|gU Z<|sV (.ptr 64 0)<|sV (.ptr 64 11)<|sL Z<|sM Z<|bE h fun x6 h6 h=>cR (.tup [.d (.lst (x6.1.map (fun l=>PD.lst (l.map ae.pd)))),rI x6.2]) [] (nv h6) ?_
 refine sM Z<|sV (.d (.lst (x6.1.map (fun l=>PD.lst (l.map ae.pd)))))<|sV (rI x6.2)<|sA Z<|sA Z<|sN<|qS<|gU Z<|sM Z<|sF h ?_ ?_<;>intro h
 ·refine sN<|cT<|gU Z<|sU<|sN<|qR ?_
  cases oI h
  exact qG
 refine sN<|cF<|qK<|qS<|gU Z<|sM Z<|sE (rI (x6.1.length:Int)) (pf _ _)<|sV (r0)<|sN<|bE h fun o35 ho35 h=>WC.block (WC.loop (WL.pI ho35 (fun s=>gI 0 10 9 [(4,.ptr 64 0),(5,.ptr 80 0),(7,.ptr 112 0),(8,.d (.lst (x6.1.map (fun l=>PD.lst (l.map ae.pd))))),(44,rI (x6.1.length:Int)),(45,rI s)] [(64,.var (aq.rc x2.1)),(80,.var [rM au.pd x3.1.aO]),(112,.var [rM au.pd x5.1.aO])]) (fun o=>match o with| .inl y=>gX 0 0 10 23 [] []| .inr r=>gF 10 Tryz.f10 0 (rB r,[])) Z ?_ ?_))
 ·rintro s8 R' B' q9 hI h
  refine gS Z hI<|sF h ?_ ?_<;>intro h
  ·refine sN<|qS<|cT<|qK<|qS<|qB<|gU Z<|sM Z<|sA Z<|sN<|gU Z<|sU<|sN<|qS<|gU Z ?_
   refine mM Z<|bE h fun x11 h11 h=>eG h11 Z<|sC Z<|sE (rI (x11.length:Int)) (pf _ _)<|sV (r0)<|sN<|bE h fun o23 ho23 h=>WC.block (WC.loop (WL.pI ho23 (fun s=>gI 0 10 13 [(4,.ptr 64 0),(5,.ptr 80 0),(7,.ptr 112 0),(8,.d (.lst (x6.1.map (fun l=>PD.lst (l.map ae.pd))))),(10,rI s8),(11,rB s.1),(44,rI (x6.1.length:Int)),(45,rI s8),(51,rM ae.pd x11),(52,rI (x11.length:Int)),(53,rI s.2)] [(64,.var (aq.rc x2.1)),(80,.var [rM au.pd x3.1.aO]),(112,.var [rM au.pd x5.1.aO])]) (fun o=>gX 2 0 10 17 [(4,.ptr 64 0),(5,.ptr 80 0),(7,.ptr 112 0),(8,.d (.lst (x6.1.map (fun l=>PD.lst (l.map ae.pd))))),(10,rI o.1),(11,rB o.2.1),(44,rI (x6.1.length:Int)),(45,rI o.2.2)] [(64,.var (aq.rc x2.1)),(80,.var [rM au.pd x3.1.aO]),(112,.var [rM au.pd x5.1.aO])]) Z ?_ ?_))
   ·rintro⟨s12,s13⟩ R' B' q17 hI h
    refine gS Z hI<|sF h ?_ ?_<;>intro h
    ·refine sN<|qS<|cT<|qK<|qS<|qB<|gU Z<|bE h fun x19 h19 h=>eG h19 Z<|sV (.d (ae.pd x19))<|sB (.ptr 208 0) 208 (.var zZ2)<|sH 208 (.var (ae.rc x19))<|sN<|WC.region Z Z<|sF h ?_ ?_<;>intro h
     ·refine sM Z<|k3<|sK<|sT<|sA Z<|sN<|WC.region Z Z<|sV (rI (rW (s13+(1:Int))))<|sM Z<|sN ?_
      cases oI h
      exact⟨rfl,rfl⟩
     refine sM Z<|sV (.d (.agg [.lst (x3.1.aO.map au.pd)]))<|sV (.d (.agg [.lst (x5.1.aO.map au.pd)]))<|sV (.d (ae.pd x19))<|bE h fun x21 h21 h=>cD (nw h21)<|sV (rB x21)<|sA Z<|sN<|WC.region Z Z<|sV (rI (rW (s13+(1:Int))))<|sM Z<|sN ?_
     cases oI h
     exact⟨rfl,rfl⟩
    refine sN<|qS<|cF<|qX ?_
    cases oI h
    exact⟨nofun,rfl,rfl⟩
   intro e R' B' he hq
   obtain⟨rfl,hI⟩:=hq
   refine qE<|qS<|gS Z hI<|sF h ?_ ?_<;>intro h
   ·refine sN<|cT<|qX<|qE<|WC.region Z Z<|sV (rI (rW (o23.2.2+(1:Int))))<|sM Z<|sN ?_
    cases oI h
    exact⟨rfl,rfl⟩
   refine sN<|cF<|qK<|WC.cI Z Z<|sV (.d (aq.pd x2.1))<|sV (.d (.agg [.lst (x3.1.aO.map au.pd)]))<|mM Z<|bE h fun x25 h25 h=>eG h25 Z<|sC Z<|bE h fun x26 h26 h=>cR (.tup [rM aD.pd x26.1,rM ae.pd x26.2.1,rI x26.2.2]) [] (oA h26)<|sM Z<|sV (rM aD.pd x26.1) ?_
   refine sV (rM ae.pd x26.2.1)<|sV (rI x26.2.2)<|sA Z<|sA Z<|sA Z ?_
   refine sN<|sO<|WC.cI Z Z<|sV (.d (aq.pd x2.1))<|sV (.d (.agg [.lst (x5.1.aO.map au.pd)]))<|mM Z<|bE h fun x27 h27 h=>eG h27 Z<|sC Z<|bE h fun x28 h28 h=>cR (.tup [rM aD.pd x28.1,rM ae.pd x28.2.1,rI x28.2.2]) [] (oA h28)<|sM Z<|sV (rM aD.pd x28.1)<|sV (rM ae.pd x28.2.1)<|sV (rI x28.2.2) ?_
   refine sA Z<|sA Z<|sA Z ?_
   refine sN<|sO<|gU Z<|mM Z<|sF h ?_ ?_<;>intro h
   ·refine sM Z<|k3<|sK<|sT<|sM Z<|k3<|sK<|sT<|sN<|cT<|gU Z ?_
    refine sU<|sN<|qR ?_
    cases oI h
    exact⟨nofun,rfl,rfl⟩
   refine mM Z<|sM Z<|bE h fun x30 h30 h=>cD (ref34_Same_ev h30)<|sV (rB (!x30))<|sF h ?_ ?_<;>intro h
   ·refine sM Z<|k3<|sK<|sT<|sN<|cT<|gU Z<|sU<|sN<|qR ?_
    cases oI h
    exact⟨nofun,rfl,rfl⟩
   refine mM Z<|sM Z<|bE h fun x32 h32 h=>cD (jf h32)<|sV (rB (!x32))<|sF h ?_ ?_<;>intro h
   ·refine sN<|cT<|gU Z<|sU<|sN<|qR ?_
    cases oI h
    exact⟨nofun,rfl,rfl⟩
   refine sN<|cF<|qK<|WC.region Z Z<|sV (rI (rW (o23.2.2+(1:Int))))<|sM Z<|sN ?_
   cases oI h
   exact⟨rfl,rfl⟩
  refine sN<|qS<|cF<|qX ?_
  cases oI h
  exact⟨nofun,rfl,rfl⟩
 intro e R' B' he hq
 rcases o35 with y36|r37
 ·obtain⟨rfl,hI⟩:=hq
  refine qE<|gS Z hI<|bE h fun x38 h38 h=>cD (closed_47 h38)<|sA Z<|sN<|qR ?_
  exact oI h▸qD
 obtain⟨rfl,hf⟩:=hq
 cases oI h
 exact hf
end Go.Dw.Ed
