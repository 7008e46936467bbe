
import Derived.Test.YtmmgjlgoggielaaGreatEtEvA

set_option maxRecDepth 100000
set_option maxHeartbeats 4000000
namespace Go.Dw.Et
open Go.Proofs Go.Proofs.Tryz Go.Dw
theorem inventory_At_ev{a0:aq}{a1:aw}{a2:Int}{r:aA×Int}(h:ju a0 a1 a2=some r):EvP prog aB ext 99 [.d (aq.pd a0),.d (aw.pd a1),rI a2] [] (.tup [.d (aA.pd r.1),rI r.2],[]):=by
 refine Ev.body rfl Tryz.func99 rfl (by kernel_rfl)<|gS rfl rfl<|sB (.ptr 48 0) 48 (.var [rM ar.pd a0.aI])<|sB (.ptr 64 0) 64 (.var (aw.rc a1))<|sB (.ptr 96 0) 96 (.var zZ4)<|sV (r0)<|sN<|qS<|gS rfl rfl<|sV (.d (aq.pd a0))<|bE h fun x1 hx1 h=>cD (gU hx1)<|sF h (fun h=>?_) fun h=>?_
 ·refine sN<|cT<|gS rfl rfl<|sG (.agg zZ4)<|sH 96 (.var zZ4)<|sV (rI 1)<|sN<|qR ?_
  cases oI h
  exact qG
 refine sN<|cF<|qK<|gS rfl rfl<|sV (.d (aq.pd a0))<|sV (.d (aw.pd a1))<|bE h fun x3 hx3 h=>cR (.tup [.d (ar.pd x3.1),rB x3.2]) [] (rT hx3)<|sM rfl<|sV (.d (ar.pd x3.1))<|sV (rB x3.2)<|sB (.ptr 128 0) 128 (.var [rS [],rS [],rS [],rS [],.dg])<|sS 128 (.var (ar.rc x3.1))<|sA rfl<|sN ?_
 refine gS rfl rfl<|sV (.d (ar.pd x3.1))<|sM rfl<|bE h fun x4 hx4 h=>cR (.tup [.d (aA.pd x4.1),rB x4.2]) [] (inventory_at_ev hx4)<|sM rfl<|sV (.d (aA.pd x4.1))<|sV (rB x4.2)<|sB (.ptr 160 0) 160 (.var zZ4)<|sH 160 (.var (aA.rc x4.1))<|sA rfl<|sN<|qS<|gS rfl rfl<|sM rfl ?_
 refine sF h (fun h=>?_) fun h=>?_
 ·refine sN<|cT<|gS rfl rfl<|sG (.agg zZ4)<|sH 96 (.var zZ4)<|sV (rI 6)<|sN<|qR ?_
  cases oI h
  exact qG
 refine sN<|cF<|qK<|gS rfl rfl<|sV (.d (aA.pd x4.1))<|sH 96 (.var (aA.rc x4.1))<|sV (r0)<|sN<|qR ?_
 cases oI h
 exact qG
theorem om{a0:ak}{a1:aq}{a2:ac}{r:al×aA×Bool}(h:cQ a0 a1 a2=some r):EvP prog aB ext 84 [.d (ak.pd a0),.d (aq.pd a1),.d (ac.pd a2)] [] (.tup [.d (al.pd r.1),.d (aA.pd r.2.1),rB r.2.2],[]):=by
 refine Ev.body rfl Tryz.func84 rfl (by kernel_rfl)<|gS rfl rfl<|sB (.ptr 48 0) 48 (.var (ak.rc a0))<|sB (.ptr 64 0) 64 (.var [rM ar.pd a1.aI])<|sB (.ptr 80 0) 80 (.var (ac.rc a2))<|sB (.ptr 96 0) 96 (.var zZ5)<|sB (.ptr 112 0) 112 (.var zZ4)<|sU<|sN<|qS<|gS rfl rfl<|sV (.d (ac.pd a2))<|bE h fun x1 hx1 h=>cD (qz hx1)<|sF h (fun h=>?_) fun h=>?_
 ·refine sN<|cT<|gS rfl rfl<|sG (.d (al.pd (al.mk (aa.mk 0 0 0) 0 0 0)))<|sG (.agg zZ4)<|sH 96 (.var zZ5)<|sH 112 (.var zZ4)<|sU<|sN<|qR ?_
  cases oI h
  exact qG
 refine sN<|cF<|qK<|gS rfl rfl<|sV (.d (aq.pd a1))<|sV (.ptr 80 0)<|sV (.d (aw.pd a2.aC))<|sV (.ptr 80 4)<|sL rfl<|bE h fun x3 hx3 h=>cR (.tup [.d (aA.pd x3.1),rI x3.2]) [] (inventory_At_ev hx3)<|sM rfl<|sV (.d (aA.pd x3.1))<|sV (rI x3.2)<|sB (.ptr 144 0) 144 (.var zZ4) ?_
 refine sH 144 (.var (aA.rc x3.1))<|sA rfl<|sN<|qS<|gS rfl rfl<|sM rfl<|sF h (fun h=>?_) fun h=>?_
 ·refine sN<|cT<|gS rfl rfl<|sG (.d (al.pd (al.mk (aa.mk 0 0 0) 0 0 0)))<|sG (.agg zZ4)<|sH 96 (.var zZ5)<|sH 112 (.var zZ4)<|sU<|sN<|qR ?_
  cases oI h
  exact qG
 refine sN<|cF<|qK<|gS rfl rfl<|sV (.ptr 144 4)<|sV (.d (aa.pd x3.1.aZ))<|sV (.ptr 80 5)<|sL rfl<|sV (.ptr 80 6)<|sL rfl<|sG (.d (al.pd (al.mk x3.1.aZ a2.aP a2.bh 1)))<|sB (.ptr 176 0) 176 (.var zZ5)<|sH 176 (.var (aa.rc x3.1.aZ++[rI a2.aP,rI a2.bh,rI 1]))<|sN<|qS ?_
 refine gS rfl rfl<|sV (.ptr 48 0)<|sV (.ptr 48 6)<|sV (.d (aF.pd a0.ag.bi))<|sV (.ptr 48 0)<|sV (.ptr 48 0)<|sV (.d (ai.pd a0.ag.aN))<|sV (.d (al.pd (al.mk x3.1.aZ a2.aP a2.bh 1)))<|bE h fun x5 hx5 h=>cR (.tup [.d (aL.pd x5.1),rI x5.2]) [] (lN hx5)<|sM rfl<|sV (.d (aL.pd x5.1))<|sV (rI x5.2)<|sB (.ptr 192 0) 192 (.var [r0,r0])<|sS 192 (.var [rI x5.1.bB,rI x5.1.fTo]) ?_
 refine sA rfl<|sN<|gS rfl rfl<|sM rfl<|sF h (fun h=>?_) fun h=>?_
 ·refine sN<|cT<|gS rfl rfl<|sG (.d (al.pd (al.mk (aa.mk 0 0 0) 0 0 0)))<|sG (.agg zZ4)<|sH 96 (.var zZ5)<|sH 112 (.var zZ4)<|sU<|sN<|qR ?_
  cases oI h
  exact qG
 refine sN<|cF<|qK<|WC.cI rfl rfl<|sV (.d (al.pd (al.mk x3.1.aZ a2.aP a2.bh 1)))<|sV (.d (aA.pd x3.1))<|sH 96 (.var (aa.rc x3.1.aZ++[rI a2.aP,rI a2.bh,rI 1]))<|sH 112 (.var (aA.rc x3.1))<|sT ?_
 refine sN<|sO<|qR ?_
 cases oI h
 exact qG
theorem nj{a0:ak}{a1:aq}{a2:ac}{r:al×Bool}(h:ir a0 a1 a2=some r):EvP prog aB ext 35 [.d (ak.pd a0),.d (aq.pd a1),.d (ac.pd a2)] [] (.tup [.d (al.pd r.1),rB r.2],[]):=by
 refine Ev.body rfl Tryz.func35 rfl (by kernel_rfl)<|gS rfl rfl<|sB (.ptr 48 0) 48 (.var (ak.rc a0))<|sB (.ptr 64 0) 64 (.var [rM ar.pd a1.aI])<|sB (.ptr 80 0) 80 (.var (ac.rc a2))<|sB (.ptr 96 0) 96 (.var zZ5)<|sU<|sN<|qS<|gS rfl rfl<|sV (.d (ak.pd a0))<|bE h fun x1 hx1 h=>cD (jl hx1)<|sF h (fun h=>?_) fun h=>?_
 ·refine sM rfl<|k3<|sT<|sN<|cT<|gS rfl rfl<|sG (.d (al.pd (al.mk (aa.mk 0 0 0) 0 0 0)))<|sH 96 (.var zZ5)<|sU<|sN<|qR ?_
  cases oI h
  exact qG
 refine sM rfl<|sV (.d (aq.pd a1))<|bE h fun x3 hx3 h=>cD (gU hx3)<|sV (rB (!x3))<|sF h (fun h=>?_) fun h=>?_
 ·refine sN<|cT<|gS rfl rfl<|sG (.d (al.pd (al.mk (aa.mk 0 0 0) 0 0 0)))<|sH 96 (.var zZ5)<|sU<|sN<|qR ?_
  cases oI h
  exact qG
 refine sN<|cF<|qK<|gS rfl rfl<|sV (.d (ak.pd a0))<|sV (.d (aq.pd a1))<|sV (.d (ac.pd a2))<|bE h fun x5 hx5 h=>cR (.tup [.d (al.pd x5.1),.d (aA.pd x5.2.1),rB x5.2.2]) [] (om hx5)<|sM rfl<|sV (.d (al.pd x5.1))<|sV (.d (aA.pd x5.2.1))<|sV (rB x5.2.2)<|sB (.ptr 128 0) 128 (.var zZ5)<|sB (.ptr 144 0) 144 (.var zZ4) ?_
 refine sH 128 (.var (al.rc x5.1))<|sH 144 (.var (aA.rc x5.2.1))<|sA rfl<|sN<|gS rfl rfl<|sV (.d (al.pd x5.1))<|sM rfl<|sH 96 (.var (al.rc x5.1))<|sA rfl<|sN<|qR ?_
 cases oI h
 exact qG
theorem pb{a0:ak}{a1:aq}{a2:(List ac)}{r:(List ac)×(List al)×Int}(h:kS a0 a1 a2=some r):EvP prog aB ext 65 [.d (ak.pd a0),.d (aq.pd a1),rM ac.pd a2] [] (.tup [rM ac.pd r.1,rM al.pd r.2.1,rI r.2.2],[]):=by
 refine Ev.body rfl Tryz.func65 rfl (by kernel_rfl)<|gS rfl rfl<|sB (.ptr 48 0) 48 (.var (ak.rc a0))<|sB (.ptr 64 0) 64 (.var [rM ar.pd a1.aI])<|sV .dg<|sV .dg<|sV (r0)<|sN<|qS<|qB<|gS rfl rfl<|sV (.d (ak.pd a0))<|bE h fun x1 hx1 h=>cD (jl hx1)<|sF h (fun h=>?_) fun h=>?_
 ·refine sA rfl<|sN<|cT<|gS rfl rfl<|sV .dg<|sV .dg<|sV (rI 27)<|sN<|qR ?_
  cases oI h
  exact qG
 refine sA rfl<|sN<|cF<|gS rfl rfl<|sV (.d (aq.pd a1))<|bE h fun x3 hx3 h=>cD (gU hx3)<|sF h (fun h=>?_) fun h=>?_
 ·refine sA rfl<|sN<|cT<|gS rfl rfl<|sV .dg<|sV .dg<|sV (rI 1)<|sN<|qR ?_
  cases oI h
  exact qG
 refine sA rfl<|sN<|cF<|qK<|gS rfl rfl<|sV .dg<|sN<|gS rfl rfl<|sV .dg<|sN<|qS<|gS rfl rfl<|sM rfl<|bE h fun x5 hx5 h=>cD (pU hx5) ?_
 refine sE (rI (x5.length:Int)) (fB _ _)<|sV (r0)<|sN<|bE h fun o19 ho19 h=>WC.block (WC.loop (WL.gE ho19 (fun s R' B'=>b8 prog 0 (A R' B') (aB.at_ 65 0 8)=some (A [(3,.ptr 48 0),(4,.ptr 64 0),(9,.ref 656 0),(10,.ref 720 0),(24,rM ac.pd x5),(25,rI (x5.length:Int)),(26,rI s.1)] [(48,.var (ak.rc a0)),(64,.var [rM ar.pd a1.aI]),(656,.arr 0 66 (s.2.1.map ac.pd)),(720,.arr 0 81 (s.2.2.map al.pd))])) (fun o e R' B'=>e= .exit 1∧b8 prog 0 (A R' B') (aB.at_ 65 0 14)=some (A [(9,.ref 656 0),(10,.ref 720 0)] [(656,.arr 0 66 (o.1.map ac.pd)),(720,.arr 0 81 (o.2.map al.pd))])) rfl ?_ ?_))
 ·rintro⟨s6,s7,s8⟩ R' B' q11 hI h
  refine gS rfl hI<|sF h (fun h=>?_) fun h=>?_
  ·refine sN<|qS<|cT<|qK<|qS<|qB<|gS rfl rfl<|bE h fun x13 hx13 h=>eG hx13 rfl<|sV (.d (ac.pd x13))<|sB (.ptr 192 0) 192 (.var zZ3)<|sH 192 (.var (ac.rc x13))<|sN<|gS rfl rfl<|sV (.d (ak.pd a0)) ?_
   refine sV (.d (aq.pd a1))<|sV (.d (ac.pd x13))<|bE h fun x14 hx14 h=>cR (.tup [.d (al.pd x14.1),rB x14.2]) [] (nj hx14)<|sM rfl<|sV (.d (al.pd x14.1))<|sV (rB x14.2)<|sB (.ptr 208 0) 208 (.var zZ5)<|sH 208 (.var (al.rc x14.1))<|sA rfl<|sN<|gS rfl rfl<|sF h (fun h=>?_) fun h=>?_
   ·refine sN<|cT<|WC.oi rfl rfl<|sM rfl<|sV (.d (ac.pd x13))<|sG (.d (.lst ([x13].map ac.pd)))<|bE h fun x16 hx16 h=>aR hx16 (fun _=>rfl) rfl<|sM rfl<|sV (.d (al.pd x14.1))<|sV (.d (.lst ([x14.1].map al.pd)))<|bE h fun x17 hx17 h=>aR hx17 (fun _=>rfl) rfl<|sA rfl<|sA rfl ?_
    refine sN<|sO<|WC.region rfl rfl<|sV (rI (rW (s6+(1:Int))))<|sM rfl<|sN ?_
    cases oI h
    exact⟨rfl,rfl⟩
   refine sN<|cF<|qK<|WC.region rfl rfl<|sV (rI (rW (s6+(1:Int))))<|sM rfl<|sN ?_
   cases oI h
   exact⟨rfl,rfl⟩
  refine sN<|qS<|cF<|qX ?_
  cases oI h
  exact⟨nofun,rfl,rfl⟩
 intro e R' B' he hq
 obtain⟨rfl,hI⟩:=hq
 refine qE<|qS<|gS rfl hI<|sM rfl<|WO.uT rfl rfl rfl rfl rfl rfl rfl rfl rfl<|sF h (fun h=>?_) fun h=>?_
 ·refine sN<|cT<|gS rfl rfl<|sV .dg<|sV .dg<|sV (rI 8)<|sN<|qR ?_
  exact oI h▸qD
 refine sN<|cF<|qK<|gS rfl rfl<|sM rfl<|sM rfl<|sA rfl<|sA rfl<|sV (r0)<|sN<|qR ?_
 exact oI h▸qD
theorem mr{a0:aa}{a1:aa}{r:Int}(h:dY a0 a1=some r):EvP prog aB ext 230 [.d (aa.pd a0),.d (aa.pd a1)] [] (rI r,[]):=by
 refine Ev.body rfl Tryz.func230 rfl (by kernel_rfl)<|gS rfl rfl<|sB (.ptr 32 0) 32 (.var (aa.rc a0))<|sB (.ptr 48 0) 48 (.var (aa.rc a1))<|sV (r0)<|sN<|WC.cI rfl rfl<|sV (.ptr 32 0)<|sL rfl<|sV (.ptr 48 0)<|sL rfl<|bE h fun x1 hx1 h=>cD (bO hx1)<|sV (.ptr 32 1)<|sL rfl ?_
 refine sV (.ptr 48 1)<|sL rfl<|bE h fun x2 hx2 h=>cD (bO hx2)<|sV (.ptr 32 2)<|sL rfl<|sV (.ptr 48 2)<|sL rfl<|bE h fun x3 hx3 h=>cD (bO hx3)<|sV (.d (.lst ([x1,x2,x3].map (PD.int .i64))))<|bE h fun x4 hx4 h=>cD (iy hx4)<|sA rfl ?_
 refine sN<|sO<|qR ?_
 exact oI h▸qD
theorem px{a0:al}{a1:al}{r:Int}(h:iM a0 a1=some r):EvP prog aB ext 151 [.d (al.pd a0),.d (al.pd a1)] [] (rI r,[]):=by
 refine Ev.body rfl Tryz.func151 rfl (by kernel_rfl)<|gS rfl rfl<|sB (.ptr 32 0) 32 (.var (al.rc a0))<|sB (.ptr 48 0) 48 (.var (al.rc a1))<|sV (r0)<|sN<|WC.cI rfl rfl<|sV (.ptr 32 3)<|sL rfl<|sV (.ptr 48 3)<|sL rfl<|bE h fun x1 hx1 h=>cD (bO hx1)<|sV (.ptr 32 4)<|sL rfl ?_
 refine sV (.ptr 48 4)<|sL rfl<|bE h fun x2 hx2 h=>cD (bO hx2)<|sV (.ptr 32 0)<|sV (.d (aa.pd a0.aM))<|sV (.ptr 48 0)<|sV (.d (aa.pd a1.aM))<|bE h fun x3 hx3 h=>cD (mr hx3)<|sV (.ptr 32 5)<|sL rfl<|sV (.ptr 48 5)<|sL rfl<|bE h fun x4 hx4 h=>?_
 refine cD (bO hx4)<|sV (.d (.lst ([x1,x2,x3,x4].map (PD.int .i64))))<|bE h fun x5 hx5 h=>cD (iy hx5)<|sA rfl ?_
 refine sN<|sO<|qR ?_
 exact oI h▸qD
theorem nW{a0:Int}{a1:Int}{d0:(List al)}{r:Int}(h:fF a0 a1 d0=some r):EvP prog aB ext 150 [rI a0,rI a1,.ptr 0 0] [.var [rM al.pd d0]] (rI r,[.var [rM al.pd d0]]):=by
 refine Ev.body rfl Tryz.func150 rfl (by kernel_rfl)<|gS rfl rfl<|sV (r0)<|sN<|WC.cI rfl rfl<|sL rfl<|sM rfl<|bE h fun x1 hx1 h=>eG hx1 rfl<|sV (.d (al.pd x1))<|sL rfl<|sM rfl<|bE h fun x2 hx2 h=>eG hx2 rfl<|sV (.d (al.pd x2)) ?_
 refine bE h fun x3 hx3 h=>cD (px hx3)<|sA rfl ?_
 refine sN<|sO<|qR ?_
 exact oI h▸qD
theorem d8{a0:Int}{a1:Int}{d0:(List Int)}{d1:(List al)}{r:(List Int)}(h:ct a0 a1 d0 d1=some r):EvP prog aB ext 301 [.ref 0 0,rI a0,rI a1,.clo 150 [.ptr 1 0]] [.arr 0 3 (d0.map (PD.int .i64)),.var [rM al.pd d1]] (.tup [],[.arr 0 3 (r.map (PD.int .i64)),.var [rM al.pd d1]]):=by
 refine Ev.body rfl Tryz.func301 rfl (by kernel_rfl)<|gS rfl rfl<|sM rfl<|sV (rI (rW (a0+(1:Int))))<|sA rfl<|sN<|bE h fun o35 ho35 h=>?_
 cases oI h
 refine WC.block (WC.loop (WL.vd ho35 (fun s R' B'=>b8 prog 2 (A R' B') (aB.at_ 301 2 1)=some (A [(0,.ref 0 0),(1,rI a0),(2,rI a1),(3,.clo 150 [.ptr 1 0]),(8,rI s.1)] [(0,.arr 0 3 (s.2.map (PD.int .i64))),(1,.var [rM al.pd d1])])) rfl ?_))
 rintro⟨s1,s2⟩ R' B' q3 hI h
 refine qS<|gS rfl hI<|sM rfl<|sM rfl<|sF h (fun h=>?_) fun h=>?_
 ·refine sN<|cT<|qK<|qS<|qB<|gS rfl rfl<|sM rfl<|sA rfl<|sN<|bE h fun o32 ho32 h=>WC.block (WC.loop (WL.gE ho32 (fun s R' B'=>b8 prog 2 (A R' B') (aB.at_ 301 2 4)=some (A [(0,.ref 0 0),(1,rI a0),(2,rI a1),(3,.clo 150 [.ptr 1 0]),(8,rI s1),(9,rI s.1)] [(0,.arr 0 3 (s.2.map (PD.int .i64))),(1,.var [rM al.pd d1])])) (fun o e R' B'=>e= .exit 2∧b8 prog 2 (A R' B') (aB.at_ 301 2 2)=some (A [(0,.ref 0 0),(1,rI a0),(2,rI a1),(3,.clo 150 [.ptr 1 0]),(8,rI o.1)] [(0,.arr 0 3 (o.2.map (PD.int .i64))),(1,.var [rM al.pd d1])])) rfl ?_ ?_))
  ·rintro⟨s5,s6⟩ R' B' q9 hI h
   refine qS<|WC.cI hI rfl<|sM rfl<|sM rfl<|sF h (fun h=>?_) fun h=>?_
   ·refine sM rfl<|sM rfl<|sM rfl<|sM rfl<|bE h fun x12 hx12 h=>WO.p8 hx12 rfl rfl rfl rfl rfl rfl rfl rfl<|bE h fun x13 hx13 h=>WO.pJ hx13 rfl rfl rfl rfl rfl rfl<|sM rfl<|sM rfl<|sV (rI (rW (s5-(1:Int))))<|bE h fun x15 hx15 h=>WO.p8 hx15 rfl rfl rfl rfl rfl rfl rfl rfl<|bE h fun x16 hx16 h=>WO.pJ hx16 rfl rfl rfl rfl rfl rfl ?_
    refine bE h fun x17 hx17 h=>cR (rI x17) [(1,.var [rM al.pd d1])] (nW hx17)<|sV (rB (decide (x17<(0:Int))))<|sF h (fun h=>?_) fun h=>?_
    ·refine sN<|sO<|cT<|qK<|qS<|qB<|WC.oi rfl rfl<|sM rfl<|sM rfl<|sM rfl<|sM rfl<|sV (rI (rW (s5-(1:Int))))<|sM rfl<|sM rfl<|sV (rI (rW (s5-(1:Int))))<|bE h fun x20 hx20 h=>?_
     refine WO.p8 hx20 rfl rfl rfl rfl rfl rfl rfl rfl<|bE h fun x21 hx21 h=>WO.pJ hx21 rfl rfl rfl rfl rfl rfl<|sM rfl<|sM rfl<|bE h fun x23 hx23 h=>WO.p8 hx23 rfl rfl rfl rfl rfl rfl rfl rfl<|bE h fun x24 hx24 h=>WO.pJ hx24 rfl rfl rfl rfl rfl rfl<|bE h fun x26 hx26 h=>WO.p8 hx26 rfl rfl rfl rfl rfl rfl rfl rfl<|bE h fun x27 hx27 h=>WO.ss (g:=(PD.int .i64)) (sz:=1) (p:= .int .i64 x21) hx27 (fun _=>rfl) (fun _=>rfl) rfl rfl rfl rfl rfl rfl rfl rfl rfl<|bE h fun x29 hx29 h=>WO.p8 hx29 rfl rfl rfl rfl rfl rfl rfl rfl ?_
     refine bE h fun x30 hx30 h=>WO.ss (g:=(PD.int .i64)) (sz:=1) (p:= .int .i64 x24) hx30 (fun _=>rfl) (fun _=>rfl) rfl rfl rfl rfl rfl rfl rfl rfl rfl ?_
     refine sN<|sO<|WC.region rfl rfl<|sM rfl<|sV (rI (rW (s5-(1:Int))))<|sA rfl<|sN ?_
     cases oI h
     exact⟨rfl,rfl⟩
    refine sN<|sO<|cF<|qX ?_
    cases oI h
    exact⟨nofun,rfl,rfl⟩
   refine sM rfl<|k3<|k3<|k3<|k3<|sU ?_
   refine sN<|sO<|cF<|qX ?_
   cases oI h
   exact⟨nofun,rfl,rfl⟩
  intro e R' B' he hq
  obtain⟨rfl,hI⟩:=hq
  refine qE<|WC.region hI rfl<|sM rfl<|sV (rI (rW (o32.1+(1:Int))))<|sA rfl<|sN ?_
  cases oI h
  exact⟨rfl,rfl⟩
 refine sN<|cF<|qX<|tO h (fun z33 hkz33 hz=>?_)
 obtain rfl:=Option.some.inj hz
 refine⟨(fun he=>by cases he),fun hz2=>?_⟩
 subst hz2
 have h:=hkz33
 refine qE ?_
 exact oI h▸qD
theorem lc{a0:Int}{d0:(List Int)}{d1:(List al)}{r:(List Int)}(h:eB a0 d0 d1=some r):EvP prog aB ext 229 [.ref 0 0,rI a0,.clo 150 [.ptr 1 0]] [.arr 0 3 (d0.map (PD.int .i64)),.var [rM al.pd d1]] (.tup [],[.arr 0 3 (r.map (PD.int .i64)),.var [rM al.pd d1]]):=by
 refine Ev.body rfl Tryz.func229 rfl (by kernel_rfl)<|gS rfl rfl<|sV (rI 20)<|sN<|gS rfl rfl<|sM rfl<|sV (r0)<|sA rfl<|sN<|qS<|bE h fun o10 ho10 h=>WC.block (WC.loop (WL.gE ho10 (fun s R' B'=>b8 prog 2 (A R' B') (aB.at_ 229 2 2)=some (A [(0,.ref 0 0),(1,rI a0),(2,.clo 150 [.ptr 1 0]),(6,rI 20),(7,rI s.1),(8,rI s.2.1)] [(0,.arr 0 3 (s.2.2.map (PD.int .i64))),(1,.var [rM al.pd d1])])) (fun o e R' B'=>e= .exit 0∧b8 prog 2 (A R' B') (aB.at_ 229 2 6)=some (A [(0,.ref 0 0),(1,rI a0),(2,.clo 150 [.ptr 1 0]),(6,rI 20),(7,rI o.1)] [(0,.arr 0 3 (o.2.map (PD.int .i64))),(1,.var [rM al.pd d1])])) rfl ?_ ?_))
 ·rintro⟨s1,s2,s3⟩ R' B' q6 hI h
  refine qS<|gS rfl hI<|sM rfl<|sM rfl<|sF h (fun h=>?_) fun h=>?_
  ·refine sN<|cT<|qK<|qB<|gS rfl rfl<|sM rfl<|sM rfl<|sM rfl<|sM rfl<|bE h fun x8 hx8 h=>cR (.tup []) [(0,.arr 0 3 (x8.map (PD.int .i64))),(1,.var [rM al.pd d1])] (d8 hx8)<|sN<|gS rfl rfl<|sM rfl<|sA rfl ?_
   refine sN<|WC.region rfl rfl<|sM rfl<|sM rfl<|sV (rI (rW (s2+(20:Int))))<|sA rfl<|sN ?_
   cases oI h
   exact⟨rfl,rfl⟩
  refine sN<|cF<|qX ?_
  cases oI h
  exact⟨nofun,rfl,rfl⟩
 intro e R' B' he hq
 obtain⟨rfl,hI⟩:=hq
 refine qE<|gS rfl hI<|sM rfl<|sM rfl<|sM rfl<|sM rfl<|bE h fun x11 hx11 h=>cR (.tup []) [(0,.arr 0 3 (x11.map (PD.int .i64))),(1,.var [rM al.pd d1])] (d8 hx11)<|sN<|bE h fun o23 ho23 h=>?_
 cases oI h
 refine WC.block (WC.loop (WL.vd ho23 (fun s R' B'=>b8 prog 2 (A R' B') (aB.at_ 229 2 7)=some (A [(0,.ref 0 0),(1,rI a0),(2,.clo 150 [.ptr 1 0]),(6,rI s)] [(0,.arr 0 3 (x11.map (PD.int .i64))),(1,.var [rM al.pd d1])])) rfl ?_))
 rintro s12 R' B' q13 hI h
 refine qS<|gS rfl hI<|sM rfl<|sM rfl<|sF h (fun h=>?_) fun h=>?_
 ·refine sN<|cT<|qK<|qB<|gS rfl rfl<|sM rfl<|sV (rI (rW ((2:Int)*s12)))<|sV (r0)<|sA rfl<|sN<|qS<|bE h fun o19 ho19 h=>WC.block (WC.loop (WL.gE ho19 (fun s R' B'=>b8 prog 2 (A R' B') (aB.at_ 229 2 9)=some (A [(0,.ref 0 0),(1,rI a0),(2,.clo 150 [.ptr 1 0]),(6,rI s12),(7,r0),(8,rI (rW ((2:Int)*s12)))] [(0,.arr 0 3 (x11.map (PD.int .i64))),(1,.var [rM al.pd d1])])) (fun o e R' B'=>e= .exit 4∧b8 prog 2 (A R' B') (aB.at_ 229 2 13)=some (A [(0,.ref 0 0),(1,rI a0),(2,.clo 150 [.ptr 1 0]),(6,rI o),(7,r0)] [(0,.arr 0 3 (x11.map (PD.int .i64))),(1,.var [rM al.pd d1])])) rfl ?_ ?_))
  ·rintro⟨⟩ R' B' q16 hI h
   refine qS<|gS rfl hI<|sM rfl<|sM rfl<|sF h (fun h=>?_) fun h=>?_
   ·refine sN<|cT<|qK<|qB<|gS rfl rfl<|sM rfl<|sM rfl<|sM rfl<|sM rfl<|sV (rI (rW ((0:Int)+s12)))<|sM rfl<|sM rfl ?_
    cases h
   refine sN<|cF<|qX ?_
   cases oI h
   exact⟨nofun,rfl,rfl⟩
  intro e R' B' he hq
  obtain⟨rfl,hI⟩:=hq
  refine qE<|qS<|gS rfl hI<|sM rfl<|sM rfl<|sV (rI (rW ((0:Int)+o19)))<|sA rfl<|sN<|gS rfl rfl<|sM rfl<|sM rfl<|sF h (fun h=>?_) fun h=>?_
  ·refine sN<|cT<|WC.region rfl rfl<|sM rfl<|sM rfl<|sM rfl<|sM rfl<|sM rfl ?_
   cases h
  refine sN<|cF<|qK<|WC.region rfl rfl<|sM rfl<|sV (rI (rW (o19*(2:Int))))<|sA rfl<|sN ?_
  cases oI h
  exact⟨rfl,rfl⟩
 refine sN<|cF<|qX<|tO h (fun z21 hkz21 hz=>?_)
 obtain rfl:=Option.some.inj hz
 refine⟨(fun he=>by cases he),fun hz2=>?_⟩
 subst hz2
 have h:=hkz21
 refine qE ?_
 exact oI h▸qD
theorem kG{d0:(List Int)}{d1:(List al)}{r:(List Int)}(h:df d0 d1=some r):EvP prog aB ext 149 [.ref 0 0,.clo 150 [.ptr 1 0]] [.arr 0 3 (d0.map (PD.int .i64)),.var [rM al.pd d1]] (.tup [],[.arr 0 3 (r.map (PD.int .i64)),.var [rM al.pd d1]]):=by
 refine Ev.body rfl Tryz.func149 rfl (by kernel_rfl)<|WC.region rfl rfl<|sM rfl<|sM rfl<|WO.uT rfl rfl rfl rfl rfl rfl rfl rfl rfl<|sM rfl<|bE h fun x1 hx1 h=>cR (.tup []) [(0,.arr 0 3 (x1.map (PD.int .i64))),(1,.var [rM al.pd d1])] (lc hx1)<|sN ?_
 exact oI h▸qD
theorem mS{a0:(List al)}{r:(List Int)}(h:ij a0=some r):EvP prog aB ext 78 [rM al.pd a0] [] (rL r,[]):=by
 refine Ev.body rfl Tryz.func78 rfl (by kernel_rfl)<|gS rfl rfl<|sB (.ptr 16 0) 16 (.var [rM al.pd a0])<|sV .dg<|sN<|gS rfl rfl<|sL rfl<|sE (rI (a0.length:Int)) (fB _ _)<|bE h fun x1 hx1 h=>WO.mkS (g:=(PD.int .i64)) hx1 rfl rfl rfl rfl rfl rfl rfl rfl rfl rfl rfl<|sA rfl<|sN<|qS<|gS rfl rfl<|sM rfl ?_
 refine WO.uT rfl rfl rfl rfl rfl rfl rfl rfl rfl<|sV (r0)<|sN<|bE h fun o11 ho11 h=>WC.block (WC.loop (WL.gE ho11 (fun s R' B'=>b8 prog 0 (A R' B') (aB.at_ 78 0 3)=some (A [(1,.ptr 16 0),(3,.ref 112 0),(9,rI (x1.length:Int)),(10,rI s.1)] [(16,.var [rM al.pd a0]),(112,.arr 0 3 (s.2.map (PD.int .i64)))])) (fun o e R' B'=>e= .exit 0∧b8 prog 0 (A R' B') (aB.at_ 78 0 7)=some (A [(1,.ptr 16 0),(3,.ref 112 0)] [(16,.var [rM al.pd a0]),(112,.arr 0 3 (o.map (PD.int .i64)))])) rfl ?_ ?_))
 ·rintro⟨s2,s3⟩ R' B' q5 hI h
  refine gS rfl hI<|sF h (fun h=>?_) fun h=>?_
  ·refine sN<|qS<|cT<|qK<|qS<|qB<|gS rfl rfl<|sM rfl<|sA rfl<|sN<|WC.region rfl rfl<|sM rfl<|sM rfl<|sM rfl<|bE h fun x8 hx8 h=>?_
   refine WO.p8 hx8 rfl rfl rfl rfl rfl rfl rfl rfl<|bE h fun x9 hx9 h=>WO.ss (g:=(PD.int .i64)) (sz:=1) (p:= .int .i64 s2) hx9 (fun _=>rfl) (fun _=>rfl) rfl rfl rfl rfl rfl rfl rfl rfl rfl<|sN<|WC.region rfl rfl<|sV (rI (rW (s2+(1:Int))))<|sM rfl<|sN ?_
   cases oI h
   exact⟨rfl,rfl⟩
  refine sN<|qS<|cF<|qX ?_
  cases oI h
  exact⟨nofun,rfl,rfl⟩
 intro e R' B' he hq
 obtain⟨rfl,hI⟩:=hq
 refine qE<|gS rfl hI<|sM rfl<|sV (.clo 150 [.ptr 16 0])<|bE h fun x12 hx12 h=>cR (.tup []) [(112,.arr 0 3 (x12.map (PD.int .i64))),(16,.var [rM al.pd a0])] (kG hx12)<|sN<|gS rfl rfl<|sM rfl<|sA rfl<|sN<|qR ?_
 exact oI h▸qD
theorem pj{a0:Int}{r:bz}(h:gM a0=some r):EvP prog aB ext 127 [rI a0] [] (.agg [.ref 0 0,.ref 1 0],[.arr 0 3 (r.nZ.map (PD.int .i64)),.arr 0 3 (r.fback.map (PD.int .i64))]):=by
 refine Ev.body rfl Tryz.func127 rfl (by kernel_rfl)<|gS rfl rfl<|sB (.ptr 32 0) 32 (.var [.dg,.dg])<|sN<|WC.cI rfl rfl<|sM rfl<|sV (rI (rW (a0+(1:Int))))<|bE h fun x1 hx1 h=>WO.mkS (g:=(PD.int .i64)) hx1 rfl rfl rfl rfl rfl rfl rfl rfl rfl rfl rfl<|sM rfl<|sV (rI (rW (a0+(1:Int))))<|bE h fun x2 hx2 h=>WO.mkS (g:=(PD.int .i64)) hx2 rfl rfl rfl rfl rfl rfl rfl rfl rfl rfl rfl<|sV (.agg [.ref 112 0,.ref 160 0])<|sB (.ptr 48 0) 48 (.var [.dg,.dg]) ?_
 refine sS 48 (.var [.ref 112 0,.ref 160 0]) ?_
 refine sN<|sO<|qS<|gS rfl rfl<|sM rfl<|sV (rI (rW (a0+(1:Int))))<|sV (r0)<|sN<|bE h fun o19 ho19 h=>WC.block (WC.loop (WL.gE ho19 (fun s R' B'=>b8 prog 0 (A R' B') (aB.at_ 127 0 3)=some (A [(0,rI a0),(2,.ptr 32 0),(3,.ptr 48 0),(13,rI (rW (a0+(1:Int)))),(14,rI s.1)] [(32,.var [.dg,.dg]),(48,.var [.ref 112 0,.ref 160 0]),(112,.arr 0 3 (s.2.1.map (PD.int .i64))),(160,.arr 0 3 (s.2.2.map (PD.int .i64)))])) (fun o e R' B'=>e= .exit 0∧b8 prog 0 (A R' B') (aB.at_ 127 0 7)=some (A [(2,.ptr 32 0),(3,.ptr 48 0)] [(32,.var [.dg,.dg]),(48,.var [.ref 112 0,.ref 160 0]),(112,.arr 0 3 (o.1.map (PD.int .i64))),(160,.arr 0 3 (o.2.map (PD.int .i64)))])) rfl ?_ ?_))
 ·rintro⟨s3,s4,s5⟩ R' B' q8 hI h
  refine gS rfl hI<|sF h (fun h=>?_) fun h=>?_
  ·refine sN<|qS<|cT<|qK<|qS<|qB<|gS rfl rfl<|sM rfl<|sA rfl<|sN<|WC.oi rfl rfl<|sV (.ptr 48 0)<|sL rfl<|sM rfl<|sV (.ptr 48 1) ?_
   refine sL rfl<|sM rfl<|sV (rI (rW (s3+(1:Int))))<|sM rfl<|sV (rI (rW (a0+(1:Int))))<|bE h fun x10 hx10 h=>WO.remG hx10 rfl rfl rfl rfl rfl rfl<|sM rfl<|sV (rI (rW (s3+(1:Int))))<|sM rfl<|sV (rI (rW (a0+(1:Int))))<|bE h fun x11 hx11 h=>WO.remG hx11 rfl rfl rfl rfl rfl rfl<|sM rfl<|bE h fun x13 hx13 h=>?_
   refine WO.p8 hx13 rfl rfl rfl rfl rfl rfl rfl rfl<|bE h fun x14 hx14 h=>WO.ss (g:=(PD.int .i64)) (sz:=1) (p:= .int .i64 x11) hx14 (fun _=>rfl) (fun _=>rfl) rfl rfl rfl rfl rfl rfl rfl rfl rfl<|bE h fun x16 hx16 h=>WO.p8 hx16 rfl rfl rfl rfl rfl rfl rfl rfl<|bE h fun x17 hx17 h=>WO.ss (g:=(PD.int .i64)) (sz:=1) (p:= .int .i64 s3) hx17 (fun _=>rfl) (fun _=>rfl) rfl rfl rfl rfl rfl rfl rfl rfl rfl ?_
   refine sN<|sO<|WC.region rfl rfl<|sV (rI (rW (s3+(1:Int))))<|sM rfl<|sN ?_
   cases oI h
   exact⟨rfl,rfl⟩
  refine sN<|qS<|cF<|qX ?_
  cases oI h
  exact⟨nofun,rfl,rfl⟩
 intro e R' B' he hq
 obtain⟨rfl,hI⟩:=hq
 refine qE<|gS rfl hI<|sV (.agg [.ref 112 0,.ref 160 0])<|sS 32 (.var [.ref 112 0,.ref 160 0])<|sN<|qR ?_
 exact oI h▸qD
theorem jr{a0:bz}{r:Int}(h:jq a0=some r):EvP prog aB ext 128 [.d (bz.pd a0)] [] (rI r,[]):=by
 refine Ev.body rfl Tryz.func128 rfl (by kernel_rfl)<|gS rfl rfl<|sB (.ptr 16 0) 16 (.var (bz.rc a0))<|sV (r0)<|sN<|gS rfl rfl<|sV (.ptr 16 0)<|sL rfl<|sE (rI (a0.nZ.length:Int)) (fB _ _)<|sV (rI (rW ((a0.nZ.length:Int)-(1:Int))))<|sA rfl<|sN<|qR ?_
 exact oI h▸qD
theorem chain_windowq_ev{a1:aJ}{a2:(List al)}{a3:(List Int)}{d0:(List Int)}{d1:(List Int)}{r:(List Int)×(List Int)×(List Int)}(h:lO a1 a2 a3 d0 d1=some r):EvP prog aB ext 129 [.agg [.ref 0 0,.ref 1 0],.d (aJ.pd a1),rM al.pd a2,rL a3] [.arr 0 3 (d0.map (PD.int .i64)),.arr 0 3 (d1.map (PD.int .i64))] (rL r.1,[.arr 0 3 (r.2.1.map (PD.int .i64)),.arr 0 3 (r.2.2.map (PD.int .i64))]):=by
 refine Ev.body rfl Tryz.func129 rfl (by kernel_rfl)<|gS rfl rfl<|sB (.ptr 64 0) 64 (.var [.ref 0 0,.ref 1 0])<|sB (.ptr 80 0) 80 (.var (aJ.rc a1))<|sV .dg<|sN<|gS rfl rfl<|sV .dg<|sN<|WC.cI rfl rfl<|sV (.ptr 64 0)<|sL rfl<|sV (.agg [.ref 0 0,.ref 1 0])<|bE h fun x1 hx1 h=>cR (rI x1) [ ] (jr hx1) ?_
 refine bE h fun x3 hx3 h=>WO.p8 hx3 rfl rfl rfl rfl rfl rfl rfl rfl<|bE h fun x4 hx4 h=>WO.pJ hx4 rfl rfl rfl rfl rfl rfl<|sA rfl ?_
 refine sN<|sO<|qS<|gS rfl rfl<|sM rfl<|sA rfl<|sN<|bE h fun o22 ho22 h=>WC.block (WC.loop (WL.gE ho22 (fun s R' B'=>b8 prog 2 (A R' B') (aB.at_ 129 2 4)=some (A [(2,rM al.pd a2),(3,rL a3),(4,.ptr 64 0),(5,.ptr 80 0),(9,.ref 928 0),(10,rI x4),(11,rI s.1)] [(0,.arr 0 3 (d0.map (PD.int .i64))),(1,.arr 0 3 (d1.map (PD.int .i64))),(64,.var [.ref 0 0,.ref 1 0]),(80,.var (aJ.rc a1)),(928,.arr 0 3 (s.2.map (PD.int .i64)))])) (fun o e R' B'=>e= .exit 0∧b8 prog 2 (A R' B') (aB.at_ 129 2 7)=some (A [(9,.ref 928 0)] [(0,.arr 0 3 (d0.map (PD.int .i64))),(1,.arr 0 3 (d1.map (PD.int .i64))),(928,.arr 0 3 (o.map (PD.int .i64)))])) rfl ?_ ?_))
 ·rintro⟨s5,s6⟩ R' B' q8 hI h
  unfold cA at h
  refine qS<|WC.cI hI rfl<|sM rfl<|sV (.agg [.ref 0 0,.ref 1 0])<|bE h fun x9 hx9 h=>cR (rI x9) [ ] (jr hx9)<|sF h (fun h=>?_) fun h=>?_
  ·refine sM rfl<|sM rfl<|WO.uT rfl rfl rfl rfl rfl rfl rfl rfl rfl<|sV (rB (decide ((s6.length:Int)<(16:Int))))<|sF h (fun h=>?_) fun h=>?_
   ·refine sM rfl<|sM rfl<|sM rfl<|sM rfl<|bE h fun x12 hx12 h=>eG hx12 rfl<|sC rfl<|bE h fun x13 hx13 h=>eG hx13 rfl<|sV (.cptr [.int .i64 x13.aP,.int .i64 x13.bh,.int .i64 x13.bH])<|sC rfl<|sM rfl<|sM rfl<|sM rfl<|bE h fun x14 hx14 h=>?_
    refine eG hx14 rfl<|sC rfl<|bE h fun x15 hx15 h=>eG hx15 rfl<|sV (.cptr [.int .i64 x15.aP,.int .i64 x15.bh,.int .i64 x15.bH])<|sC rfl<|sV (rI (rW (x13.aP-x15.aP)))<|sV (.ptr 80 11)<|sL rfl<|sV (rB (decide ((rW (x13.aP-x15.aP))<=a1.dx)))<|sF h (fun h=>?_) fun h=>?_
    ·refine sN<|sO<|cT<|qK<|qS<|qB<|WC.region rfl rfl<|sM rfl<|sM rfl<|sV (.d (.lst ([s5].map (PD.int .i64))))<|bE h fun x17 hx17 h=>aR hx17 (fun _=>rfl) rfl<|sA rfl<|sN<|WC.region rfl rfl<|sV (.ptr 64 0) ?_
     refine sL rfl<|sM rfl<|bE h fun x19 hx19 h=>WO.p8 hx19 rfl rfl rfl rfl rfl rfl rfl rfl<|bE h fun x20 hx20 h=>WO.pJ hx20 rfl rfl rfl rfl rfl rfl<|sA rfl<|sN ?_
     cases oI h
     exact⟨rfl,rfl⟩
    refine sN<|sO<|cF<|qX ?_
    cases oI h
    exact⟨nofun,rfl,rfl⟩
   refine sM rfl<|k3<|k3<|k3<|k3<|sK<|sK ?_
   refine k3<|k3<|sU ?_
   refine sN<|sO<|cF<|qX ?_
   cases oI h
   exact⟨nofun,rfl,rfl⟩
  refine sM rfl<|k3<|sU<|sM rfl<|k3<|k3<|sK<|sK<|sK ?_
  refine k3<|k3<|k3<|sK<|sK<|sU ?_
  refine sN<|sO<|cF<|qX ?_
  cases oI h
  exact⟨nofun,rfl,rfl⟩
 intro e R' B' he hq
 obtain⟨rfl,hI⟩:=hq
 refine qE<|gS rfl hI<|sM rfl<|sA rfl<|sN<|qR ?_
 exact oI h▸qD
theorem lT{a0:aJ}{a1:(List al)}{r:ah}(h:eE a0 a1=some r):EvP prog aB ext 130 [.d (aJ.pd a0),rM al.pd a1] [] (.d (ah.pd r),[]):=by
 refine Ev.body rfl Tryz.func130 rfl (by kernel_rfl)<|gS rfl rfl<|sB (.ptr 32 0) 32 (.var (aJ.rc a0))<|sB (.ptr 64 0) 64 (.var [r0,r0,r0,r0,r0,r0,r0,.dg,.dg,.dg,r0])<|sN<|gS rfl rfl<|sV (.ptr 32 0)<|sV (.d (ai.pd a0.aN))<|sV (.ptr 32 6)<|sV (.d (aF.pd a0.bi))<|sM rfl<|sV (.ptr 32 9)<|sL rfl<|sG (.d (ah.pd (ah.mk a0.aN a0.bi a1 a0.cJ)))<|sH 64 (.var (ai.rc a0.aN++aF.rc a0.bi++[rM al.pd a1,rI a0.cJ])) ?_
 refine sN<|qR ?_
 cases oI h
 exact qG
theorem m8{a0:ah}{r:Int}(h:ip a0=some r):EvP prog aB ext 120 [.d (ah.pd a0)] [] (rI r,[]):=by
 refine Ev.body rfl Tryz.func120 rfl (by kernel_rfl)<|gS rfl rfl<|sB (.ptr 16 0) 16 (.var (ah.rc a0))<|sV (r0)<|sN<|qS<|gS rfl rfl<|sV (.ptr 16 0)<|sV (.d (ai.pd a0.aN))<|bE h fun x1 hx1 h=>cD (bJ hx1)<|sF h (fun h=>?_) fun h=>?_
 ·refine sN<|cT<|gS rfl rfl<|sV (rI 20)<|sN<|qR ?_
  cases oI h
  exact qG
 refine sN<|cF<|qK<|qS<|gS rfl rfl<|sV (.ptr 16 6)<|sV (.d (aF.pd a0.bi))<|bE h fun x3 hx3 h=>cD (d7 hx3)<|sA rfl<|sN<|gS rfl rfl<|sM rfl<|sF h (fun h=>?_) fun h=>?_
 ·refine sN<|cT<|gS rfl rfl<|sM rfl<|sA rfl<|sN<|qR ?_
  cases oI h
  exact qG
 refine sN<|cF<|qK<|qS<|gS rfl rfl<|sV (.ptr 16 9)<|sL rfl<|sE (rI (a0.bc.length:Int)) (fB _ _)<|sA rfl<|sN<|qB<|gS rfl rfl<|sM rfl<|sF h (fun h=>?_) fun h=>?_
 ·refine sA rfl<|sN<|cT<|gS rfl rfl<|sV (rI 24)<|sN<|qR ?_
  cases oI h
  exact qG
 refine sA rfl<|sN<|cF<|gS rfl rfl<|sM rfl<|sF h (fun h=>?_) fun h=>?_
 ·refine sA rfl<|sN<|cT<|gS rfl rfl<|sV (rI 8)<|sN<|qR ?_
  cases oI h
  exact qG
 refine sA rfl<|sN<|cF<|gS rfl rfl<|sV (.ptr 16 10)<|sL rfl<|sF h (fun h=>?_) fun h=>?_
 ·refine sM rfl<|k3<|sT<|sA rfl<|sN<|cT<|gS rfl rfl<|sV (rI 2)<|sN<|qR ?_
  cases oI h
  exact qG
 refine sM rfl<|sV (.ptr 16 10)<|sL rfl<|sV (rB (decide (a0.cJ>(1099511627776:Int))))<|sF h (fun h=>?_) fun h=>?_
 ·refine sA rfl<|sN<|cT<|gS rfl rfl<|sV (rI 2)<|sN<|qR ?_
  cases oI h
  exact qG
 refine sA rfl<|sN<|cF<|qK<|qS<|gS rfl rfl<|sV (.ptr 16 9)<|sL rfl<|sE (rI (a0.bc.length:Int)) (fB _ _)<|sV (r0)<|sN<|bE h fun o16 ho16 h=>WC.block (WC.loop (WL.gE ho16 (fun s R' B'=>b8 prog 0 (A R' B') (aB.at_ 120 0 14)=some (A [(1,.ptr 16 0),(38,rM al.pd a0.bc),(39,rI (a0.bc.length:Int)),(40,rI s)] [(16,.var (ah.rc a0))])) (fun o e R' B'=>match o with| .inl y=>e= .exit 1∧b8 prog 0 (A R' B') (aB.at_ 120 0 20)=some (A [] [])| .inr r=>e= .ret∧finish prog (aB.own 120) Tryz.f120 0 (A R' B')=some (rI r,[])) rfl ?_ ?_))
 ·rintro s9 R' B' q10 hI h
  refine gS rfl hI<|sF h (fun h=>?_) fun h=>?_
  ·refine sN<|qS<|cT<|qK<|qS<|qB<|gS rfl rfl<|bE h fun x12 hx12 h=>eG hx12 rfl<|sV (.d (al.pd x12))<|sB (.ptr 96 0) 96 (.var zZ5)<|sH 96 (.var (al.rc x12))<|sN<|gS rfl rfl<|sV (.ptr 16 6) ?_
   refine sV (.d (aF.pd a0.bi))<|sV (.ptr 16 0)<|sV (.d (ai.pd a0.aN))<|sV (.d (al.pd x12))<|bE h fun x13 hx13 h=>cR (.tup [.d (aL.pd x13.1),rI x13.2]) [] (lN hx13)<|sM rfl<|sV (.d (aL.pd x13.1))<|sV (rI x13.2)<|sB (.ptr 112 0) 112 (.var [r0,r0])<|sS 112 (.var [rI x13.1.bB,rI x13.1.fTo])<|sA rfl<|sN<|gS rfl rfl<|sM rfl ?_
   refine sF h (fun h=>?_) fun h=>?_
   ·refine sN<|cT<|gS rfl rfl<|sM rfl<|sA rfl<|sN<|qR ?_
    cases oI h
    exact⟨nofun,rfl,rfl⟩
   refine sN<|cF<|qK<|WC.region rfl rfl<|sV (rI (rW (s9+(1:Int))))<|sM rfl<|sN ?_
   cases oI h
   exact⟨rfl,rfl⟩
  refine sN<|qS<|cF<|qX ?_
  cases oI h
  exact⟨nofun,rfl,rfl⟩
 intro e R' B' he hq
 rcases o16 with y17|r18
 ·obtain⟨rfl,hI⟩:=hq
  refine qE<|gS rfl hI<|sV (r0)<|sN<|qR ?_
  exact oI h▸qD
 obtain⟨rfl,hf⟩:=hq
 cases oI h
 exact hf
theorem lW{a0:ai}{a1:aa}{r:Bool}(h:fI a0 a1=some r):EvP prog aB ext 201 [.d (ai.pd a0),.d (aa.pd a1)] [] (rB r,[]):=by
 refine Ev.body rfl Tryz.func201 rfl (by kernel_rfl)<|gS rfl rfl<|sB (.ptr 32 0) 32 (.var (ai.rc a0))<|sB (.ptr 48 0) 48 (.var (aa.rc a1))<|sU<|sN<|gS rfl rfl<|sV (.d (ai.pd a0))<|bE h fun x1 hx1 h=>nX h (fun hb2 h=>?_) (fun hb2 h=>?_)
 ·refine WO.qA (v:=rB true) (u:=[]) rfl rfl (fun _=>rfl) rfl rfl rfl rfl rfl (bJ hx1) rfl rfl (congrArg (fun b=>RV.d (.bool b)) hb2) rfl<|sM rfl<|sV (.d (aa.pd a1))<|bE h fun x3 hx3 h=>cD (dj hx3)<|sF h (fun h=>?_) fun h=>?_
  ·refine sM rfl<|sV (.d (ai.pd a0))<|sV (.d (aa.pd a1))<|bE h fun x5 hx5 h=>cD (lu hx5)<|sV (rB (x5==(0:Int)))<|sV (rB (x5==(0:Int)))<|sA rfl<|sN<|qR ?_
   exact oI h▸qD
  refine sM rfl<|k3<|sK<|sU<|sA rfl<|sN<|qR ?_
  exact oI h▸qD
 refine WO.qA (v:=rB false) (u:=[]) rfl rfl (fun _=>rfl) rfl rfl rfl rfl rfl (bJ hx1) rfl rfl (congrArg (fun b=>RV.d (.bool b)) hb2) rfl<|sM rfl<|sK<|sK<|sU<|sM rfl<|k3<|sK<|sU<|sA rfl<|sN<|qR ?_
 exact oI h▸qD
theorem rj{a0:ai}{a1:ai}{r:Bool}(h:jX a0 a1=some r):EvP prog aB ext 121 [.d (ai.pd a0),.d (ai.pd a1)] [] (rB r,[]):=by
 refine Ev.body rfl Tryz.func121 rfl (by kernel_rfl)<|gS rfl rfl<|sB (.ptr 32 0) 32 (.var (ai.rc a0))<|sB (.ptr 48 0) 48 (.var (ai.rc a1))<|sU<|sN<|gS rfl rfl<|sV (.d (ai.pd a0))<|bE h fun x1 hx1 h=>nX h (fun hb2 h=>?_) (fun hb2 h=>?_)
 ·refine WO.qA (v:=rB true) (u:=[]) rfl rfl (fun _=>rfl) rfl rfl rfl rfl rfl (bJ hx1) rfl rfl (congrArg (fun b=>RV.d (.bool b)) hb2) rfl<|sM rfl<|sV (.d (ai.pd a1))<|sV (.ptr 32 0)<|sV (.d (aa.pd a0.aK))<|bE h fun x3 hx3 h=>cD (lW hx3)<|sF h (fun h=>?_) fun h=>?_
  ·refine sM rfl<|sV (.d (ai.pd a1))<|sV (.ptr 32 3)<|sV (.d (aa.pd a0.aG))<|bE h fun x5 hx5 h=>cD (lW hx5)<|sV (rB x5)<|sA rfl<|sN<|qR ?_
   exact oI h▸qD
  refine sM rfl<|k3<|sK<|sU<|sA rfl<|sN<|qR ?_
  exact oI h▸qD
 refine WO.qA (v:=rB false) (u:=[]) rfl rfl (fun _=>rfl) rfl rfl rfl rfl rfl (bJ hx1) rfl rfl (congrArg (fun b=>RV.d (.bool b)) hb2) rfl<|sM rfl<|k3<|sK<|sU<|sM rfl<|k3<|sK<|sU<|sA rfl<|sN ?_
 refine qR ?_
 exact oI h▸qD
theorem misfit_zones_ev{a0:ah}{a1:ai}{r:(List aL)×Int}(h:mG a0 a1=some r):EvP prog aB ext 122 [.d (ah.pd a0),.d (ai.pd a1)] [] (.tup [rM aL.pd r.1,rI r.2],[]):=by
 refine Ev.body rfl Tryz.func122 rfl (by kernel_rfl)<|gS rfl rfl<|sB (.ptr 32 0) 32 (.var (ah.rc a0))<|sB (.ptr 48 0) 48 (.var (ai.rc a1))<|sV .dg<|sV (r0)<|sN<|gS rfl rfl<|sV (.ptr 32 9)<|sL rfl<|sE (rI (a0.bc.length:Int)) (fB _ _)<|bE h fun x1 hx1 h=>WO.mkC (g:=aL.pd) hx1 rfl rfl rfl rfl rfl rfl rfl rfl rfl rfl rfl<|sA rfl<|sN ?_
 refine qS<|gS rfl rfl<|sV (.ptr 32 9)<|sL rfl<|sE (rI (a0.bc.length:Int)) (fB _ _)<|sV (r0)<|sN<|bE h fun o12 ho12 h=>WC.block (WC.loop (WL.gE ho12 (fun s R' B'=>b8 prog 0 (A R' B') (aB.at_ 122 0 3)=some (A [(2,.ptr 32 0),(3,.ptr 48 0),(6,.ref 224 0),(16,rM al.pd a0.bc),(17,rI (a0.bc.length:Int)),(18,rI s.1)] [(32,.var (ah.rc a0)),(48,.var (ai.rc a1)),(224,.arr 0 206 (s.2.map aL.pd))])) (fun o e R' B'=>match o with| .inl y=>e= .exit 0∧b8 prog 0 (A R' B') (aB.at_ 122 0 10)=some (A [(6,.ref 224 0)] [(224,.arr 0 206 (y.map aL.pd))])| .inr r=>e= .ret∧finish prog (aB.own 122) Tryz.f122 0 (A R' B')=some (.tup [rM aL.pd r.1,rI r.2],[])) rfl ?_ ?_))
 ·rintro⟨s2,s3⟩ R' B' q5 hI h
  refine gS rfl hI<|sF h (fun h=>?_) fun h=>?_
  ·refine sN<|qS<|cT<|qK<|qS<|qB<|gS rfl rfl<|bE h fun x7 hx7 h=>eG hx7 rfl<|sV (.d (al.pd x7))<|sB (.ptr 128 0) 128 (.var zZ5)<|sH 128 (.var (al.rc x7))<|sN<|gS rfl rfl<|sV (.ptr 32 6) ?_
   refine sV (.d (aF.pd a0.bi))<|sV (.d (ai.pd a1))<|sV (.d (al.pd x7))<|bE h fun x8 hx8 h=>cR (.tup [.d (aL.pd x8.1),rI x8.2]) [] (lN hx8)<|sM rfl<|sV (.d (aL.pd x8.1))<|sV (rI x8.2)<|sB (.ptr 144 0) 144 (.var [r0,r0])<|sS 144 (.var [rI x8.1.bB,rI x8.1.fTo])<|sA rfl<|sN<|qS<|gS rfl rfl<|sM rfl ?_
   refine sF h (fun h=>?_) fun h=>?_
   ·refine sN<|cT<|gS rfl rfl<|sM rfl<|sV .dg<|sA rfl<|sN<|qR ?_
    cases oI h
    exact⟨nofun,rfl,rfl⟩
   refine sN<|cF<|qK<|WC.region rfl rfl<|sM rfl<|sV (.d (aL.pd x8.1))<|sV (.d (.lst ([x8.1].map aL.pd)))<|bE h fun x10 hx10 h=>aR hx10 (fun _=>rfl) rfl<|sA rfl<|sN<|WC.region rfl rfl<|sV (rI (rW (s2+(1:Int))))<|sM rfl<|sN ?_
   cases oI h
   exact⟨rfl,rfl⟩
  refine sN<|qS<|cF<|qX ?_
  cases oI h
  exact⟨nofun,rfl,rfl⟩
 intro e R' B' he hq
 rcases o12 with y13|r14
 ·obtain⟨rfl,hI⟩:=hq
  refine qE<|gS rfl hI<|sM rfl<|sA rfl<|sV (r0)<|sN<|qR ?_
  exact oI h▸qD
 obtain⟨rfl,hf⟩:=hq
 cases oI h
 exact hf
theorem mf{a0:ah}{a1:ai}{r:(List aL)×Int}(h:fQ a0 a1=some r):EvP prog aB ext 61 [.d (ah.pd a0),.d (ai.pd a1)] [] (.tup [rM aL.pd r.1,rI r.2],[]):=by
 refine Ev.body rfl Tryz.func61 rfl (by kernel_rfl)<|gS rfl rfl<|sB (.ptr 32 0) 32 (.var (ah.rc a0))<|sB (.ptr 48 0) 48 (.var (ai.rc a1))<|sV .dg<|sV (r0)<|sN<|qS<|gS rfl rfl<|sV (.d (ah.pd a0))<|bE h fun x1 hx1 h=>cD (m8 hx1)<|sA rfl<|sN<|gS rfl rfl ?_
 refine sM rfl<|sF h (fun h=>?_) fun h=>?_
 ·refine sN<|cT<|gS rfl rfl<|sM rfl<|sV .dg<|sA rfl<|sN<|qR ?_
  cases oI h
  exact qG
 refine sN<|cF<|qK<|qS<|gS rfl rfl<|sV (.d (ai.pd a1))<|sV (.ptr 32 0)<|sV (.d (ai.pd a0.aN))<|bE h fun x3 hx3 h=>cD (rj hx3)<|sF h (fun h=>?_) fun h=>?_
 ·refine sN<|cT<|gS rfl rfl<|sV .dg<|sV (rI 20)<|sN<|qR ?_
  cases oI h
  exact qG
 refine sN<|cF<|qK<|gS rfl rfl<|sV (.d (ah.pd a0))<|sV (.d (ai.pd a1))<|bE h fun x5 hx5 h=>cR (.tup [rM aL.pd x5.1,rI x5.2]) [] (misfit_zones_ev hx5)<|sV (rM aL.pd x5.1)<|sV (rI x5.2)<|sA rfl<|sA rfl<|sN<|qR ?_
 cases oI h
 exact qG
theorem m7{a0:aL}{a1:Int}{r:Int}(h:fA a0 a1=some r):EvP prog aB ext 202 [.d (aL.pd a0),rI a1] [] (rI r,[]):=by
 refine Ev.body rfl Tryz.func202 rfl (by kernel_rfl)<|gS rfl rfl<|sB (.ptr 32 0) 32 (.var [rI a0.bB,rI a0.fTo])<|sV (r0)<|sN<|gS rfl rfl<|sV (.ptr 32 0)<|sL rfl<|sM rfl<|sV (rI (rW (a0.bB-a1)))<|sM rfl<|sV (.ptr 32 1)<|sL rfl<|sV (rI (rW (a1-a0.fTo)))<|sV (rI (if(0:Int)>(if(rW (a1-a0.fTo))>(rW (a0.bB-a1))then(rW (a1-a0.fTo))else(rW (a0.bB-a1)))then(0:Int)else(if(rW (a1-a0.fTo))>(rW (a0.bB-a1))then(rW (a1-a0.fTo))else(rW (a0.bB-a1))))) ?_
 refine sA rfl<|sN<|qR ?_
 exact oI h▸qD
theorem pP{a0:ah}{a1:(List aL)}{a2:Int}{r:Int}(h:iY a0 a1 a2=some r):EvP prog aB ext 123 [.d (ah.pd a0),rM aL.pd a1,rI a2] [] (rI r,[]):=by
 refine Ev.body rfl Tryz.func123 rfl (by kernel_rfl)<|gS rfl rfl<|sB (.ptr 48 0) 48 (.var (ah.rc a0))<|sV (r0)<|sN<|gS rfl rfl<|sV (r0)<|sN<|qS<|gS rfl rfl<|sV (.ptr 48 9)<|sL rfl<|sE (rI (a0.bc.length:Int)) (fB _ _)<|sV (r0)<|sN ?_
 refine bE h fun o11 ho11 h=>WC.block (WC.loop (WL.gE ho11 (fun s R' B'=>b8 prog 0 (A R' B') (aB.at_ 123 0 3)=some (A [(1,rM aL.pd a1),(2,rI a2),(3,.ptr 48 0),(7,rI s.1),(11,rM al.pd a0.bc),(12,rI (a0.bc.length:Int)),(13,rI s.2)] [(48,.var (ah.rc a0))])) (fun o e R' B'=>e= .exit 0∧b8 prog 0 (A R' B') (aB.at_ 123 0 8)=some (A [(7,rI o)] [])) rfl ?_ ?_))
 ·rintro⟨s1,s2⟩ R' B' q4 hI h
  refine gS rfl hI<|sF h (fun h=>?_) fun h=>?_
  ·refine sN<|qS<|cT<|qK<|qS<|qB<|gS rfl rfl<|sM rfl<|bE h fun x6 hx6 h=>eG hx6 rfl<|sV (.d (al.pd x6))<|sB (.ptr 144 0) 144 (.var zZ5)<|sA rfl<|sH 144 (.var (al.rc x6))<|sN ?_
   refine gS rfl rfl<|sM rfl<|sM rfl<|sE (rI (a1.length:Int)) (fB _ _)<|sF h (fun h=>?_) fun h=>?_
   ·refine sN<|cT<|WC.oi rfl rfl<|sM rfl<|sV (.ptr 144 5)<|sL rfl<|sV (.ptr 48 10)<|sL rfl<|sM rfl<|sM rfl<|bE h fun x8 hx8 h=>eG hx8 rfl<|sV (.d (aL.pd x8))<|sM rfl<|bE h fun x9 hx9 h=>?_
    refine cD (m7 hx9)<|sV (rI (if x9<a0.cJ then x9 else a0.cJ))<|sV (rI (rW (x6.bH*(if x9<a0.cJ then x9 else a0.cJ))))<|sV (rI (rW (s1+(rW (x6.bH*(if x9<a0.cJ then x9 else a0.cJ))))))<|sA rfl ?_
    refine sN<|sO<|WC.region rfl rfl<|sV (rI (rW (s2+(1:Int))))<|sM rfl<|sN ?_
    cases oI h
    exact⟨rfl,rfl⟩
   refine sN<|cF<|qK<|WC.region rfl rfl<|sV (rI (rW (s2+(1:Int))))<|sM rfl<|sN ?_
   cases oI h
   exact⟨rfl,rfl⟩
  refine sN<|qS<|cF<|qX ?_
  cases oI h
  exact⟨nofun,rfl,rfl⟩
 intro e R' B' he hq
 obtain⟨rfl,hI⟩:=hq
 refine qE<|gS rfl hI<|sM rfl<|sA rfl<|sN<|qR ?_
 exact oI h▸qD
theorem pO{a0:ah}{a1:(List aL)}{r:Int×Int}(h:iX a0 a1=some r):EvP prog aB ext 62 [.d (ah.pd a0),rM aL.pd a1] [] (.tup [rI r.1,rI r.2],[]):=by
 refine Ev.body rfl Tryz.func62 rfl (by kernel_rfl)<|gS rfl rfl<|sB (.ptr 32 0) 32 (.var (ah.rc a0))<|sV (r0)<|sV (r0)<|sN<|gS rfl rfl<|sM rfl<|sE (rI (a1.length:Int)) (fB _ _)<|sV (rI (rW ((2:Int)*(a1.length:Int))))<|bE h fun x1 hx1 h=>WO.mkC (g:=(PD.int .i64)) hx1 rfl rfl rfl rfl rfl rfl rfl rfl rfl rfl rfl<|sA rfl<|sN<|qS ?_
 refine gS rfl rfl<|sM rfl<|sE (rI (a1.length:Int)) (fB _ _)<|sV (r0)<|sN<|bE h fun o10 ho10 h=>WC.block (WC.loop (WL.gE ho10 (fun s R' B'=>b8 prog 0 (A R' B') (aB.at_ 62 0 3)=some (A [(1,rM aL.pd a1),(2,.ptr 32 0),(6,.ref 272 0),(18,rM aL.pd a1),(19,rI (a1.length:Int)),(20,rI s.1)] [(32,.var (ah.rc a0)),(272,.arr 0 3 (s.2.map (PD.int .i64)))])) (fun o e R' B'=>e= .exit 0∧b8 prog 0 (A R' B') (aB.at_ 62 0 7)=some (A [(1,rM aL.pd a1),(2,.ptr 32 0),(6,.ref 272 0)] [(32,.var (ah.rc a0)),(272,.arr 0 3 (o.map (PD.int .i64)))])) rfl ?_ ?_))
 ·rintro⟨s2,s3⟩ R' B' q5 hI h
  refine gS rfl hI<|sF h (fun h=>?_) fun h=>?_
  ·refine sN<|qS<|cT<|qK<|qS<|qB<|gS rfl rfl<|bE h fun x7 hx7 h=>eG hx7 rfl<|sV (.d (aL.pd x7))<|sB (.ptr 128 0) 128 (.var [r0,r0])<|sS 128 (.var [rI x7.bB,rI x7.fTo])<|sN<|WC.region rfl rfl<|sM rfl ?_
   refine sV (.ptr 128 0)<|sL rfl<|sV (.ptr 128 1)<|sL rfl<|sV (.d (.lst ([x7.bB,x7.fTo].map (PD.int .i64))))<|bE h fun x8 hx8 h=>aR hx8 (fun _=>rfl) rfl<|sA rfl<|sN<|WC.region rfl rfl<|sV (rI (rW (s2+(1:Int))))<|sM rfl<|sN ?_
   cases oI h
   exact⟨rfl,rfl⟩
  refine sN<|qS<|cF<|qX ?_
  cases oI h
  exact⟨nofun,rfl,rfl⟩
 intro e R' B' he hq
 obtain⟨rfl,hI⟩:=hq
 refine qE<|qS<|gS rfl hI<|sM rfl<|WO.uT rfl rfl rfl rfl rfl rfl rfl rfl rfl<|sF h (fun h=>?_) fun h=>?_
 ·refine sN<|cT<|gS rfl rfl<|sV (r0)<|sV (r0)<|sN<|qR ?_
  cases oI h
  exact qG
 refine sN<|cF<|qK<|WC.cI rfl rfl<|sM rfl<|bE h fun x13 hx13 h=>WO.p8 hx13 rfl rfl rfl rfl rfl rfl rfl rfl<|bE h fun x14 hx14 h=>WO.pJ hx14 rfl rfl rfl rfl rfl rfl<|sV (.d (ah.pd a0))<|sM rfl<|sM rfl<|bE h fun x16 hx16 h=>WO.p8 hx16 rfl rfl rfl rfl rfl rfl rfl rfl<|bE h fun x17 hx17 h=>?_
 refine WO.pJ hx17 rfl rfl rfl rfl rfl rfl<|bE h fun x18 hx18 h=>cD (pP hx18)<|sA rfl<|sA rfl ?_
 refine sN<|sO<|qS<|gS rfl rfl<|sM rfl<|bE h fun x19 hx19 h=>WO.subR hx19 rfl rfl rfl rfl rfl rfl rfl rfl rfl rfl rfl rfl<|bE h fun x20 hx20 h=>WO.lenVw hx20 rfl rfl rfl rfl rfl rfl rfl rfl rfl<|sV (r0)<|sN<|bE h fun o35 ho35 h=>WC.block (WC.loop (WL.gE ho35 (fun s R' B'=>b8 prog 0 (A R' B') (aB.at_ 62 0 11)=some (A [(1,rM aL.pd a1),(2,.ptr 32 0),(9,rI s.1),(10,rI s.2.1),(45,.view 272 0 (0+(1:Int).toNat) (0+((o10.length:Int):Int).toNat)),(46,rI x20),(47,rI s.2.2)] [(32,.var (ah.rc a0)),(272,.arr 0 3 (o10.map (PD.int .i64)))])) (fun o e R' B'=>e= .exit 2∧b8 prog 0 (A R' B') (aB.at_ 62 0 17)=some (A [(9,rI o.1),(10,rI o.2)] [])) rfl ?_ ?_))
 ·rintro⟨s21,s22,s23⟩ R' B' q26 hI h
  refine gS rfl hI<|sF h (fun h=>?_) fun h=>?_
  ·refine sN<|qS<|cT<|qK<|qS<|qB<|gS rfl rfl<|bE h fun x28 hx28 h=>WO.eltV hx28 rfl rfl rfl rfl rfl rfl rfl rfl<|bE h fun x29 hx29 h=>WO.pJ hx29 rfl rfl rfl rfl rfl rfl<|sA rfl<|sN<|gS rfl rfl<|sV (.d (ah.pd a0)) ?_
   refine sM rfl<|sM rfl<|bE h fun x30 hx30 h=>cD (pP hx30)<|sA rfl<|sN<|gS rfl rfl<|sM rfl<|sM rfl<|sF h (fun h=>?_) fun h=>?_
   ·refine sM rfl<|k3<|k3<|sK<|sK<|sT<|sN<|cT<|WC.region rfl rfl<|sM rfl<|sM rfl ?_
    refine sA rfl<|sA rfl<|sN<|WC.region rfl rfl<|sV (rI (rW (s23+(1:Int))))<|sM rfl<|sN ?_
    cases oI h
    exact⟨rfl,rfl⟩
   refine sM rfl<|sM rfl<|sM rfl<|sF h (fun h=>?_) fun h=>?_
   ·refine sM rfl<|sM rfl<|sM rfl<|sV (rB (decide (x29<s21)))<|sV (rB (decide (x29<s21)))<|sF h (fun h=>?_) fun h=>?_
    ·refine sN<|cT<|WC.region rfl rfl<|sM rfl<|sM rfl<|sA rfl<|sA rfl<|sN<|WC.region rfl rfl<|sV (rI (rW (s23+(1:Int))))<|sM rfl<|sN ?_
     cases oI h
     exact⟨rfl,rfl⟩
    refine sN<|cF<|qK<|WC.region rfl rfl<|sV (rI (rW (s23+(1:Int))))<|sM rfl<|sN ?_
    cases oI h
    exact⟨rfl,rfl⟩
   refine sM rfl<|k3<|sU<|sU<|sN<|cF<|qK<|WC.region rfl rfl<|sV (rI (rW (s23+(1:Int))))<|sM rfl<|sN ?_
   cases oI h
   exact⟨rfl,rfl⟩
  refine sN<|qS<|cF<|qX ?_
  cases oI h
  exact⟨nofun,rfl,rfl⟩
 intro e R' B' he hq
 obtain⟨rfl,hI⟩:=hq
 refine qE<|gS rfl hI<|sM rfl<|sM rfl<|sA rfl<|sA rfl<|sN<|qR ?_
 exact oI h▸qD
theorem pe{a0:ah}{a1:ai}{r:Int×Int}(h:eX a0 a1=some r):EvP prog aB ext 267 [.d (ah.pd a0),.d (ai.pd a1)] [] (.tup [rI r.1,rI r.2],[]):=by
 refine Ev.body rfl Tryz.func267 rfl (by kernel_rfl)<|gS rfl rfl<|sB (.ptr 32 0) 32 (.var (ah.rc a0))<|sB (.ptr 48 0) 48 (.var (ai.rc a1))<|sV (r0)<|sV (r0)<|sN<|gS rfl rfl<|sV (.d (ah.pd a0))<|sV (.d (ai.pd a1))<|bE h fun x1 hx1 h=>cR (.tup [rM aL.pd x1.1,rI x1.2]) [] (mf hx1)<|sM rfl<|sV (rM aL.pd x1.1)<|sV (rI x1.2) ?_
 refine sA rfl<|sA rfl<|sN<|qS<|gS rfl rfl<|sM rfl<|sF h (fun h=>?_) fun h=>?_
 ·refine sN<|cT<|gS rfl rfl<|sM rfl<|sV (r0)<|sA rfl<|sN<|qR ?_
  cases oI h
  exact qG
 refine sN<|cF<|qK<|gS rfl rfl<|sV (.d (ah.pd a0))<|sM rfl<|bE h fun x3 hx3 h=>cR (.tup [rI x3.1,rI x3.2]) [] (pO hx3)<|sM rfl<|sV (rI x3.1)<|sV (rI x3.2)<|sA rfl<|sA rfl<|sN<|gS rfl rfl ?_
 refine sM rfl<|sA rfl<|sV (r0)<|sN<|qR ?_
 cases oI h
 exact qG
theorem queue_Push_ev{a0:av}{e1:ah}{e2:Int}{e3:Int}{e4:Bool}{e5:au}{r:(List av)}(h:oO a0 e1 e2 e3 e4 e5=some r):EvP prog aB ext 444 [.ptr 0 11,.ifc 194 (.d (av.pd a0))] [.var (ah.rc e1++ .dg::rI e2::rI e3::rB e4::au.rc e5)] (.tup [],[.var (ah.rc e1++ .ref 1 0::rI e2::rI e3::rB e4::au.rc e5),.arr 0 194 (r.map av.pd)]):=by
 refine Ev.body rfl Tryz.func444 rfl (by kernel_rfl)<|gS rfl rfl<|sM rfl<|sG (.tup [.d (av.pd a0),rB true])<|sM rfl<|sV (.d (av.pd a0))<|sT<|sB (.ptr 64 0) 64 (.var [r0,r0,r0,r0,r0,r0,r0,r0])<|sH 64 (.var (av.rc a0))<|sA rfl<|sN<|gS rfl rfl<|sM rfl<|sN<|cT ?_
 refine WC.oi rfl rfl<|sM rfl<|sM rfl<|sV (.ptr 0 11)<|sL rfl<|sV (.d (av.pd a0))<|sG (.d (.lst ([a0].map av.pd)))<|bE h fun x1 hx1 h=>WO.appN hx1 (fun _=>rfl) rfl rfl rfl rfl rfl rfl rfl rfl rfl rfl rfl rfl rfl rfl<|sV (.ptr 0 11)<|sS 0 (.var (ah.rc e1++ .ref 288 0::rI e2::rI e3::rB e4::au.rc e5)) ?_
 refine sN<|sO ?_
 cases oI h
 exact qG
theorem oN{a0:(List av)}{r:Int}(h:iD a0=some r):EvP prog aB ext 440 [rM av.pd a0] [] (rI r,[]):=by
 refine Ev.body rfl Tryz.func440 rfl (by kernel_rfl)<|gS rfl rfl<|sV (r0)<|sN<|gS rfl rfl<|sM rfl<|sE (rI (a0.length:Int)) (fB _ _)<|sA rfl<|sN<|qR ?_
 exact oI h▸qD
theorem nR{a0:(List av)}{a1:Int}{a2:Int}{r:Bool}(h:jb a0 a1 a2=some r):EvP prog aB ext 441 [rM av.pd a0,rI a1,rI a2] [] (rB r,[]):=by
 refine Ev.body rfl Tryz.func441 rfl (by kernel_rfl)<|gS rfl rfl<|sU<|sN<|WC.cI rfl rfl<|sM rfl<|sM rfl<|bE h fun x1 hx1 h=>eG hx1 rfl<|sV (.cptr [.int .i64 x1.cr,.int .i64 x1.gO])<|sC rfl<|sM rfl<|sM rfl<|bE h fun x2 hx2 h=>eG hx2 rfl ?_
 refine sV (.cptr [.int .i64 x2.cr,.int .i64 x2.gO])<|sC rfl<|bE h fun x3 hx3 h=>cD (bO hx3)<|sM rfl<|sM rfl<|bE h fun x4 hx4 h=>eG hx4 rfl<|sV (.cptr [.int .i64 x4.gO])<|sC rfl<|sM rfl<|sM rfl<|bE h fun x5 hx5 h=>eG hx5 rfl<|sV (.cptr [.int .i64 x5.gO]) ?_
 refine sC rfl<|bE h fun x6 hx6 h=>cD (bO hx6)<|sV (.d (.lst ([x3,x6].map (PD.int .i64))))<|bE h fun x7 hx7 h=>cD (iy hx7)<|sV (rB (decide (x7<(0:Int))))<|sA rfl ?_
 refine sN<|sO<|qR ?_
 exact oI h▸qD
theorem nS{a1:Int}{a2:Int}{d0:(List av)}{r:(List av)}(h:jc a1 a2 d0=some r):EvP prog aB ext 442 [.ref 0 0,rI a1,rI a2] [.arr 0 194 (d0.map av.pd)] (.tup [],[.arr 0 194 (r.map av.pd)]):=by
 refine Ev.body rfl Tryz.func442 rfl (by kernel_rfl)<|WC.oi rfl rfl<|sM rfl<|sM rfl<|sM rfl<|sM rfl<|sM rfl<|sM rfl<|bE h fun x2 hx2 h=>WO.p8 hx2 rfl rfl rfl rfl rfl rfl rfl rfl<|bE h fun x3 hx3 h=>WO.pJ hx3 rfl rfl rfl rfl rfl rfl<|sM rfl<|sM rfl<|bE h fun x5 hx5 h=>?_
 refine WO.p8 hx5 rfl rfl rfl rfl rfl rfl rfl rfl<|bE h fun x6 hx6 h=>WO.pJ hx6 rfl rfl rfl rfl rfl rfl<|bE h fun x8 hx8 h=>WO.p8 hx8 rfl rfl rfl rfl rfl rfl rfl rfl<|bE h fun x9 hx9 h=>WO.ss (g:=av.pd) (sz:=8) (p:=av.pd x3) hx9 (by intro _;kernel_rfl) (by intro _;kernel_rfl) rfl rfl rfl rfl rfl rfl rfl rfl rfl<|bE h fun x11 hx11 h=>WO.p8 hx11 rfl rfl rfl rfl rfl rfl rfl rfl<|bE h fun x12 hx12 h=>WO.ss (g:=av.pd) (sz:=8) (p:=av.pd x6) hx12 (by intro _;kernel_rfl) (by intro _;kernel_rfl) rfl rfl rfl rfl rfl rfl rfl rfl rfl ?_
 refine sN<|sO ?_
 exact oI h▸qD
theorem heap_up_ev{a0:Int}{e1:ah}{e2:Int}{e3:Int}{e4:Bool}{e5:au}{d1:(List av)}{r:(List av)}(h:oG a0 e1 e2 e3 e4 e5 d1=some r):EvP prog aB ext 330 [.ifc 309 (.ptr 0 11),rI a0] [.var (ah.rc e1++ .ref 1 0::rI e2::rI e3::rB e4::au.rc e5),.arr 0 194 (d1.map av.pd)] (.tup [],[.var (ah.rc e1++ .ref 1 0::rI e2::rI e3::rB e4::au.rc e5),.arr 0 194 (r.map av.pd)]):=by
 refine Ev.body rfl Tryz.func330 rfl (by kernel_rfl)<|bE h fun o12 ho12 h=>?_
 cases oI h
 refine WC.block (WC.loop (WL.vd ho12 (fun s R' B'=>b8 prog 2 (A R' B') (aB.at_ 330 2 0)=some (A [(0,.ifc 309 (.ptr 0 11)),(1,rI s.1)] [(0,.var (ah.rc e1++ .ref 1 0::rI e2::rI e3::rB e4::au.rc e5)),(1,.arr 0 194 (s.2.map av.pd))])) rfl ?_))
 rintro⟨s1,s2⟩ R' B' q3 hI h
 unfold nz at h
 refine qB<|gS rfl hI<|sM rfl<|sV (rI (rW (s1-(1:Int))))<|bE h fun x4 hx4 h=>WO.uW hx4 rfl rfl rfl rfl rfl rfl<|sA rfl<|sN<|qS<|gS rfl rfl<|sM rfl<|sM rfl<|sF h (fun h=>?_) fun h=>?_
 ·refine sM rfl<|k3<|sK<|sK<|sT<|sN<|cT<|qX<|⟨fun he=>(by cases he),fun _=>?_⟩
  refine tO h (fun z6 hkz6 hz=>?_)
  obtain rfl:=Option.some.inj hz
  refine⟨(fun he=>by cases he),fun hz2=>?_⟩
  subst hz2
  have h:=hkz6
  refine qE ?_
  cases oI h
  exact qG
 refine sM rfl<|sM rfl<|sM rfl<|sM rfl<|bE h fun x7 hx7 h=>WO.xf (e:=190) (c:= .ptr 0 11) (vl:= .ref 1 0) (g:=441) (args:=[rI s1,rI x4]) (v:=rB x7) (u:=[ ]) rfl rfl (by intro _;kernel_rfl) rfl rfl rfl rfl rfl rfl (nR hx7) rfl rfl rfl rfl<|sV (rB (!x7))<|sF h (fun h=>?_) fun h=>?_
 ·refine sN<|cT<|qX<|⟨fun he=>(by cases he),fun _=>?_⟩
  refine tO h (fun z9 hkz9 hz=>?_)
  obtain rfl:=Option.some.inj hz
  refine⟨(fun he=>by cases he),fun hz2=>?_⟩
  subst hz2
  have h:=hkz9
  refine qE ?_
  cases oI h
  exact qG
 refine sN<|cF<|qK<|gS rfl rfl<|sM rfl<|sM rfl<|sM rfl<|bE h fun x10 hx10 h=>WO.xf (e:=190) (c:= .ptr 0 11) (vl:= .ref 1 0) (g:=442) (args:=[rI x4,rI s1]) (v:= .tup []) (u:=[(1,.arr 0 194 (x10.map av.pd))]) rfl rfl (by intro _;kernel_rfl) rfl rfl rfl rfl rfl rfl (nS hx10) rfl rfl rfl rfl<|sN<|WC.region rfl rfl<|sM rfl<|sA rfl<|sN ?_
 cases oI h
 exact⟨rfl,rfl⟩
theorem heap_Push_ev{a0:av}{e1:ah}{e2:Int}{e3:Int}{e4:Bool}{e5:au}{r:(List av)}(h:mN a0 e1 e2 e3 e4 e5=some r):EvP prog aB ext 268 [.ifc 309 (.ptr 0 11),.ifc 194 (.d (av.pd a0))] [.var (ah.rc e1++ .dg::rI e2::rI e3::rB e4::au.rc e5)] (.tup [],[.var (ah.rc e1++ .ref 1 0::rI e2::rI e3::rB e4::au.rc e5),.arr 0 194 (r.map av.pd)]):=by
 refine Ev.body rfl Tryz.func268 rfl (by kernel_rfl)<|gS rfl rfl<|sM rfl<|sM rfl<|bE h fun x1 hx1 h=>WO.qA (g:=444) (args:=[.ptr 0 11,.ifc 194 (.d (av.pd a0))]) (v:= .tup []) (u:=[(0,.var (ah.rc e1++ .ref 96 0::rI e2::rI e3::rB e4::au.rc e5)),(96,.arr 0 194 (x1.map av.pd))]) rfl rfl (by intro _;kernel_rfl) rfl rfl rfl rfl rfl (queue_Push_ev hx1) rfl rfl rfl rfl<|sN<|WC.region rfl rfl<|sM rfl<|sM rfl<|bE h fun x2 hx2 h=>WO.xf (e:=190) (c:= .ptr 0 11) (vl:= .ref 96 0) (g:=440) (args:=[]) (v:=rI x2) (u:=[ ]) rfl rfl (by intro _;kernel_rfl) rfl rfl rfl rfl rfl rfl (oN hx2) rfl rfl rfl rfl<|sV (rI (rW (x2-(1:Int))))<|bE h fun x3 hx3 h=>cR (.tup []) [(0,.var (ah.rc e1++ .ref 96 0::rI e2::rI e3::rB e4::au.rc e5)),(96,.arr 0 194 (x3.map av.pd))] (heap_up_ev hx3) ?_
 refine sN ?_
 cases oI h
 exact qG
theorem search_add_ev{a0:ai}{e1:ah}{e2:Int}{e3:Int}{e4:Bool}{e5:au}{r:Int×(List av)×Int}(h:lG a0 e1 e2 e3 e4 e5=some r):EvP prog aB ext 184 [.ptr 0 0,.d (ai.pd a0)] [.var (ah.rc e1++ .dg::rI e2::rI e3::rB e4::au.rc e5)] (rI r.1,[.var (ah.rc e1++ .ref 1 0::rI r.2.2::rI e3::rB e4::au.rc e5),.arr 0 194 (r.2.1.map av.pd)]):=by
 refine Ev.body rfl Tryz.func184 rfl (by kernel_rfl)<|gS rfl rfl<|sB (.ptr 48 0) 48 (.var (ai.rc a0))<|sV (r0)<|sN<|WC.cI rfl rfl<|sM rfl<|sV (.ptr 0 0)<|sV (.ptr 0 0)<|sV (.d (ah.pd e1))<|sV (.d (ai.pd a0))<|bE h fun x1 hx1 h=>cR (.tup [rI x1.1,rI x1.2]) [] (pe hx1)<|sM rfl<|sV (rI x1.1) ?_
 refine sV (rI x1.2)<|sA rfl<|sA rfl ?_
 refine sN<|sO<|WC.join (α:=Int×(List av)) (fun x R' B'=>b8 prog 1 (A R' B') (aB.at_ 184 1 5)=some (A [(6,rI x1.2)] [(0,.var (ah.rc e1++ .ref 90081 0::rI x.1::rI e3::rB e4::au.rc e5)),(90081,.arr 0 194 (x.2.map av.pd))])) (fun x=>jT x1 x.1 x.2=some r) ?_ ?_
 ·refine gS rfl rfl<|sM rfl<|sF h (fun h=>?_) fun h=>?_
  ·refine sN<|cT<|WC.cI rfl rfl<|sM rfl<|sV (.ptr 0 0)<|sV (.ptr 0 11)<|sG (.ifc 309 (.ptr 0 11))<|sV (.d (ai.pd a0))<|sM rfl<|sM rfl<|sV (.ptr 0 0)<|sV (.ptr 0 12)<|sL rfl<|sG (.d (av.pd (av.mk a0 x1.1 e2)))<|sG (.ifc 194 (.d (av.pd (av.mk a0 x1.1 e2)))) ?_
   refine bE h fun x6 hx6 h=>cR (.tup []) [(0,.var (ah.rc e1++ .ref 480 0::rI e2::rI e3::rB e4::au.rc e5)),(480,.arr 0 194 (x6.map av.pd))] (heap_Push_ev hx6) ?_
   exact sN<|sO<|WC.region rfl rfl<|sM rfl<|sV (.ptr 0 0)<|sV (.ptr 0 12)<|sL rfl<|sV (rI (rW (e2+(1:Int))))<|sV (.ptr 0 0)<|sV (.ptr 0 12)<|sS 0 (.var (ah.rc e1++ .ref 480 0::rI (rW (e2+(1:Int)))::rI e3::rB e4::au.rc e5))<|sN<|⟨((rW (e2+(1:Int))),x6),rfl,h⟩
  exact sN<|cF<|qK<|⟨(e2,([]:List av)),rfl,h⟩
 rintro⟨j2,j3⟩ R' B' hI h
 refine gS rfl hI<|sM rfl<|sA rfl<|sN<|qR ?_
 cases oI h
 exact qG
theorem search_ended_ev{a0:Int}{e1:ah}{e2:Int}{e3:Int}{e4:Bool}{e5:au}{d1:(List av)}{r:Bool}(h:jC a0 e1 e2 e3 e4 e5 d1=some r):EvP prog aB ext 185 [.ptr 0 0,rI a0] [.var (ah.rc e1++ .ref 1 0::rI e2::rI e3::rB e4::au.rc e5),.arr 0 194 (d1.map av.pd)] (rB r,[.var (ah.rc e1++ .ref 1 0::rI e2::rI e3::rB e4::au.rc e5),.arr 0 194 (d1.map av.pd)]):=by
 refine Ev.body rfl Tryz.func185 rfl (by kernel_rfl)<|gS rfl rfl<|sU<|sN<|WC.cI rfl rfl<|sM rfl<|sV (.ptr 0 0)<|sV (.ptr 0 11)<|sL rfl<|WO.uT rfl rfl rfl rfl rfl rfl rfl rfl rfl<|sF h (fun h=>?_) fun h=>?_
 ·refine sM rfl<|k3<|k3<|k3<|k3<|sK<|sK ?_
  refine k3<|k3<|sK<|sT<|sA rfl ?_
  refine sN<|sO<|qR ?_
  cases oI h
  exact qG
 refine sM rfl<|sM rfl<|sV (.ptr 0 0)<|sV (.ptr 0 14)<|sF h (fun h=>?_) fun h=>?_
 ·refine sM rfl<|sM rfl<|sV (.ptr 0 0)<|sV (.ptr 0 15)<|sV (.ptr 0 19)<|sL rfl<|sM rfl<|sV (.ptr 0 0)<|sV (.ptr 0 11)<|sL rfl<|bE h fun x4 hx4 h=>WO.p8 hx4 rfl rfl rfl rfl rfl rfl rfl rfl<|sV (.elt 1 0 ((0:Int)).toNat 6)<|bE h fun x5 hx5 h=>WO.pJ hx5 rfl rfl rfl rfl rfl rfl ?_
  refine sV (rI (rW (e5.bj-x5.cr)))<|sM rfl<|sV (rB (decide ((rW (e5.bj-x5.cr))<=a0)))<|sV (rB (decide ((rW (e5.bj-x5.cr))<=a0)))<|sV (rB (decide ((rW (e5.bj-x5.cr))<=a0)))<|sA rfl ?_
  refine sN<|sO<|qR ?_
  cases oI h
  exact qG
 refine sM rfl<|k3<|k3<|k3<|k3<|sK<|sK ?_
 refine sK<|sU<|sU<|sA rfl ?_
 refine sN<|sO<|qR ?_
 cases oI h
 exact qG
theorem heap_down_ev{a0:Int}{a1:Int}{e2:ah}{e3:Int}{e4:Int}{e5:Bool}{e6:au}{d1:(List av)}{r:Bool×(List av)}(h:mO a0 a1 e2 e3 e4 e5 e6 d1=some r):EvP prog aB ext 331 [.ifc 309 (.ptr 0 11),rI a0,rI a1] [.var (ah.rc e2++ .ref 1 0::rI e3::rI e4::rB e5::au.rc e6),.arr 0 194 (d1.map av.pd)] (rB r.1,[.var (ah.rc e2++ .ref 1 0::rI e3::rI e4::rB e5::au.rc e6),.arr 0 194 (r.2.map av.pd)]):=by
 refine Ev.body rfl Tryz.func331 rfl (by kernel_rfl)<|gS rfl rfl<|sU<|sN<|gS rfl rfl<|sM rfl<|sA rfl<|sN<|qS<|bE h fun o17 ho17 h=>WC.block (WC.loop (WL.gE ho17 (fun s R' B'=>b8 prog 2 (A R' B') (aB.at_ 331 2 2)=some (A [(0,.ifc 309 (.ptr 0 11)),(1,rI a0),(2,rI a1),(7,rI s.1)] [(0,.var (ah.rc e2++ .ref 1 0::rI e3::rI e4::rB e5::au.rc e6)),(1,.arr 0 194 (s.2.map av.pd))])) (fun o e R' B'=>e= .exit 0∧b8 prog 2 (A R' B') (aB.at_ 331 2 11)=some (A [(1,rI a0),(7,rI o.1)] [(0,.var (ah.rc e2++ .ref 1 0::rI e3::rI e4::rB e5::au.rc e6)),(1,.arr 0 194 (o.2.map av.pd))])) rfl ?_ ?_))
 ·rintro⟨s1,s2⟩ R' B' q5 hI h
  refine qB<|gS rfl hI<|sM rfl<|sV (rI (rW ((2:Int)*s1)))<|sV (rI (rW ((rW ((2:Int)*s1))+(1:Int))))<|sA rfl<|sN<|qS<|gS rfl rfl<|sM rfl<|sM rfl<|sF h (fun h=>?_) fun h=>?_
  ·refine sM rfl<|sK<|sK<|sT<|sN<|cT<|qX<|⟨fun he=>(by cases he),fun _=>?_⟩
   cases oI h
   exact⟨nofun,rfl,rfl⟩
  refine sM rfl<|sM rfl<|sV (rB (decide ((rW ((rW ((2:Int)*s1))+(1:Int)))<(0:Int))))<|sF h (fun h=>?_) fun h=>?_
  ·refine sN<|cT<|qX<|⟨fun he=>(by cases he),fun _=>?_⟩
   cases oI h
   exact⟨nofun,rfl,rfl⟩
  refine sN<|cF<|qK<|gS rfl rfl<|sM rfl<|sA rfl<|sN<|WC.join (α:=Int) (fun x R' B'=>b8 prog 2 (A R' B') (aB.at_ 331 2 8)=some (A [(0,.ifc 309 (.ptr 0 11)),(1,rI a0),(2,rI a1),(7,rI s1),(9,rI x)] [(0,.var (ah.rc e2++ .ref 1 0::rI e3::rI e4::rB e5::au.rc e6)),(1,.arr 0 194 (s2.map av.pd))])) (fun x=>fd s2 s1 x=some q5) ?_ ?_
  ·refine gS rfl rfl<|sM rfl<|sV (rI (rW ((rW ((rW ((2:Int)*s1))+(1:Int)))+(1:Int))))<|sA rfl<|sN<|gS rfl rfl<|sM rfl<|sM rfl<|sF h (fun h=>?_) fun h=>?_
   ·refine sM rfl<|sM rfl<|sM rfl<|sM rfl<|bE h fun x14 hx14 h=>WO.xf (e:=190) (c:= .ptr 0 11) (vl:= .ref 1 0) (g:=441) (args:=[rI (rW ((rW ((rW ((2:Int)*s1))+(1:Int)))+(1:Int))),rI (rW ((rW ((2:Int)*s1))+(1:Int)))]) (v:=rB x14) (u:=[ ]) rfl rfl (by intro _;kernel_rfl) rfl rfl rfl rfl rfl rfl (nR hx14) rfl rfl rfl rfl<|sF h (fun h=>?_) fun h=>?_
    ·exact sN<|cT<|WC.region rfl rfl<|sM rfl<|sA rfl<|sN<|⟨(rW ((rW ((rW ((2:Int)*s1))+(1:Int)))+(1:Int))),rfl,h⟩
    exact sN<|cF<|qK<|⟨(rW ((rW ((2:Int)*s1))+(1:Int))),rfl,h⟩
   exact sM rfl<|k3<|sK<|sU<|sN<|cF<|qK<|⟨(rW ((rW ((2:Int)*s1))+(1:Int))),rfl,h⟩
  rintro j8 R' B' hI h
  refine qS<|gS rfl hI<|sM rfl<|sM rfl<|sM rfl<|bE h fun x9 hx9 h=>WO.xf (e:=190) (c:= .ptr 0 11) (vl:= .ref 1 0) (g:=441) (args:=[rI j8,rI s1]) (v:=rB x9) (u:=[ ]) rfl rfl (by intro _;kernel_rfl) rfl rfl rfl rfl rfl rfl (nR hx9) rfl rfl rfl rfl<|sF h (fun h=>?_) fun h=>?_
  ·refine sN<|cT<|qX<|⟨fun he=>(by cases he),fun _=>?_⟩
   cases oI h
   exact⟨nofun,rfl,rfl⟩
  refine sN<|cF<|qK<|gS rfl rfl<|sM rfl<|sM rfl<|sM rfl<|bE h fun x11 hx11 h=>WO.xf (e:=190) (c:= .ptr 0 11) (vl:= .ref 1 0) (g:=442) (args:=[rI s1,rI j8]) (v:= .tup []) (u:=[(1,.arr 0 194 (x11.map av.pd))]) rfl rfl (by intro _;kernel_rfl) rfl rfl rfl rfl rfl rfl (nS hx11) rfl rfl rfl rfl<|sN<|WC.region rfl rfl<|sM rfl<|sA rfl<|sN ?_
  cases oI h
  exact⟨rfl,rfl⟩
 intro e R' B' he hq
 obtain⟨rfl,hI⟩:=hq
 refine qE<|gS rfl hI<|sM rfl<|sM rfl<|sV (rB (decide (o17.1>a0)))<|sA rfl<|sN<|qR ?_
 cases oI h
 exact qG
theorem queue_Pop_ev{e0:ah}{e1:Int}{e2:Int}{e3:Bool}{e4:au}{d1:(List av)}{r:av×(List av)}(h:ql e0 e1 e2 e3 e4 d1=some r):EvP prog aB ext 443 [.ptr 0 11] [.var (ah.rc e0++ .ref 1 0::rI e1::rI e2::rB e3::au.rc e4),.arr 0 194 (d1.map av.pd)] (.ifc 194 (.d (av.pd r.1)),[.var (ah.rc e0++ .ref 1 1::rI e1::rI e2::rB e3::au.rc e4),.arr 1 194 (r.2.map av.pd)]):=by
 refine Ev.body rfl Tryz.func443 rfl (by kernel_rfl)<|gS rfl rfl<|sV (.d (.raw .nilIface))<|sN<|gS rfl rfl<|sM rfl<|sV (.ptr 0 11)<|sL rfl<|sA rfl<|sN<|gS rfl rfl<|sM rfl<|sM rfl<|WO.uT rfl rfl rfl rfl rfl rfl rfl rfl rfl<|sV (rI (rW ((d1.length:Int)-(1:Int)))) ?_
 refine bE h fun x2 hx2 h=>WO.p8 hx2 rfl rfl rfl rfl rfl rfl rfl rfl<|bE h fun x3 hx3 h=>WO.pJ hx3 rfl rfl rfl rfl rfl rfl<|sB (.ptr 64 0) 64 (.var [r0,r0,r0,r0,r0,r0,r0,r0])<|sH 64 (.var (av.rc x3))<|sN<|gS rfl rfl<|sM rfl<|sM rfl<|sM rfl<|WO.uT rfl rfl rfl rfl rfl rfl rfl rfl rfl<|sV (rI (rW ((d1.length:Int)-(1:Int))))<|bE h fun x4 hx4 h=>WO.resl hx4 rfl rfl rfl rfl rfl rfl rfl rfl rfl rfl rfl rfl ?_
 refine sV (.ptr 0 11)<|sS 0 (.var (ah.rc e0++ .ref 1 1::rI e1::rI e2::rB e3::au.rc e4))<|sN<|gS rfl rfl<|sV (.d (av.pd x3))<|sG (.ifc 194 (.d (av.pd x3)))<|sA rfl<|sN<|qR ?_
 cases oI h
 exact qG
theorem heap_Pop_ev{e0:ah}{e1:Int}{e2:Int}{e3:Bool}{e4:au}{d1:(List av)}{r:av×(List av)}(h:n4 e0 e1 e2 e3 e4 d1=some r):EvP prog aB ext 269 [.ifc 309 (.ptr 0 11)] [.var (ah.rc e0++ .ref 1 0::rI e1::rI e2::rB e3::au.rc e4),.arr 0 194 (d1.map av.pd)] (.ifc 194 (.d (av.pd r.1)),[.var (ah.rc e0++ .ref 1 1::rI e1::rI e2::rB e3::au.rc e4),.arr 1 194 (r.2.map av.pd)]):=by
 refine Ev.body rfl Tryz.func269 rfl (by kernel_rfl)<|gS rfl rfl<|sV (.d (.raw .nilIface))<|sN<|gS rfl rfl<|sM rfl<|bE h fun x1 hx1 h=>WO.xf (e:=190) (c:= .ptr 0 11) (vl:= .ref 1 0) (g:=440) (args:=[]) (v:=rI x1) (u:=[ ]) rfl rfl (by intro _;kernel_rfl) rfl rfl rfl rfl rfl rfl (oN hx1) rfl rfl rfl rfl<|sV (rI (rW (x1-(1:Int))))<|sA rfl<|sN<|gS rfl rfl<|sM rfl<|sM rfl<|bE h fun x2 hx2 h=>?_
 refine WO.xf (e:=190) (c:= .ptr 0 11) (vl:= .ref 1 0) (g:=442) (args:=[r0,rI (rW (x1-(1:Int)))]) (v:= .tup []) (u:=[(1,.arr 0 194 (x2.map av.pd))]) rfl rfl (by intro _;kernel_rfl) rfl rfl rfl rfl rfl rfl (nS hx2) rfl rfl rfl rfl<|sN<|gS rfl rfl<|sM rfl<|sM rfl<|bE h fun x3 hx3 h=>cR (rB x3.1) [(0,.var (ah.rc e0++ .ref 1 0::rI e1::rI e2::rB e3::au.rc e4)),(1,.arr 0 194 (x3.2.map av.pd))] (heap_down_ev hx3)<|sN<|gS rfl rfl<|sM rfl<|bE h fun x4 hx4 h=>WO.qA (g:=443) (args:=[.ptr 0 11]) (v:= .ifc 194 (.d (av.pd x4.1))) (u:=[(0,.var (ah.rc e0++ .ref 1 1::rI e1::rI e2::rB e3::au.rc e4)),(1,.arr 1 194 (x4.2.map av.pd))]) rfl rfl (by intro _;kernel_rfl) rfl rfl rfl rfl rfl (queue_Pop_ev hx4) rfl rfl rfl rfl<|sA rfl<|sN<|qR ?_
 cases oI h
 exact qG
theorem dD{a0:Int}{a1:Int}{r:Int}(h:bU a0 a1=some r):EvP prog aB ext 334 [rI a0,rI a1] [] (rI r,[]):=by
 refine Ev.body rfl Tryz.func334 rfl (by kernel_rfl)<|gS rfl rfl<|sV (r0)<|sN<|gS rfl rfl<|sM rfl<|sM rfl<|sM rfl<|sV (rI (rW (a1-a0)))<|bE h fun x1 hx1 h=>WO.uW hx1 rfl rfl rfl rfl rfl rfl<|sV (rI (rW (a0+x1)))<|sA rfl<|sN<|qR ?_
 exact oI h▸qD
theorem bW{a0:aU}{r:aa}(h:bK a0=some r):EvP prog aB ext 189 [.d (aU.pd a0)] [] (.d (aa.pd r),[]):=by
 refine Ev.body rfl Tryz.func189 rfl (by kernel_rfl)<|gS rfl rfl<|sB (.ptr 16 0) 16 (.var [rI a0.a0,rI a0.a1,rI a0.a2])<|sB (.ptr 32 0) 32 (.var [r0,r0,r0])<|sN<|gS rfl rfl<|sV (.ptr 16 0)<|sL rfl<|sV (.ptr 16 1)<|sL rfl<|sV (.ptr 16 2)<|sL rfl<|sV (.d (aa.pd (aa.mk a0.a0 a0.a1 a0.a2)))<|sS 32 (.var [rI a0.a0,rI a0.a1,rI a0.a2])<|sN ?_
 refine qR ?_
 exact oI h▸qD
theorem re{a0:ai}{r:aa}(h:fy a0=some r):EvP prog aB ext 332 [.d (ai.pd a0)] [] (.d (aa.pd r),[]):=by
 refine Ev.body rfl Tryz.func332 rfl (by kernel_rfl)<|gS rfl rfl<|sB (.ptr 16 0) 16 (.var (ai.rc a0))<|sB (.ptr 32 0) 32 (.var [r0,r0,r0])<|sN<|qS<|gS rfl rfl<|sV (.d (ai.pd a0))<|bE h fun x1 hx1 h=>cD (bJ hx1)<|sF h (fun h=>?_) fun h=>?_
 ·refine sN<|cT<|gS rfl rfl<|sV (.d (aa.pd (aa.mk 0 0 0)))<|sS 32 (.var [r0,r0,r0])<|sN<|qR ?_
  exact oI h▸qD
 refine sN<|cF<|qK<|WC.cI rfl rfl<|sV (.ptr 16 0)<|sV (.d (aa.pd a0.aK))<|bE h fun x3 hx3 h=>cD (bP hx3)<|sV (.ptr 16 3)<|sV (.d (aa.pd a0.aG))<|bE h fun x4 hx4 h=>cD (bP hx4)<|sB (.ptr 48 0) 48 (.var [r0,r0,r0])<|sB (.ptr 64 0) 64 (.var [r0,r0,r0])<|sS 48 (.var [rI x3.a0,rI x3.a1,rI x3.a2]) ?_
 refine sS 64 (.var [rI x4.a0,rI x4.a1,rI x4.a2]) ?_
 refine sN<|sO<|qS<|gS rfl rfl<|sV (r0)<|sN<|WC.block (WC.loop ?_)
 refine WL.round<|WC.kB (R0:=[(2,.ptr 32 0),(3,.ptr 48 0),(4,.ptr 64 0),(16,r0)]) (B0:=[(32,.var [r0,r0,r0]),(48,.var [rI x3.a0,rI x3.a1,rI x3.a2]),(64,.var [rI x4.a0,rI x4.a1,rI x4.a2])]) rfl rfl<|sT<|sN<|qS<|cT<|qK<|qS<|qB<|gS rfl rfl<|sM rfl<|sA rfl<|sN<|WC.oi rfl rfl<|sM rfl ?_
 refine sM rfl<|sV (.ptr 48 0)<|sL rfl<|sM rfl<|sV (.ptr 64 0)<|sL rfl<|bE h fun x5 hx5 h=>cD (dD hx5)<|sV (.ptr 48 0)<|sS 48 (.var [rI x5,rI x3.a1,rI x3.a2]) ?_
 refine sN<|sO<|WC.region rfl rfl<|sV (rI 1)<|sM rfl<|sN<|WL.round<|WC.kB (R0:=[(2,.ptr 32 0),(3,.ptr 48 0),(4,.ptr 64 0),(16,rI 1)]) (B0:=[(32,.var [r0,r0,r0]),(48,.var [rI x5,rI x3.a1,rI x3.a2]),(64,.var [rI x4.a0,rI x4.a1,rI x4.a2])]) rfl rfl<|sT<|sN<|qS<|cT<|qK<|qS<|qB<|gS rfl rfl ?_
 refine sM rfl<|sA rfl<|sN<|WC.oi rfl rfl<|sM rfl<|sM rfl<|sV (.ptr 48 1)<|sL rfl<|sM rfl<|sV (.ptr 64 1)<|sL rfl<|bE h fun x6 hx6 h=>cD (dD hx6)<|sV (.ptr 48 1)<|sS 48 (.var [rI x5,rI x6,rI x3.a2]) ?_
 refine sN<|sO<|WC.region rfl rfl<|sV (rI 2)<|sM rfl<|sN<|WL.round<|WC.kB (R0:=[(2,.ptr 32 0),(3,.ptr 48 0),(4,.ptr 64 0),(16,rI 2)]) (B0:=[(32,.var [r0,r0,r0]),(48,.var [rI x5,rI x6,rI x3.a2]),(64,.var [rI x4.a0,rI x4.a1,rI x4.a2])]) rfl rfl<|sT<|sN<|qS<|cT<|qK<|qS<|qB<|gS rfl rfl ?_
 refine sM rfl<|sA rfl<|sN<|WC.oi rfl rfl<|sM rfl<|sM rfl<|sV (.ptr 48 2)<|sL rfl<|sM rfl<|sV (.ptr 64 2)<|sL rfl<|bE h fun x7 hx7 h=>cD (dD hx7)<|sV (.ptr 48 2)<|sS 48 (.var [rI x5,rI x6,rI x7]) ?_
 refine sN<|sO<|WC.region rfl rfl<|sV (rI 3)<|sM rfl<|sN<|WL.round<|WC.kB (R0:=[(2,.ptr 32 0),(3,.ptr 48 0),(4,.ptr 64 0),(16,rI 3)]) (B0:=[(32,.var [r0,r0,r0]),(48,.var [rI x5,rI x6,rI x7]),(64,.var [rI x4.a0,rI x4.a1,rI x4.a2])]) rfl rfl<|sU<|sN<|qS<|cF<|qX<|qE<|gS rfl rfl<|sV (.d (aU.pd (aU.mk x5 x6 x7))) ?_
 refine bE h fun x8 hx8 h=>cD (bW hx8)<|sS 32 (.var (aa.rc x8))<|sN<|qR ?_
 exact oI h▸qD
theorem misfit_At_ev{a0:ah}{a1:aa}{r:Int×Int×Int}(h:iC a0 a1=some r):EvP prog aB ext 18 [.d (ah.pd a0),.d (aa.pd a1)] [] (.tup [rI r.1,rI r.2.1,rI r.2.2],[]):=by
 refine Ev.body rfl Tryz.func18 rfl (by kernel_rfl)<|gS rfl rfl<|sB (.ptr 32 0) 32 (.var (ah.rc a0))<|sB (.ptr 48 0) 48 (.var (aa.rc a1))<|sV (r0)<|sV (r0)<|sV (r0)<|sN<|gS rfl rfl<|sV (.d (ah.pd a0))<|sV (.d (aa.pd a1))<|sV (.d (aa.pd a1))<|sG (.d (ai.pd (ai.mk a1 a1)))<|bE h fun x1 hx1 h=>cR (.tup [rM aL.pd x1.1,rI x1.2]) [] (mf hx1) ?_
 refine sM rfl<|sV (rM aL.pd x1.1)<|sV (rI x1.2)<|sA rfl<|sA rfl<|sN<|qS<|gS rfl rfl<|sM rfl<|sF h (fun h=>?_) fun h=>?_
 ·refine sN<|cT<|gS rfl rfl<|sM rfl<|sV (r0)<|sV (r0)<|sA rfl<|sN<|qR ?_
  cases oI h
  exact qG
 refine sN<|cF<|qK<|gS rfl rfl<|sV (.d (ah.pd a0))<|sM rfl<|bE h fun x3 hx3 h=>cR (.tup [rI x3.1,rI x3.2]) [] (pO hx3)<|sM rfl<|sV (rI x3.1)<|sV (rI x3.2)<|sA rfl<|sA rfl<|sN<|gS rfl rfl ?_
 refine sM rfl<|sM rfl<|sA rfl<|sA rfl<|sV (r0)<|sN<|qR ?_
 cases oI h
 exact qG
theorem search_look_ev{a0:ai}{e1:ah}{e2:Int}{e3:Int}{e4:Bool}{e5:au}{d1:(List av)}{r:Int×Bool×au}(h:kC a0 e1 e2 e3 e4 e5 d1=some r):EvP prog aB ext 270 [.ptr 0 0,.d (ai.pd a0)] [.var (ah.rc e1++ .ref 1 0::rI e2::rI e3::rB e4::au.rc e5),.arr 0 194 (d1.map av.pd)] (rI r.1,[.var (ah.rc e1++ .ref 1 0::rI e2::rI e3::rB r.2.1::au.rc r.2.2),.arr 0 194 (d1.map av.pd)]):=by
 refine Ev.body rfl Tryz.func270 rfl (by kernel_rfl)<|gS rfl rfl<|sB (.ptr 48 0) 48 (.var (ai.rc a0))<|sV (r0)<|sN<|gS rfl rfl<|sV (.d (ai.pd a0))<|bE h fun x1 hx1 h=>cD (re hx1)<|sB (.ptr 80 0) 80 (.var [r0,r0,r0])<|sS 80 (.var (aa.rc x1))<|sN<|WC.cI rfl rfl<|sM rfl<|sV (.ptr 0 0) ?_
 refine sV (.ptr 0 0)<|sV (.d (ah.pd e1))<|sV (.d (aa.pd x1))<|bE h fun x2 hx2 h=>cR (.tup [rI x2.1,rI x2.2.1,rI x2.2.2]) [] (misfit_At_ev hx2)<|sM rfl<|sV (rI x2.1)<|sV (rI x2.2.1)<|sV (rI x2.2.2)<|sA rfl<|sA rfl<|sA rfl ?_
 refine sN<|sO<|qS<|gS rfl rfl<|sM rfl<|sF h (fun h=>?_) fun h=>?_
 ·refine sN<|cT<|gS rfl rfl<|sM rfl<|sA rfl<|sN<|qR ?_
  cases oI h
  exact qG
 refine sN<|cF<|qK<|qS<|WC.cI rfl rfl<|sM rfl<|sV (.ptr 0 0)<|sV (.ptr 0 14)<|sL rfl<|sF h (fun h=>?_) fun h=>?_
 ·refine sM rfl<|k3<|k3<|sK<|sT<|sM rfl<|k3<|sK<|sK ?_
  refine k3<|k3<|k3<|k3<|sT ?_
  refine sN<|sO<|cT<|gS rfl rfl<|sM rfl<|sV (.ptr 0 0)<|sV (.ptr 0 14)<|sS 0 (.var (ah.rc e1++ .ref 1 0::rI e2::rI e3::rB true::au.rc e5))<|sN<|WC.region rfl rfl<|sM rfl<|sV (.d (aa.pd x1))<|sM rfl<|sM rfl<|sG (.d (au.pd (au.mk x1 x2.1 x2.2.1 0 (ai.mk (aa.mk 0 0 0) (aa.mk 0 0 0)))))<|sV (.ptr 0 0) ?_
  refine sV (.ptr 0 15)<|sH 0 (.var (ah.rc e1++ .ref 1 0::rI e2::rI e3::rB true::aa.rc x1++[rI x2.1,rI x2.2.1,r0,r0,r0,r0,r0,r0,r0]))<|sN<|gS rfl rfl<|sV (r0)<|sN<|qR ?_
  cases oI h
  exact qG
 refine sM rfl<|sM rfl<|sM rfl<|sV (.ptr 0 0)<|sV (.ptr 0 15)<|sV (.ptr 0 19)<|sL rfl<|sV (rB (decide (x2.2.1<e5.bj)))<|sF h (fun h=>?_) fun h=>?_
 ·refine sM rfl<|k3<|k3<|k3<|k3<|sK<|sK ?_
  refine k3<|sT ?_
  refine sN<|sO<|cT<|gS rfl rfl<|sM rfl<|sV (.ptr 0 0)<|sV (.ptr 0 14)<|sS 0 (.var (ah.rc e1++ .ref 1 0::rI e2::rI e3::rB true::au.rc e5))<|sN<|WC.region rfl rfl<|sM rfl<|sV (.d (aa.pd x1))<|sM rfl<|sM rfl<|sG (.d (au.pd (au.mk x1 x2.1 x2.2.1 0 (ai.mk (aa.mk 0 0 0) (aa.mk 0 0 0)))))<|sV (.ptr 0 0) ?_
  refine sV (.ptr 0 15)<|sH 0 (.var (ah.rc e1++ .ref 1 0::rI e2::rI e3::rB true::aa.rc x1++[rI x2.1,rI x2.2.1,r0,r0,r0,r0,r0,r0,r0]))<|sN<|gS rfl rfl<|sV (r0)<|sN<|qR ?_
  cases oI h
  exact qG
 refine sM rfl<|sM rfl<|sM rfl<|sV (.ptr 0 0)<|sV (.ptr 0 15)<|sV (.ptr 0 19)<|sL rfl<|sF h (fun h=>?_) fun h=>?_
 ·refine sM rfl<|sV (.d (aa.pd x1))<|sM rfl<|sV (.ptr 0 0)<|sV (.ptr 0 15)<|sV (.ptr 0 15)<|sV (.d (aa.pd e5.aV))<|bE h fun x7 hx7 h=>cD (mr hx7)<|sV (rB (decide (x7<(0:Int))))<|sV (rB (decide (x7<(0:Int))))<|sF h (fun h=>?_) fun h=>?_
  ·refine sN<|sO<|cT<|gS rfl rfl<|sM rfl<|sV (.ptr 0 0)<|sV (.ptr 0 14)<|sS 0 (.var (ah.rc e1++ .ref 1 0::rI e2::rI e3::rB true::au.rc e5))<|sN<|WC.region rfl rfl<|sM rfl<|sV (.d (aa.pd x1))<|sM rfl<|sM rfl<|sG (.d (au.pd (au.mk x1 x2.1 x2.2.1 0 (ai.mk (aa.mk 0 0 0) (aa.mk 0 0 0)))))<|sV (.ptr 0 0) ?_
   refine sV (.ptr 0 15)<|sH 0 (.var (ah.rc e1++ .ref 1 0::rI e2::rI e3::rB true::aa.rc x1++[rI x2.1,rI x2.2.1,r0,r0,r0,r0,r0,r0,r0]))<|sN<|gS rfl rfl<|sV (r0)<|sN<|qR ?_
   cases oI h
   exact qG
  refine sN<|sO<|cF<|qK<|gS rfl rfl<|sV (r0)<|sN<|qR ?_
  cases oI h
  exact qG
 refine sM rfl<|k3<|k3<|sK<|sK<|sU<|sU ?_
 refine sN<|sO<|cF<|qK<|gS rfl rfl<|sV (r0)<|sN<|qR ?_
 cases oI h
 exact qG
theorem rf{a0:ai}{r:Int}(h:jW a0=some r):EvP prog aB ext 333 [.d (ai.pd a0)] [] (rI r,[]):=by
 refine Ev.body rfl Tryz.func333 rfl (by kernel_rfl)<|gS rfl rfl<|sB (.ptr 16 0) 16 (.var (ai.rc a0))<|sV (r0)<|sN<|qS<|gS rfl rfl<|sV (.d (ai.pd a0))<|bE h fun x1 hx1 h=>cD (bJ hx1)<|sF h (fun h=>?_) fun h=>?_
 ·refine sN<|cT<|gS rfl rfl<|sV (r0)<|sN<|qR ?_
  exact oI h▸qD
 refine sN<|cF<|qK<|gS rfl rfl<|sV (.ptr 16 3)<|sV (.d (aa.pd a0.aG))<|bE h fun x3 hx3 h=>cD (bP hx3)<|sB (.ptr 64 0) 64 (.var [r0,r0,r0])<|sV (rI 1)<|sS 64 (.var [rI x3.a0,rI x3.a1,rI x3.a2])<|sN<|qS<|gS rfl rfl<|sV (.ptr 16 0) ?_
 refine sV (.d (aa.pd a0.aK))<|bE h fun x4 hx4 h=>cD (bP hx4)<|sV (r0)<|sN<|WC.block (WC.loop ?_)
 refine WL.round<|gS rfl rfl<|sT<|sN<|qS<|cT<|qK<|qS<|qB<|gS rfl rfl<|sM rfl<|sV (rI x4.a0)<|sA rfl<|sA rfl<|sN ?_
 refine WC.region rfl rfl<|sM rfl<|sM rfl<|sV (.ptr 64 0)<|sL rfl<|sM rfl<|sV (rI (rW (x3.a0-x4.a0)))<|sV (rI (rW ((rW (x3.a0-x4.a0))+(1:Int))))<|sV (rI (rW ((1:Int)*(rW ((rW (x3.a0-x4.a0))+(1:Int))))))<|sA rfl<|sN<|WC.region rfl rfl<|sV (rI 1)<|sM rfl<|sN ?_
 refine WL.round<|gS rfl rfl<|sT<|sN<|qS<|cT<|qK<|qS<|qB<|gS rfl rfl<|sM rfl<|sV (rI x4.a1)<|sA rfl<|sA rfl<|sN ?_
 refine WC.region rfl rfl<|sM rfl<|sM rfl<|sV (.ptr 64 1)<|sL rfl<|sM rfl<|sV (rI (rW (x3.a1-x4.a1)))<|sV (rI (rW ((rW (x3.a1-x4.a1))+(1:Int))))<|sV (rI (rW ((rW ((1:Int)*(rW ((rW (x3.a0-x4.a0))+(1:Int)))))*(rW ((rW (x3.a1-x4.a1))+(1:Int))))))<|sA rfl<|sN<|WC.region rfl rfl<|sV (rI 2)<|sM rfl<|sN ?_
 refine WL.round<|gS rfl rfl<|sT<|sN<|qS<|cT<|qK<|qS<|qB<|gS rfl rfl<|sM rfl<|sV (rI x4.a2)<|sA rfl<|sA rfl<|sN ?_
 refine WC.region rfl rfl<|sM rfl<|sM rfl<|sV (.ptr 64 2)<|sL rfl<|sM rfl<|sV (rI (rW (x3.a2-x4.a2)))<|sV (rI (rW ((rW (x3.a2-x4.a2))+(1:Int))))<|sV (rI (rW ((rW ((rW ((1:Int)*(rW ((rW (x3.a0-x4.a0))+(1:Int)))))*(rW ((rW (x3.a1-x4.a1))+(1:Int)))))*(rW ((rW (x3.a2-x4.a2))+(1:Int))))))<|sA rfl<|sN<|WC.region rfl rfl<|sV (rI 3)<|sM rfl<|sN ?_
 refine WL.round<|gS rfl rfl<|sU<|sN<|qS<|cF<|qX<|qE<|gS rfl rfl<|sM rfl<|sA rfl<|sN<|qR ?_
 exact oI h▸qD
theorem rQ{a0:ai}{r:ai×ai×Bool}(h:fm a0=some r):EvP prog aB ext 271 [.d (ai.pd a0)] [] (.tup [.d (ai.pd r.1),.d (ai.pd r.2.1),rB r.2.2],[]):=by
 refine Ev.body rfl Tryz.func271 rfl (by kernel_rfl)<|gS rfl rfl<|sB (.ptr 16 0) 16 (.var (ai.rc a0))<|sB (.ptr 32 0) 32 (.var zZ5)<|sB (.ptr 48 0) 48 (.var zZ5)<|sU<|sN<|qS<|gS rfl rfl<|sV (.d (ai.pd a0))<|bE h fun x1 hx1 h=>cD (rf hx1)<|sF h (fun h=>?_) fun h=>?_
 ·refine sN<|cT<|gS rfl rfl<|sG (.d (ai.pd (ai.mk (aa.mk 0 0 0) (aa.mk 0 0 0))))<|sG (.d (ai.pd (ai.mk (aa.mk 0 0 0) (aa.mk 0 0 0))))<|sH 32 (.var zZ5)<|sH 48 (.var zZ5)<|sU<|sN<|qR ?_
  cases oI h
  exact qG
 refine sN<|cF<|qK<|WC.cI rfl rfl<|sV (.ptr 16 0)<|sV (.d (aa.pd a0.aK))<|bE h fun x3 hx3 h=>cD (bP hx3)<|sV (.ptr 16 3)<|sV (.d (aa.pd a0.aG))<|bE h fun x4 hx4 h=>cD (bP hx4)<|sB (.ptr 80 0) 80 (.var [r0,r0,r0])<|sB (.ptr 96 0) 96 (.var [r0,r0,r0])<|sS 80 (.var [rI x3.a0,rI x3.a1,rI x3.a2]) ?_
 refine sS 96 (.var [rI x4.a0,rI x4.a1,rI x4.a2]) ?_
 refine sN<|sO<|gS rfl rfl<|sV (r0)<|sN<|qS<|gS rfl rfl<|sV (r0)<|sN<|WC.block (WC.loop ?_)
 refine WL.round<|gS rfl rfl<|sT<|sN<|qS<|cT<|qK<|qS<|qB<|gS rfl rfl<|sM rfl<|sA rfl<|sN<|WC.cI rfl rfl<|sM rfl ?_
 refine sV (.ptr 96 0)<|sL rfl<|sM rfl<|sV (.ptr 80 0)<|sL rfl<|sV (rI (rW (x4.a0-x3.a0)))<|sM rfl<|sV (.ptr 96 0)<|sL rfl<|sM rfl<|sV (.ptr 80 0)<|sL rfl<|sV (rI (rW (x4.a0-x3.a0)))<|WO.s0 (v':=rB false) rfl rfl (fun _=>rfl) (congrArg (fun b=>RV.d (.bool b)) (decide_eq_false (Int.lt_irrefl _))) ?_
 refine sN<|sO<|cF<|qK<|WC.region rfl rfl<|sV (rI 1)<|sM rfl<|sN<|WL.round<|gS rfl rfl<|sT<|sN<|qS<|cT<|qK<|qS ?_
 refine qB<|gS rfl rfl<|sM rfl<|sA rfl<|sN<|WC.cI rfl rfl<|sM rfl<|sV (.ptr 96 1)<|sL rfl<|sM rfl<|sV (.ptr 80 1)<|sL rfl<|sV (rI (rW (x4.a1-x3.a1)))<|sM rfl<|sV (.ptr 96 0) ?_
 refine sL rfl<|sM rfl<|sV (.ptr 80 0)<|sL rfl<|sV (rI (rW (x4.a0-x3.a0)))<|sF h (fun h=>?_) fun h=>?_
 ·refine sN<|sO<|cT<|WC.region rfl rfl<|sM rfl<|sA rfl<|sN<|WC.region rfl rfl<|sV (rI 2)<|sM rfl<|sN<|WL.round<|gS rfl rfl<|sT<|sN<|qS ?_
  refine cT<|qK<|qS<|qB<|gS rfl rfl<|sM rfl<|sA rfl<|sN<|WC.cI rfl rfl<|sM rfl<|sV (.ptr 96 2)<|sL rfl<|sM rfl<|sV (.ptr 80 2)<|sL rfl ?_
  refine sV (rI (rW (x4.a2-x3.a2)))<|sM rfl<|sV (.ptr 96 1)<|sL rfl<|sM rfl<|sV (.ptr 80 1)<|sL rfl<|sV (rI (rW (x4.a1-x3.a1)))<|sF h (fun h=>?_) fun h=>?_
  ·refine sN<|sO<|cT<|WC.region rfl rfl<|sM rfl<|sA rfl<|sN<|WC.region rfl rfl<|sV (rI 3)<|sM rfl<|sN<|WL.round<|gS rfl rfl<|sU<|sN<|qS ?_
   refine cF<|qX<|qE<|WC.cI rfl rfl<|sV (.d (aU.pd x4))<|sV (.d (aU.pd x3))<|sB (.ptr 144 0) 144 (.var [r0,r0,r0])<|sB (.ptr 160 0) 160 (.var [r0,r0,r0])<|sS 144 (.var [rI x4.a0,rI x4.a1,rI x4.a2])<|sS 160 (.var [rI x3.a0,rI x3.a1,rI x3.a2]) ?_
   refine sN<|sO<|WC.cI rfl rfl<|sM rfl<|sM rfl<|sV (.ptr 80 2)<|sL rfl<|sM rfl<|sV (.ptr 96 2)<|sL rfl<|bE h fun x7 hx7 h=>cD (dD hx7)<|sV (.ptr 144 2)<|sS 144 (.var [rI x4.a0,rI x4.a1,rI x7]) ?_
   refine sN<|sO<|gS rfl rfl<|sM rfl<|sM rfl<|sV (.ptr 144 2)<|sL rfl<|sV (rI (rW (x7+(1:Int))))<|sV (.ptr 160 2)<|sS 160 (.var [rI x3.a0,rI x3.a1,rI (rW (x7+(1:Int)))])<|sN<|WC.cI rfl rfl<|sV (.ptr 16 0)<|sV (.d (aa.pd a0.aK))<|sV (.d (aU.pd (aU.mk x4.a0 x4.a1 x7)))<|bE h fun x8 hx8 h=>?_
   refine cD (bW hx8)<|sG (.d (ai.pd (ai.mk a0.aK x8)))<|sV (.d (aU.pd (aU.mk x3.a0 x3.a1 (rW (x7+(1:Int))))))<|bE h fun x9 hx9 h=>cD (bW hx9)<|sV (.ptr 16 3)<|sV (.d (aa.pd a0.aG))<|sG (.d (ai.pd (ai.mk x9 a0.aG)))<|sH 32 (.var (aa.rc a0.aK++aa.rc x8))<|sH 48 (.var (aa.rc x9++aa.rc a0.aG))<|sT ?_
   refine sN<|sO<|qR ?_
   cases oI h
   exact qG
  refine sN<|sO<|cF<|qK<|WC.region rfl rfl<|sV (rI 3)<|sM rfl<|sN<|WL.round<|gS rfl rfl<|sU<|sN<|qS<|cF<|qX<|qE ?_
  refine WC.cI rfl rfl<|sV (.d (aU.pd x4))<|sV (.d (aU.pd x3))<|sB (.ptr 144 0) 144 (.var [r0,r0,r0])<|sB (.ptr 160 0) 160 (.var [r0,r0,r0])<|sS 144 (.var [rI x4.a0,rI x4.a1,rI x4.a2])<|sS 160 (.var [rI x3.a0,rI x3.a1,rI x3.a2]) ?_
  refine sN<|sO<|WC.cI rfl rfl<|sM rfl<|sM rfl<|sV (.ptr 80 1)<|sL rfl<|sM rfl<|sV (.ptr 96 1)<|sL rfl<|bE h fun x10 hx10 h=>cD (dD hx10)<|sV (.ptr 144 1)<|sS 144 (.var [rI x4.a0,rI x10,rI x4.a2]) ?_
  refine sN<|sO<|gS rfl rfl<|sM rfl<|sM rfl<|sV (.ptr 144 1)<|sL rfl<|sV (rI (rW (x10+(1:Int))))<|sV (.ptr 160 1)<|sS 160 (.var [rI x3.a0,rI (rW (x10+(1:Int))),rI x3.a2])<|sN<|WC.cI rfl rfl<|sV (.ptr 16 0)<|sV (.d (aa.pd a0.aK))<|sV (.d (aU.pd (aU.mk x4.a0 x10 x4.a2)))<|bE h fun x11 hx11 h=>?_
  refine cD (bW hx11)<|sG (.d (ai.pd (ai.mk a0.aK x11)))<|sV (.d (aU.pd (aU.mk x3.a0 (rW (x10+(1:Int))) x3.a2)))<|bE h fun x12 hx12 h=>cD (bW hx12)<|sV (.ptr 16 3)<|sV (.d (aa.pd a0.aG))<|sG (.d (ai.pd (ai.mk x12 a0.aG)))<|sH 32 (.var (aa.rc a0.aK++aa.rc x11))<|sH 48 (.var (aa.rc x12++aa.rc a0.aG))<|sT ?_
  refine sN<|sO<|qR ?_
  cases oI h
  exact qG
 refine sN<|sO<|cF<|qK<|WC.region rfl rfl<|sV (rI 2)<|sM rfl<|sN<|WL.round<|gS rfl rfl<|sT<|sN<|qS<|cT<|qK<|qS ?_
 refine qB<|gS rfl rfl<|sM rfl<|sA rfl<|sN<|WC.cI rfl rfl<|sM rfl<|sV (.ptr 96 2)<|sL rfl<|sM rfl<|sV (.ptr 80 2)<|sL rfl<|sV (rI (rW (x4.a2-x3.a2)))<|sM rfl<|sV (.ptr 96 0) ?_
 refine sL rfl<|sM rfl<|sV (.ptr 80 0)<|sL rfl<|sV (rI (rW (x4.a0-x3.a0)))<|sF h (fun h=>?_) fun h=>?_
 ·refine sN<|sO<|cT<|WC.region rfl rfl<|sM rfl<|sA rfl<|sN<|WC.region rfl rfl<|sV (rI 3)<|sM rfl<|sN<|WL.round<|gS rfl rfl<|sU<|sN<|qS ?_
  refine cF<|qX<|qE<|WC.cI rfl rfl<|sV (.d (aU.pd x4))<|sV (.d (aU.pd x3))<|sB (.ptr 144 0) 144 (.var [r0,r0,r0])<|sB (.ptr 160 0) 160 (.var [r0,r0,r0])<|sS 144 (.var [rI x4.a0,rI x4.a1,rI x4.a2])<|sS 160 (.var [rI x3.a0,rI x3.a1,rI x3.a2]) ?_
  refine sN<|sO<|WC.cI rfl rfl<|sM rfl<|sM rfl<|sV (.ptr 80 2)<|sL rfl<|sM rfl<|sV (.ptr 96 2)<|sL rfl<|bE h fun x14 hx14 h=>cD (dD hx14)<|sV (.ptr 144 2)<|sS 144 (.var [rI x4.a0,rI x4.a1,rI x14]) ?_
  refine sN<|sO<|gS rfl rfl<|sM rfl<|sM rfl<|sV (.ptr 144 2)<|sL rfl<|sV (rI (rW (x14+(1:Int))))<|sV (.ptr 160 2)<|sS 160 (.var [rI x3.a0,rI x3.a1,rI (rW (x14+(1:Int)))])<|sN<|WC.cI rfl rfl<|sV (.ptr 16 0)<|sV (.d (aa.pd a0.aK))<|sV (.d (aU.pd (aU.mk x4.a0 x4.a1 x14)))<|bE h fun x15 hx15 h=>?_
  refine cD (bW hx15)<|sG (.d (ai.pd (ai.mk a0.aK x15)))<|sV (.d (aU.pd (aU.mk x3.a0 x3.a1 (rW (x14+(1:Int))))))<|bE h fun x16 hx16 h=>cD (bW hx16)<|sV (.ptr 16 3)<|sV (.d (aa.pd a0.aG))<|sG (.d (ai.pd (ai.mk x16 a0.aG)))<|sH 32 (.var (aa.rc a0.aK++aa.rc x15))<|sH 48 (.var (aa.rc x16++aa.rc a0.aG))<|sT ?_
  refine sN<|sO<|qR ?_
  cases oI h
  exact qG
 refine sN<|sO<|cF<|qK<|WC.region rfl rfl<|sV (rI 3)<|sM rfl<|sN<|WL.round<|gS rfl rfl<|sU<|sN<|qS<|cF<|qX<|qE ?_
 refine WC.cI rfl rfl<|sV (.d (aU.pd x4))<|sV (.d (aU.pd x3))<|sB (.ptr 144 0) 144 (.var [r0,r0,r0])<|sB (.ptr 160 0) 160 (.var [r0,r0,r0])<|sS 144 (.var [rI x4.a0,rI x4.a1,rI x4.a2])<|sS 160 (.var [rI x3.a0,rI x3.a1,rI x3.a2]) ?_
 refine sN<|sO<|WC.cI rfl rfl<|sM rfl<|sM rfl<|sV (.ptr 80 0)<|sL rfl<|sM rfl<|sV (.ptr 96 0)<|sL rfl<|bE h fun x17 hx17 h=>cD (dD hx17)<|sV (.ptr 144 0)<|sS 144 (.var [rI x17,rI x4.a1,rI x4.a2]) ?_
 refine sN<|sO<|gS rfl rfl<|sM rfl<|sM rfl<|sV (.ptr 144 0)<|sL rfl<|sV (rI (rW (x17+(1:Int))))<|sV (.ptr 160 0)<|sS 160 (.var [rI (rW (x17+(1:Int))),rI x3.a1,rI x3.a2])<|sN<|WC.cI rfl rfl<|sV (.ptr 16 0)<|sV (.d (aa.pd a0.aK))<|sV (.d (aU.pd (aU.mk x17 x4.a1 x4.a2)))<|bE h fun x18 hx18 h=>?_
 refine cD (bW hx18)<|sG (.d (ai.pd (ai.mk a0.aK x18)))<|sV (.d (aU.pd (aU.mk (rW (x17+(1:Int))) x3.a1 x3.a2)))<|bE h fun x19 hx19 h=>cD (bW hx19)<|sV (.ptr 16 3)<|sV (.d (aa.pd a0.aG))<|sG (.d (ai.pd (ai.mk x19 a0.aG)))<|sH 32 (.var (aa.rc a0.aK++aa.rc x18))<|sH 48 (.var (aa.rc x19++aa.rc a0.aG))<|sT ?_
 refine sN<|sO<|qR ?_
 cases oI h
 exact qG
theorem queue_Pushq_ev{a0:av}{e1:ah}{e2:Int}{e3:Int}{e4:Bool}{e5:au}{d1:(List av)}{r:(List av)}(h:nD a0 e1 e2 e3 e4 e5 d1=some r):EvP prog aB ext 444 [.ptr 0 11,.ifc 194 (.d (av.pd a0))] [.var (ah.rc e1++ .ref 1 0::rI e2::rI e3::rB e4::au.rc e5),.arr 0 194 (d1.map av.pd)] (.tup [],[.var (ah.rc e1++ .ref 1 1::rI e2::rI e3::rB e4::au.rc e5),.arr 1 194 (r.map av.pd)]):=by
 refine Ev.body rfl Tryz.func444 rfl (by kernel_rfl)<|gS rfl rfl<|sM rfl<|sG (.tup [.d (av.pd a0),rB true])<|sM rfl<|sV (.d (av.pd a0))<|sT<|sB (.ptr 64 0) 64 (.var [r0,r0,r0,r0,r0,r0,r0,r0])<|sH 64 (.var (av.rc a0))<|sA rfl<|sN<|gS rfl rfl<|sM rfl<|sN<|cT ?_
 refine WC.oi rfl rfl<|sM rfl<|sM rfl<|sV (.ptr 0 11)<|sL rfl<|sV (.d (av.pd a0))<|sG (.d (.lst ([a0].map av.pd)))<|bE h fun x1 hx1 h=>aR hx1 (fun _=>rfl) rfl<|sV (.ptr 0 11)<|sS 0 (.var (ah.rc e1++ .ref 1 1::rI e2::rI e3::rB e4::au.rc e5)) ?_
 refine sN<|sO ?_
 cases oI h
 exact qG
theorem heap_Pushq_ev{a0:av}{e1:ah}{e2:Int}{e3:Int}{e4:Bool}{e5:au}{d1:(List av)}{r:(List av)}(h:lv a0 e1 e2 e3 e4 e5 d1=some r):EvP prog aB ext 268 [.ifc 309 (.ptr 0 11),.ifc 194 (.d (av.pd a0))] [.var (ah.rc e1++ .ref 1 0::rI e2::rI e3::rB e4::au.rc e5),.arr 0 194 (d1.map av.pd)] (.tup [],[.var (ah.rc e1++ .ref 1 1::rI e2::rI e3::rB e4::au.rc e5),.arr 1 194 (r.map av.pd)]):=by
 refine Ev.body rfl Tryz.func268 rfl (by kernel_rfl)<|gS rfl rfl<|sM rfl<|sM rfl<|bE h fun x1 hx1 h=>WO.qA (g:=444) (args:=[.ptr 0 11,.ifc 194 (.d (av.pd a0))]) (v:= .tup []) (u:=[(0,.var (ah.rc e1++ .ref 1 1::rI e2::rI e3::rB e4::au.rc e5)),(1,.arr 1 194 (x1.map av.pd))]) rfl rfl (by intro _;kernel_rfl) rfl rfl rfl rfl rfl (queue_Pushq_ev hx1) rfl rfl rfl rfl<|sN<|WC.region rfl rfl<|sM rfl<|sM rfl<|bE h fun x2 hx2 h=>WO.xf (e:=190) (c:= .ptr 0 11) (vl:= .ref 1 1) (g:=440) (args:=[]) (v:=rI x2) (u:=[ ]) rfl rfl (by intro _;kernel_rfl) rfl rfl rfl rfl rfl rfl (oN hx2) rfl rfl rfl rfl<|sV (rI (rW (x2-(1:Int))))<|bE h fun x3 hx3 h=>cR (.tup []) [(0,.var (ah.rc e1++ .ref 1 1::rI e2::rI e3::rB e4::au.rc e5)),(1,.arr 1 194 (x3.map av.pd))] (heap_up_ev hx3) ?_
 refine sN ?_
 cases oI h
 exact qG
theorem qb{a0:ai}{e1:ah}{e2:Int}{e3:Int}{e4:Bool}{e5:au}{d1:(List av)}{r:Int×Int×(List av)}(h:jh a0 e1 e2 e3 e4 e5 d1=some r):EvP prog aB ext 184 [.ptr 0 0,.d (ai.pd a0)] [.var (ah.rc e1++ .ref 1 0::rI e2::rI e3::rB e4::au.rc e5),.arr 0 194 (d1.map av.pd)] (rI r.1,[.var (ah.rc e1++ .ref 1 1::rI r.2.1::rI e3::rB e4::au.rc e5),.arr 1 194 (r.2.2.map av.pd)]):=by
 refine Ev.body rfl Tryz.func184 rfl (by kernel_rfl)<|gS rfl rfl<|sB (.ptr 48 0) 48 (.var (ai.rc a0))<|sV (r0)<|sN<|WC.cI rfl rfl<|sM rfl<|sV (.ptr 0 0)<|sV (.ptr 0 0)<|sV (.d (ah.pd e1))<|sV (.d (ai.pd a0))<|bE h fun x1 hx1 h=>cR (.tup [rI x1.1,rI x1.2]) [] (pe hx1)<|sM rfl<|sV (rI x1.1) ?_
 refine sV (rI x1.2)<|sA rfl<|sA rfl ?_
 refine sN<|sO<|WC.join (α:=Int×(List av)) (fun x R' B'=>b8 prog 2 (A R' B') (aB.at_ 184 2 5)=some (A [(6,rI x1.2)] [(0,.var (ah.rc e1++ .ref 1 1::rI x.1::rI e3::rB e4::au.rc e5)),(1,.arr 1 194 (x.2.map av.pd))])) (fun x=>ji x1 x.1 x.2=some r) ?_ ?_
 ·refine gS rfl rfl<|sM rfl<|sF h (fun h=>?_) fun h=>?_
  ·refine sN<|cT<|WC.cI rfl rfl<|sM rfl<|sV (.ptr 0 0)<|sV (.ptr 0 11)<|sG (.ifc 309 (.ptr 0 11))<|sV (.d (ai.pd a0))<|sM rfl<|sM rfl<|sV (.ptr 0 0)<|sV (.ptr 0 12)<|sL rfl<|sG (.d (av.pd (av.mk a0 x1.1 e2)))<|sG (.ifc 194 (.d (av.pd (av.mk a0 x1.1 e2)))) ?_
   refine bE h fun x6 hx6 h=>cR (.tup []) [(0,.var (ah.rc e1++ .ref 1 1::rI e2::rI e3::rB e4::au.rc e5)),(1,.arr 1 194 (x6.map av.pd))] (heap_Pushq_ev hx6) ?_
   exact sN<|sO<|WC.region rfl rfl<|sM rfl<|sV (.ptr 0 0)<|sV (.ptr 0 12)<|sL rfl<|sV (rI (rW (e2+(1:Int))))<|sV (.ptr 0 0)<|sV (.ptr 0 12)<|sS 0 (.var (ah.rc e1++ .ref 1 1::rI (rW (e2+(1:Int)))::rI e3::rB e4::au.rc e5))<|sN<|⟨((rW (e2+(1:Int))),x6),rfl,h⟩
  exact sN<|cF<|qK<|⟨(e2,d1),rfl,h⟩
 rintro⟨j2,j3⟩ R' B' hI h
 refine gS rfl hI<|sM rfl<|sA rfl<|sN<|qR ?_
 cases oI h
 exact qG
theorem search_step_ev{e0:ah}{e1:Int}{e2:Int}{e3:Bool}{e4:au}{d1:(List av)}{r:Int×Int×Int×Bool×au×(List av)}(h:kD e0 e1 e2 e3 e4 d1=some r):EvP prog aB ext 186 [.ptr 0 0] [.var (ah.rc e0++ .ref 1 0::rI e1::rI e2::rB e3::au.rc e4),.arr 0 194 (d1.map av.pd)] (rI r.1,[.var (ah.rc e0++ .ref 1 1::rI r.2.1::rI r.2.2.1::rB r.2.2.2.1::au.rc r.2.2.2.2.1),.arr 1 194 (r.2.2.2.2.2.map av.pd)]):=by
 refine Ev.body rfl Tryz.func186 rfl (by kernel_rfl)<|gS rfl rfl<|sV (r0)<|sN<|qS<|gS rfl rfl<|sM rfl<|sV (.ptr 0 0)<|sV (.ptr 0 13)<|sL rfl<|sF h (fun h=>?_) fun h=>?_
 ·refine sN<|cT<|WC.kB (R0:=[]) (B0:=[(0,.var (ah.rc e0++ .ref 1 1::rI e1::rI e2::rB e3::au.rc e4)),(1,.arr 1 194 (d1.map av.pd))]) rfl rfl<|sV (rI 25)<|sN<|qR ?_
  cases oI h
  exact qG
 refine sN<|cF<|qK<|gS rfl rfl<|sM rfl<|sV (.ptr 0 0)<|sV (.ptr 0 11)<|sL rfl<|bE h fun x3 hx3 h=>WO.p8 hx3 rfl rfl rfl rfl rfl rfl rfl rfl<|sV (.elt 1 0 ((0:Int)).toNat 0)<|bE h fun x4 hx4 h=>WO.pJ hx4 rfl rfl rfl rfl rfl rfl<|sB (.ptr 48 0) 48 (.var zZ5)<|sH 48 (.var (ai.rc x4.kg)) ?_
 refine sN<|gS rfl rfl<|sM rfl<|sV (.ptr 0 0)<|sV (.ptr 0 11)<|sG (.ifc 309 (.ptr 0 11))<|bE h fun x5 hx5 h=>cR (.ifc 194 (.d (av.pd x5.1))) [(0,.var (ah.rc e0++ .ref 1 1::rI e1::rI e2::rB e3::au.rc e4)),(1,.arr 1 194 (x5.2.map av.pd))] (heap_Pop_ev hx5)<|sN<|gS rfl rfl<|sM rfl<|sV (.ptr 0 0)<|sV (.ptr 0 13)<|sL rfl<|sV (rI (rW (e2+(1:Int)))) ?_
 refine sV (.ptr 0 0)<|sV (.ptr 0 13)<|sS 0 (.var (ah.rc e0++ .ref 1 1::rI e1::rI (rW (e2+(1:Int)))::rB e3::au.rc e4))<|sN<|qS<|gS rfl rfl<|sM rfl<|sV (.d (ai.pd x4.kg))<|bE h fun x6 hx6 h=>cR (rI x6.1) [(0,.var (ah.rc e0++ .ref 1 1::rI e1::rI (rW (e2+(1:Int)))::rB x6.2.1::au.rc x6.2.2)),(1,.arr 1 194 (x5.2.map av.pd))] (search_look_ev hx6)<|sA rfl<|sN<|gS rfl rfl<|sM rfl<|sF h (fun h=>?_) fun h=>?_
 ·refine sN<|cT<|gS rfl rfl<|sM rfl<|sA rfl<|sN<|qR ?_
  cases oI h
  exact qG
 refine sN<|cF<|qK<|gS rfl rfl<|sV (.d (ai.pd x4.kg))<|bE h fun x8 hx8 h=>cR (.tup [.d (ai.pd x8.1),.d (ai.pd x8.2.1),rB x8.2.2]) [] (rQ hx8)<|sM rfl<|sV (.d (ai.pd x8.1))<|sV (.d (ai.pd x8.2.1))<|sV (rB x8.2.2)<|sB (.ptr 80 0) 80 (.var zZ5)<|sB (.ptr 96 0) 96 (.var zZ5)<|sH 80 (.var (ai.rc x8.1))<|sH 96 (.var (ai.rc x8.2.1)) ?_
 refine sA rfl<|sN<|qS<|gS rfl rfl<|sM rfl<|sF h (fun h=>?_) fun h=>?_
 ·refine sN<|cT<|gS rfl rfl<|sV (r0)<|sN<|qR ?_
  cases oI h
  exact qG
 refine sN<|cF<|qK<|qS<|gS rfl rfl<|sM rfl<|sV (.d (ai.pd x8.1))<|bE h fun x10 hx10 h=>cR (rI x10.1) [(0,.var (ah.rc e0++ .ref 1 2::rI x10.2.1::rI (rW (e2+(1:Int)))::rB x6.2.1::au.rc x6.2.2)),(1,.arr 2 194 (x10.2.2.map av.pd))] (qb hx10)<|sA rfl<|sN<|gS rfl rfl<|sM rfl<|sF h (fun h=>?_) fun h=>?_
 ·refine sN<|cT<|gS rfl rfl<|sM rfl<|sA rfl<|sN<|qR ?_
  cases oI h
  exact qG
 refine sN<|cF<|qK<|gS rfl rfl<|sM rfl<|sV (.d (ai.pd x8.2.1))<|bE h fun x12 hx12 h=>cR (rI x12.1) [(0,.var (ah.rc e0++ .ref 1 3::rI x12.2.1::rI (rW (e2+(1:Int)))::rB x6.2.1::au.rc x6.2.2)),(1,.arr 3 194 (x12.2.2.map av.pd))] (qb hx12)<|sA rfl<|sN<|qR ?_
 cases oI h
 exact qG
theorem qM{a0:ah}{a1:Int}{r:(Option bT)×Int}(h:iV a0 a1=some r):EvP prog aB ext 108 [.d (ah.pd a0),rI a1] [] (match r.1 with|none=>(.tup [.d (.raw (.pointer none)),rI r.2],[])|some yv=>(.tup [.ptr 0 0,rI r.2],[.var (bT.rc yv)])):=by
 refine Ev.body rfl Tryz.func108 rfl (by kernel_rfl)<|gS rfl rfl<|sB (.ptr 32 0) 32 (.var (ah.rc a0))<|sV (.d (.raw (.pointer none)))<|sV (r0)<|sN<|qS<|gS rfl rfl<|sV (.d (ah.pd a0))<|bE h fun x1 hx1 h=>cD (m8 hx1)<|sA rfl<|sN<|gS rfl rfl<|sM rfl ?_
 refine sF h (fun h=>?_) fun h=>?_
 ·refine sN<|cT<|gS rfl rfl<|sM rfl<|sV (.d (.raw (.pointer none)))<|sA rfl<|sN<|qR ?_
  cases oI h
  exact qG
 refine sN<|cF<|qK<|qS<|gS rfl rfl<|sM rfl<|sF h (fun h=>?_) fun h=>?_
 ·refine sN<|cT<|gS rfl rfl<|sV (.d (.raw (.pointer none)))<|sV (rI 2)<|sN<|qR ?_
  cases oI h
  exact qG
 refine sN<|cF<|qK<|gS rfl rfl<|sV (.d (ah.pd a0))<|sG (.agg (ah.rc a0++[.dg,r0,r0,rB false,r0,r0,r0,r0,r0,r0,r0,r0,r0,r0,r0,r0]))<|sB (.ptr 304 0) 304 (.var (ah.rc a0++[.dg,r0,r0,rB false,r0,r0,r0,r0,r0,r0,r0,r0,r0,r0,r0,r0]))<|sA rfl<|sN<|qS<|gS rfl rfl<|sM rfl<|sV (.ptr 32 0)<|sV (.d (ai.pd a0.aN))<|bE h fun x4 hx4 h=>?_
 refine cR (rI x4.1) [(304,.var (ah.rc a0++[.ref 368 0,rI x4.2.2,r0,rB false,r0,r0,r0,r0,r0,r0,r0,r0,r0,r0,r0,r0])),(368,.arr 0 194 (x4.2.1.map av.pd))] (search_add_ev hx4)<|sA rfl<|sN<|gS rfl rfl<|sM rfl<|sF h (fun h=>?_) fun h=>?_
 ·refine sN<|cT<|gS rfl rfl<|sM rfl<|sV (.d (.raw (.pointer none)))<|sA rfl<|sN<|qR ?_
  cases oI h
  exact qG
 refine sN<|cF<|qK<|qS<|bE h fun o22 ho22 h=>WC.block (WC.loop (WL.gE ho22 (fun s R' B'=>b8 prog 0 (A R' B') (aB.at_ 108 0 10)=some (A [(1,rI a1),(7,.ptr 304 0)] [(304,.var (ah.rc a0++ .ref 368 0::rI s.1::rI s.2.1::rB s.2.2.1::au.rc s.2.2.2.1)),(368,.arr 0 194 (s.2.2.2.2.map av.pd))])) (fun o e R' B'=>match o with| .inl y=>e= .exit 0∧b8 prog 0 (A R' B') (aB.at_ 108 0 14)=some (A [(7,.ptr 304 0)] [(304,.var (ah.rc a0++rM av.pd y.1::rI y.2.1::rI y.2.2.1::rB y.2.2.2.1::au.rc y.2.2.2.2))])| .inr r=>e= .ret∧finish prog (aB.own 108) Tryz.f108 0 (A R' B')=some (match r.1 with|none=>(.tup [.d (.raw (.pointer none)),rI r.2],[])|some yv=>(.tup [.ptr 0 0,rI r.2],[.var (bT.rc yv)]))) rfl ?_ ?_))
 ·rintro⟨s6,s7,s8,s9,s10⟩ R' B' q16 hI h
  unfold kW at h
  refine qS<|gS rfl hI<|sM rfl<|sM rfl<|bE h fun x17 hx17 h=>cR (rB x17) [(304,.var (ah.rc a0++ .ref 368 0::rI s6::rI s7::rB s8::au.rc s9)),(368,.arr 0 194 (s10.map av.pd))] (search_ended_ev hx17)<|sF h (fun h=>?_) fun h=>?_
  ·refine sN<|cT<|qK<|qB<|gS rfl rfl<|sM rfl<|bE h fun x19 hx19 h=>cR (rI x19.1) [(304,.var (ah.rc a0++ .ref 368 1::rI x19.2.1::rI x19.2.2.1::rB x19.2.2.2.1::au.rc x19.2.2.2.2.1)),(368,.arr 1 194 (x19.2.2.2.2.2.map av.pd))] (search_step_ev hx19)<|sA rfl<|sN<|gS rfl rfl<|sM rfl<|sF h (fun h=>?_) fun h=>?_
   ·refine sN<|cT<|gS rfl rfl<|sM rfl<|sV (.d (.raw (.pointer none)))<|sA rfl<|sN<|qR ?_
    cases oI h
    exact⟨nofun,rfl,rfl⟩
   refine sN<|cF<|qK ?_
   cases oI h
   exact⟨rfl,rfl⟩
  refine sN<|cF<|qX ?_
  cases oI h
  exact⟨nofun,rfl,rfl⟩
 intro e R' B' he hq
 rcases o22 with y23|r24
 ·obtain⟨rfl,hI⟩:=hq
  refine qE<|gS rfl hI<|sM rfl<|sA rfl<|sV (r0)<|sN<|qR ?_
  cases oI h
  exact qG
 obtain⟨rfl,hf⟩:=hq
 cases oI h
 exact hf
theorem locate_run_evN{a0:ah}{a1:Int}{r:(Option bT)×Int}(h:iV a0 a1=some r)(ho:r.1=none):EvP prog aB ext 108 [.d (ah.pd a0),rI a1] [] (.tup [.d (.raw (.pointer none)),rI r.2],[]):=by
  have:=qM h;rw [ho]at this;exact this
theorem locate_run_evS{a0:ah}{a1:Int}{r:(Option bT)×Int}{yv:bT}(h:iV a0 a1=some r)(ho:r.1=some yv):EvP prog aB ext 108 [.d (ah.pd a0),rI a1] [] (.tup [.ptr 0 0,rI r.2],[.var (bT.rc yv)]):=by
  have:=qM h;rw [ho]at this;exact this
theorem geometry_Hull_ev{a0:ai}{a1:ai}{r:ai}(h:lP a0 a1=some r):EvP prog aB ext 109 [.d (ai.pd a0),.d (ai.pd a1)] [] (.d (ai.pd r),[]):=by
 refine Ev.body rfl Tryz.func109 rfl (by kernel_rfl)<|gS rfl rfl<|sB (.ptr 32 0) 32 (.var (ai.rc a0))<|sB (.ptr 48 0) 48 (.var (ai.rc a1))<|sB (.ptr 64 0) 64 (.var zZ5)<|sN<|qS<|gS rfl rfl<|sV (.d (ai.pd a0))<|bE h fun x1 hx1 h=>cD (bJ hx1)<|sF h (fun h=>?_) fun h=>?_
 ·refine sM rfl<|k3<|sT<|sN<|cT<|gS rfl rfl<|sG (.d (ai.pd (ai.mk (aa.mk 0 0 0) (aa.mk 0 0 0))))<|sH 64 (.var zZ5)<|sN<|qR ?_
  cases oI h
  exact qG
 refine sM rfl<|sV (.d (ai.pd a1))<|bE h fun x3 hx3 h=>cD (bJ hx3)<|sV (rB (!x3))<|sF h (fun h=>?_) fun h=>?_
 ·refine sN<|cT<|gS rfl rfl<|sG (.d (ai.pd (ai.mk (aa.mk 0 0 0) (aa.mk 0 0 0))))<|sH 64 (.var zZ5)<|sN<|qR ?_
  cases oI h
  exact qG
 refine sN<|cF<|qK<|WC.cI rfl rfl<|sV (.ptr 32 0)<|sV (.d (aa.pd a0.aK))<|bE h fun x5 hx5 h=>cD (bP hx5)<|sV (.ptr 32 3)<|sV (.d (aa.pd a0.aG))<|bE h fun x6 hx6 h=>cD (bP hx6)<|sV (.ptr 48 0)<|sV (.d (aa.pd a1.aK))<|bE h fun x7 hx7 h=>?_
 refine cD (bP hx7)<|sV (.ptr 48 3)<|sV (.d (aa.pd a1.aG))<|bE h fun x8 hx8 h=>cD (bP hx8)<|sB (.ptr 80 0) 80 (.var [r0,r0,r0])<|sB (.ptr 96 0) 96 (.var [r0,r0,r0])<|sB (.ptr 112 0) 112 (.var [r0,r0,r0])<|sB (.ptr 128 0) 128 (.var [r0,r0,r0])<|sS 80 (.var [rI x5.a0,rI x5.a1,rI x5.a2])<|sS 96 (.var [rI x6.a0,rI x6.a1,rI x6.a2])<|sS 112 (.var [rI x7.a0,rI x7.a1,rI x7.a2])<|sS 128 (.var [rI x8.a0,rI x8.a1,rI x8.a2]) ?_
 refine sN<|sO<|qS<|gS rfl rfl<|sV (r0)<|sN<|WC.block (WC.loop ?_)
 refine WL.round<|WC.kB (R0:=[(4,.ptr 64 0),(5,.ptr 80 0),(6,.ptr 96 0),(7,.ptr 112 0),(8,.ptr 128 0),(31,r0)]) (B0:=[(64,.var zZ5),(80,.var [rI x5.a0,rI x5.a1,rI x5.a2]),(96,.var [rI x6.a0,rI x6.a1,rI x6.a2]),(112,.var [rI x7.a0,rI x7.a1,rI x7.a2]),(128,.var [rI x8.a0,rI x8.a1,rI x8.a2])]) rfl rfl<|sT<|sN<|qS<|cT<|qK<|qS<|qB<|gS rfl rfl<|sM rfl<|sA rfl<|sN<|WC.oi rfl rfl<|sM rfl ?_
 refine sM rfl<|sM rfl<|sV (.ptr 80 0)<|sL rfl<|sM rfl<|sV (.ptr 112 0)<|sL rfl<|sV (rI (if x7.a0<x5.a0 then x7.a0 else x5.a0))<|sM rfl<|sV (.ptr 96 0)<|sL rfl<|sM rfl<|sV (.ptr 128 0)<|sL rfl<|sV (rI (if x8.a0>x6.a0 then x8.a0 else x6.a0)) ?_
 refine sV (.ptr 80 0)<|sS 80 (.var [rI (if x7.a0<x5.a0 then x7.a0 else x5.a0),rI x5.a1,rI x5.a2])<|sV (.ptr 96 0)<|sS 96 (.var [rI (if x8.a0>x6.a0 then x8.a0 else x6.a0),rI x6.a1,rI x6.a2]) ?_
 refine sN<|sO<|WC.region rfl rfl<|sV (rI 1)<|sM rfl<|sN<|WL.round<|WC.kB (R0:=[(4,.ptr 64 0),(5,.ptr 80 0),(6,.ptr 96 0),(7,.ptr 112 0),(8,.ptr 128 0),(31,rI 1)]) (B0:=[(64,.var zZ5),(80,.var [rI (if x7.a0<x5.a0 then x7.a0 else x5.a0),rI x5.a1,rI x5.a2]),(96,.var [rI (if x8.a0>x6.a0 then x8.a0 else x6.a0),rI x6.a1,rI x6.a2]),(112,.var [rI x7.a0,rI x7.a1,rI x7.a2]),(128,.var [rI x8.a0,rI x8.a1,rI x8.a2])]) rfl rfl<|sT<|sN<|qS<|cT<|qK<|qS<|qB<|gS rfl rfl ?_
 refine sM rfl<|sA rfl<|sN<|WC.oi rfl rfl<|sM rfl<|sM rfl<|sM rfl<|sV (.ptr 80 1)<|sL rfl<|sM rfl<|sV (.ptr 112 1)<|sL rfl<|sV (rI (if x7.a1<x5.a1 then x7.a1 else x5.a1))<|sM rfl<|sV (.ptr 96 1) ?_
 refine sL rfl<|sM rfl<|sV (.ptr 128 1)<|sL rfl<|sV (rI (if x8.a1>x6.a1 then x8.a1 else x6.a1))<|sV (.ptr 80 1)<|sS 80 (.var [rI (if x7.a0<x5.a0 then x7.a0 else x5.a0),rI (if x7.a1<x5.a1 then x7.a1 else x5.a1),rI x5.a2])<|sV (.ptr 96 1)<|sS 96 (.var [rI (if x8.a0>x6.a0 then x8.a0 else x6.a0),rI (if x8.a1>x6.a1 then x8.a1 else x6.a1),rI x6.a2]) ?_
 refine sN<|sO<|WC.region rfl rfl<|sV (rI 2)<|sM rfl<|sN<|WL.round<|WC.kB (R0:=[(4,.ptr 64 0),(5,.ptr 80 0),(6,.ptr 96 0),(7,.ptr 112 0),(8,.ptr 128 0),(31,rI 2)]) (B0:=[(64,.var zZ5),(80,.var [rI (if x7.a0<x5.a0 then x7.a0 else x5.a0),rI (if x7.a1<x5.a1 then x7.a1 else x5.a1),rI x5.a2]),(96,.var [rI (if x8.a0>x6.a0 then x8.a0 else x6.a0),rI (if x8.a1>x6.a1 then x8.a1 else x6.a1),rI x6.a2]),(112,.var [rI x7.a0,rI x7.a1,rI x7.a2]),(128,.var [rI x8.a0,rI x8.a1,rI x8.a2])]) rfl rfl<|sT<|sN<|qS<|cT<|qK<|qS<|qB<|gS rfl rfl ?_
 refine sM rfl<|sA rfl<|sN<|WC.oi rfl rfl<|sM rfl<|sM rfl<|sM rfl<|sV (.ptr 80 2)<|sL rfl<|sM rfl<|sV (.ptr 112 2)<|sL rfl<|sV (rI (if x7.a2<x5.a2 then x7.a2 else x5.a2))<|sM rfl<|sV (.ptr 96 2) ?_
 refine sL rfl<|sM rfl<|sV (.ptr 128 2)<|sL rfl<|sV (rI (if x8.a2>x6.a2 then x8.a2 else x6.a2))<|sV (.ptr 80 2)<|sS 80 (.var [rI (if x7.a0<x5.a0 then x7.a0 else x5.a0),rI (if x7.a1<x5.a1 then x7.a1 else x5.a1),rI (if x7.a2<x5.a2 then x7.a2 else x5.a2)])<|sV (.ptr 96 2)<|sS 96 (.var [rI (if x8.a0>x6.a0 then x8.a0 else x6.a0),rI (if x8.a1>x6.a1 then x8.a1 else x6.a1),rI (if x8.a2>x6.a2 then x8.a2 else x6.a2)]) ?_
 refine sN<|sO<|WC.region rfl rfl<|sV (rI 3)<|sM rfl<|sN<|WL.round<|WC.kB (R0:=[(4,.ptr 64 0),(5,.ptr 80 0),(6,.ptr 96 0),(7,.ptr 112 0),(8,.ptr 128 0),(31,rI 3)]) (B0:=[(64,.var zZ5),(80,.var [rI (if x7.a0<x5.a0 then x7.a0 else x5.a0),rI (if x7.a1<x5.a1 then x7.a1 else x5.a1),rI (if x7.a2<x5.a2 then x7.a2 else x5.a2)]),(96,.var [rI (if x8.a0>x6.a0 then x8.a0 else x6.a0),rI (if x8.a1>x6.a1 then x8.a1 else x6.a1),rI (if x8.a2>x6.a2 then x8.a2 else x6.a2)]),(112,.var [rI x7.a0,rI x7.a1,rI x7.a2]),(128,.var [rI x8.a0,rI x8.a1,rI x8.a2])]) rfl rfl<|sU<|sN<|qS<|cF<|qX<|qE<|WC.cI rfl rfl<|sV (.d (aU.pd (aU.mk (if x7.a0<x5.a0 then x7.a0 else x5.a0) (if x7.a1<x5.a1 then x7.a1 else x5.a1) (if x7.a2<x5.a2 then x7.a2 else x5.a2)))) ?_
 refine bE h fun x9 hx9 h=>cD (bW hx9)<|sV (.d (aU.pd (aU.mk (if x8.a0>x6.a0 then x8.a0 else x6.a0) (if x8.a1>x6.a1 then x8.a1 else x6.a1) (if x8.a2>x6.a2 then x8.a2 else x6.a2))))<|bE h fun x10 hx10 h=>cD (bW hx10)<|sG (.d (ai.pd (ai.mk x9 x10)))<|sH 64 (.var (aa.rc x9++aa.rc x10)) ?_
 refine sN<|sO<|qR ?_
 cases oI h
 exact qG
theorem n9{a0:ah}{a1:Int}{r:au×Int}(h:dp a0 a1=some r):EvP prog aB ext 57 [.d (ah.pd a0),rI a1] [] (.tup [.d (au.pd r.1),rI r.2],[]):=by
 refine Ev.body rfl Tryz.func57 rfl (by kernel_rfl)<|gS rfl rfl<|sB (.ptr 32 0) 32 (.var (ah.rc a0))<|sB (.ptr 64 0) 64 (.var zZ2)<|sV (r0)<|sN<|gS rfl rfl<|sV (.d (ah.pd a0))<|sM rfl<|bE h fun x1 hx1 h=>opt_elim h (fun hox1 h=>?_) (fun y2 hox1 h=>?_)
 ·refine cR (.tup [.d (.raw (.pointer none)),rI x1.2]) [] (locate_run_evN hx1 hox1)<|sM rfl<|sV (.d (.raw (.pointer none)))<|sV (rI x1.2)<|sA rfl<|sA rfl<|sN<|qS<|gS rfl rfl<|sM rfl<|sF h (fun h=>?_) fun h=>?_
  ·refine sN<|cT<|gS rfl rfl<|sG (.d (au.pd (au.mk (aa.mk 0 0 0) 0 0 0 (ai.mk (aa.mk 0 0 0) (aa.mk 0 0 0)))))<|sM rfl<|sH 64 (.var zZ2)<|sA rfl<|sN<|qR ?_
   cases oI h
   exact qG
  refine sN<|cF<|qK<|gS rfl rfl<|sM rfl ?_
  cases h
 refine cR (.tup [.ptr 224 0,rI x1.2]) [(224,.var (bT.rc y2))] (locate_run_evS hx1 hox1)<|sM rfl<|sV (.ptr 224 0)<|sV (rI x1.2)<|sA rfl<|sA rfl<|sN<|qS<|gS rfl rfl<|sM rfl<|sF h (fun h=>?_) fun h=>?_
 ·refine sN<|cT<|gS rfl rfl<|sG (.d (au.pd (au.mk (aa.mk 0 0 0) 0 0 0 (ai.mk (aa.mk 0 0 0) (aa.mk 0 0 0)))))<|sM rfl<|sH 64 (.var zZ2)<|sA rfl<|sN<|qR ?_
  cases oI h
  exact qG
 refine sN<|cF<|qK<|gS rfl rfl<|sM rfl<|sV (.ptr 224 0)<|sV (.ptr 224 15)<|sV (.d (au.pd y2.bV))<|sB (.ptr 128 0) 128 (.var zZ2)<|sH 128 (.var (au.rc y2.bV))<|sN<|gS rfl rfl<|sV (.ptr 128 4)<|sL rfl<|sV (.ptr 128 0) ?_
 refine sV (.d (aa.pd y2.bV.aV))<|sV (.ptr 128 0)<|sV (.d (aa.pd y2.bV.aV))<|sG (.d (ai.pd (ai.mk y2.bV.aV y2.bV.aV)))<|sV (.ptr 128 5)<|sS 128 (.var (aa.rc y2.bV.aV++rI y2.bV.a8::rI y2.bV.bj::rI y2.bV.bj::ai.rc y2.bV.aX))<|sV (.ptr 128 6)<|sH 128 (.var (aa.rc y2.bV.aV++rI y2.bV.a8::rI y2.bV.bj::rI y2.bV.bj::aa.rc y2.bV.aV++aa.rc y2.bV.aV))<|sN<|qS<|gS rfl rfl<|sM rfl<|sV (.ptr 224 0)<|sV (.ptr 224 11)<|sL rfl ?_
 refine sE (rI (y2.kT.length:Int)) (fB _ _)<|sV (r0)<|sN<|bE h fun o16 ho16 h=>WC.block (WC.loop (WL.gE ho16 (fun s R' B'=>b8 prog 0 (A R' B') (aB.at_ 57 0 7)=some (A [(4,.ptr 64 0),(8,.ptr 128 0),(37,rM av.pd y2.kT),(38,rI (y2.kT.length:Int)),(39,rI s.1)] [(64,.var zZ2),(128,.var (aa.rc y2.bV.aV++rI y2.bV.a8::rI y2.bV.bj::rI s.2.1::ai.rc s.2.2))])) (fun o e R' B'=>e= .exit 0∧b8 prog 0 (A R' B') (aB.at_ 57 0 13)=some (A [(4,.ptr 64 0),(8,.ptr 128 0)] [(64,.var zZ2),(128,.var (aa.rc y2.bV.aV++rI y2.bV.a8::rI y2.bV.bj::rI o.1::ai.rc o.2))])) rfl ?_ ?_))
 ·rintro⟨s5,s6,s7⟩ R' B' q10 hI h
  refine gS rfl hI<|sF h (fun h=>?_) fun h=>?_
  ·refine sN<|qS<|cT<|qK<|qS<|qB<|gS rfl rfl<|bE h fun x12 hx12 h=>eG hx12 rfl<|sV (.d (av.pd x12))<|sB (.ptr 160 0) 160 (.var [r0,r0,r0,r0,r0,r0,r0,r0])<|sH 160 (.var (av.rc x12))<|sN<|gS rfl rfl<|sV (.ptr 128 5) ?_
   refine sL rfl<|sV (.ptr 160 6)<|sL rfl<|sV (rI (if x12.cr<s6 then x12.cr else s6))<|sV (.ptr 128 5)<|sS 128 (.var (aa.rc y2.bV.aV++rI y2.bV.a8::rI y2.bV.bj::rI (if x12.cr<s6 then x12.cr else s6)::ai.rc s7))<|sN<|gS rfl rfl<|sV (.ptr 160 6)<|sL rfl<|sV (.ptr 128 4)<|sL rfl<|sF h (fun h=>?_) fun h=>?_
   ·refine sN<|cT<|WC.region rfl rfl<|sV (.ptr 128 6)<|sV (.d (ai.pd s7))<|sV (.ptr 160 0)<|sV (.d (ai.pd x12.kg))<|bE h fun x14 hx14 h=>cD (geometry_Hull_ev hx14)<|sV (.ptr 128 6)<|sH 128 (.var (aa.rc y2.bV.aV++rI y2.bV.a8::rI y2.bV.bj::rI (if x12.cr<s6 then x12.cr else s6)::ai.rc x14))<|sN<|WC.region rfl rfl<|sV (rI (rW (s5+(1:Int))))<|sM rfl ?_
    refine sN ?_
    cases oI h
    exact⟨rfl,rfl⟩
   refine sN<|cF<|qK<|WC.region rfl rfl<|sV (rI (rW (s5+(1:Int))))<|sM rfl<|sN ?_
   cases oI h
   exact⟨rfl,rfl⟩
  refine sN<|qS<|cF<|qX ?_
  cases oI h
  exact⟨nofun,rfl,rfl⟩
 intro e R' B' he hq
 obtain⟨rfl,hI⟩:=hq
 refine qE<|gS rfl hI<|sV (.d (au.pd (au.mk y2.bV.aV y2.bV.a8 y2.bV.bj o16.1 (ai.mk (aa.mk o16.2.aK.fX o16.2.aK.fY o16.2.aK.fZ) (aa.mk o16.2.aG.fX o16.2.aG.fY o16.2.aG.fZ)))))<|sH 64 (.var (aa.rc y2.bV.aV++rI y2.bV.a8::rI y2.bV.bj::rI o16.1::ai.rc o16.2))<|sV (r0)<|sN<|qR ?_
 cases oI h
 exact qG
theorem qy{a0:ah}{a1:aa}{a2:Int}{r:(List Int)×Int}(h:gB a0 a1 a2=some r):EvP prog aB ext 131 [.d (ah.pd a0),.d (aa.pd a1),rI a2] [] (.tup [rL r.1,rI r.2],[]):=by
 refine Ev.body rfl Tryz.func131 rfl (by kernel_rfl)<|gS rfl rfl<|sB (.ptr 48 0) 48 (.var (ah.rc a0))<|sB (.ptr 64 0) 64 (.var (aa.rc a1))<|sV .dg<|sV (r0)<|sN<|gS rfl rfl<|sV (.d (ah.pd a0))<|sV (.d (aa.pd a1))<|sV (.d (aa.pd a1))<|sG (.d (ai.pd (ai.mk a1 a1)))<|bE h fun x1 hx1 h=>cR (.tup [rM aL.pd x1.1,rI x1.2]) [] (mf hx1)<|sM rfl ?_
 refine sV (rM aL.pd x1.1)<|sV (rI x1.2)<|sA rfl<|sA rfl<|sN<|qS<|gS rfl rfl<|sM rfl<|sF h (fun h=>?_) fun h=>?_
 ·refine sN<|cT<|gS rfl rfl<|sM rfl<|sV .dg<|sA rfl<|sN<|qR ?_
  cases oI h
  exact qG
 refine sN<|cF<|qK<|qS<|gS rfl rfl<|sM rfl<|sF h (fun h=>?_) fun h=>?_
 ·refine sM rfl<|sK<|sK<|sT<|sN<|cT<|gS rfl rfl<|sV .dg<|sV (rI 2)<|sN<|qR ?_
  cases oI h
  exact qG
 refine sM rfl<|sM rfl<|sV (rB (decide (a2>(18014398509481984:Int))))<|sF h (fun h=>?_) fun h=>?_
 ·refine sN<|cT<|gS rfl rfl<|sV .dg<|sV (rI 2)<|sN<|qR ?_
  cases oI h
  exact qG
 refine sN<|cF<|qK<|gS rfl rfl<|sM rfl<|sE (rI (x1.1.length:Int)) (fB _ _)<|bE h fun x5 hx5 h=>WO.mkC (g:=(PD.int .i64)) hx5 rfl rfl rfl rfl rfl rfl rfl rfl rfl rfl rfl<|sA rfl<|sN<|qS<|gS rfl rfl<|sM rfl<|sE (rI (x1.1.length:Int)) (fB _ _)<|sV (r0) ?_
 refine sN<|bE h fun o15 ho15 h=>WC.block (WC.loop (WL.gE ho15 (fun s R' B'=>b8 prog 0 (A R' B') (aB.at_ 131 0 8)=some (A [(2,rI a2),(10,.ref 512 0),(33,rM aL.pd x1.1),(34,rI (x1.1.length:Int)),(35,rI s.1)] [(512,.arr 0 3 (s.2.map (PD.int .i64)))])) (fun o e R' B'=>e= .exit 0∧b8 prog 0 (A R' B') (aB.at_ 131 0 12)=some (A [(10,.ref 512 0)] [(512,.arr 0 3 (o.map (PD.int .i64)))])) rfl ?_ ?_))
 ·rintro⟨s6,s7⟩ R' B' q9 hI h
  refine gS rfl hI<|sF h (fun h=>?_) fun h=>?_
  ·refine sN<|qS<|cT<|qK<|qS<|qB<|gS rfl rfl<|bE h fun x11 hx11 h=>eG hx11 rfl<|sV (.d (aL.pd x11))<|sB (.ptr 192 0) 192 (.var [r0,r0])<|sS 192 (.var [rI x11.bB,rI x11.fTo])<|sN<|WC.region rfl rfl<|sM rfl ?_
   refine sV (.d (aL.pd x11))<|sM rfl<|bE h fun x12 hx12 h=>cD (m7 hx12)<|sV (.d (.lst ([x12].map (PD.int .i64))))<|bE h fun x13 hx13 h=>aR hx13 (fun _=>rfl) rfl<|sA rfl<|sN<|WC.region rfl rfl<|sV (rI (rW (s6+(1:Int))))<|sM rfl<|sN ?_
   cases oI h
   exact⟨rfl,rfl⟩
  refine sN<|qS<|cF<|qX ?_
  cases oI h
  exact⟨nofun,rfl,rfl⟩
 intro e R' B' he hq
 obtain⟨rfl,hI⟩:=hq
 refine qE<|gS rfl hI<|sM rfl<|sA rfl<|sV (r0)<|sN<|qR ?_
 exact oI h▸qD
theorem oY{a1:Int}{d0:(List Int)}{d1:(List Int)}{r:(List Int)×(List Int)}(h:kN a1 d0 d1=some r):EvP prog aB ext 132 [.agg [.ref 0 0,.ref 1 0],rI a1] [.arr 0 3 (d0.map (PD.int .i64)),.arr 0 3 (d1.map (PD.int .i64))] (.tup [],[.arr 0 3 (r.1.map (PD.int .i64)),.arr 0 3 (r.2.map (PD.int .i64))]):=by
 refine Ev.body rfl Tryz.func132 rfl (by kernel_rfl)<|gS rfl rfl<|sB (.ptr 32 0) 32 (.var [.ref 0 0,.ref 1 0])<|sN<|WC.oi rfl rfl<|sV (.ptr 32 0)<|sL rfl<|sV (.ptr 32 1)<|sL rfl<|sM rfl<|bE h fun x2 hx2 h=>WO.p8 hx2 rfl rfl rfl rfl rfl rfl rfl rfl<|bE h fun x3 hx3 h=>WO.pJ hx3 rfl rfl rfl rfl rfl rfl<|sV (.ptr 32 1) ?_
 refine sL rfl<|sV (.ptr 32 0)<|sL rfl<|sM rfl<|bE h fun x5 hx5 h=>WO.p8 hx5 rfl rfl rfl rfl rfl rfl rfl rfl<|bE h fun x6 hx6 h=>WO.pJ hx6 rfl rfl rfl rfl rfl rfl<|sV (.ptr 32 0)<|sL rfl<|sM rfl<|bE h fun x8 hx8 h=>WO.p8 hx8 rfl rfl rfl rfl rfl rfl rfl rfl<|bE h fun x9 hx9 h=>WO.pJ hx9 rfl rfl rfl rfl rfl rfl ?_
 refine sV (.ptr 32 1)<|sL rfl<|sM rfl<|bE h fun x11 hx11 h=>WO.p8 hx11 rfl rfl rfl rfl rfl rfl rfl rfl<|bE h fun x12 hx12 h=>WO.pJ hx12 rfl rfl rfl rfl rfl rfl<|bE h fun x14 hx14 h=>WO.p8 hx14 rfl rfl rfl rfl rfl rfl rfl rfl<|bE h fun x15 hx15 h=>WO.ss (g:=(PD.int .i64)) (sz:=1) (p:= .int .i64 x9) hx15 (fun _=>rfl) (fun _=>rfl) rfl rfl rfl rfl rfl rfl rfl rfl rfl<|bE h fun x17 hx17 h=>WO.p8 hx17 rfl rfl rfl rfl rfl rfl rfl rfl<|bE h fun x18 hx18 h=>WO.ss (g:=(PD.int .i64)) (sz:=1) (p:= .int .i64 x12) hx18 (fun _=>rfl) (fun _=>rfl) rfl rfl rfl rfl rfl rfl rfl rfl rfl ?_
 refine sN<|sO ?_
 exact oI h▸qD
theorem cmp_Less_int_ev{a0:Int}{a1:Int}{r:Bool}(h:gN a0 a1=some r):EvP prog aB ext 290 [rI a0,rI a1] [] (rB r,[]):=by
 refine Ev.body rfl Tryz.func290 rfl (by kernel_rfl)<|gS rfl rfl<|sU<|sN<|gS rfl rfl<|sM rfl<|bE h fun x1 hx1 h=>nX h (fun hb2 h=>?_) (fun hb2 h=>?_)
 ·refine WO.qA (v:=rB true) (u:=[]) rfl rfl (fun _=>rfl) rfl rfl rfl rfl rfl (gr hx1) rfl rfl (congrArg (fun b=>RV.d (.bool b)) hb2) rfl<|sM rfl<|sM rfl<|bE h fun x3 hx3 h=>cD (gr hx3)<|sV (rB (!x3))<|sF h (fun h=>?_) fun h=>?_
  ·refine sM rfl<|k3<|sT<|sA rfl<|sN<|qR ?_
   exact oI h▸qD
  refine sM rfl<|sM rfl<|sM rfl<|sV (rB (decide (a0<a1)))<|sV (rB (decide (a0<a1)))<|sA rfl<|sN<|qR ?_
  exact oI h▸qD
 refine WO.qA (v:=rB false) (u:=[]) rfl rfl (fun _=>rfl) rfl rfl rfl rfl rfl (gr hx1) rfl rfl (congrArg (fun b=>RV.d (.bool b)) hb2) rfl<|sM rfl<|k3<|sU<|sM rfl<|sM rfl<|sM rfl<|sV (rB (decide (a0<a1)))<|sV (rB (decide (a0<a1)))<|sA rfl<|sN<|qR ?_
 exact oI h▸qD
theorem kq{a1:Int}{a2:Int}{d0:(List Int)}{r:(List Int)}(h:cp a1 a2 d0=some r):EvP prog aB ext 284 [.ref 0 0,rI a1,rI a2] [.arr 0 3 (d0.map (PD.int .i64))] (.tup [],[.arr 0 3 (r.map (PD.int .i64))]):=by
 refine Ev.body rfl Tryz.func284 rfl (by kernel_rfl)<|gS rfl rfl<|sM rfl<|sV (rI (rW (a1+(1:Int))))<|sA rfl<|sN<|bE h fun o35 ho35 h=>?_
 cases oI h
 refine WC.block (WC.loop (WL.vd ho35 (fun s R' B'=>b8 prog 1 (A R' B') (aB.at_ 284 1 1)=some (A [(0,.ref 0 0),(1,rI a1),(2,rI a2),(6,rI s.1)] [(0,.arr 0 3 (s.2.map (PD.int .i64)))])) rfl ?_))
 rintro⟨s1,s2⟩ R' B' q3 hI h
 refine qS<|gS rfl hI<|sM rfl<|sM rfl<|sF h (fun h=>?_) fun h=>?_
 ·refine sN<|cT<|qK<|qS<|qB<|gS rfl rfl<|sM rfl<|sA rfl<|sN<|bE h fun o32 ho32 h=>WC.block (WC.loop (WL.gE ho32 (fun s R' B'=>b8 prog 1 (A R' B') (aB.at_ 284 1 4)=some (A [(0,.ref 0 0),(1,rI a1),(2,rI a2),(6,rI s1),(7,rI s.1)] [(0,.arr 0 3 (s.2.map (PD.int .i64)))])) (fun o e R' B'=>e= .exit 2∧b8 prog 1 (A R' B') (aB.at_ 284 1 2)=some (A [(0,.ref 0 0),(1,rI a1),(2,rI a2),(6,rI o.1)] [(0,.arr 0 3 (o.2.map (PD.int .i64)))])) rfl ?_ ?_))
  ·rintro⟨s5,s6⟩ R' B' q9 hI h
   refine qS<|WC.cI hI rfl<|sM rfl<|sM rfl<|sF h (fun h=>?_) fun h=>?_
   ·refine sM rfl<|sM rfl<|sM rfl<|bE h fun x12 hx12 h=>WO.p8 hx12 rfl rfl rfl rfl rfl rfl rfl rfl<|bE h fun x13 hx13 h=>WO.pJ hx13 rfl rfl rfl rfl rfl rfl<|sM rfl<|sM rfl<|sV (rI (rW (s5-(1:Int))))<|bE h fun x15 hx15 h=>WO.p8 hx15 rfl rfl rfl rfl rfl rfl rfl rfl<|bE h fun x16 hx16 h=>WO.pJ hx16 rfl rfl rfl rfl rfl rfl<|bE h fun x17 hx17 h=>?_
    refine cD (cmp_Less_int_ev hx17)<|sF h (fun h=>?_) fun h=>?_
    ·refine sN<|sO<|cT<|qK<|qS<|qB<|WC.oi rfl rfl<|sM rfl<|sM rfl<|sM rfl<|sM rfl<|sV (rI (rW (s5-(1:Int))))<|sM rfl<|sM rfl<|sV (rI (rW (s5-(1:Int))))<|bE h fun x20 hx20 h=>?_
     refine WO.p8 hx20 rfl rfl rfl rfl rfl rfl rfl rfl<|bE h fun x21 hx21 h=>WO.pJ hx21 rfl rfl rfl rfl rfl rfl<|sM rfl<|sM rfl<|bE h fun x23 hx23 h=>WO.p8 hx23 rfl rfl rfl rfl rfl rfl rfl rfl<|bE h fun x24 hx24 h=>WO.pJ hx24 rfl rfl rfl rfl rfl rfl<|bE h fun x26 hx26 h=>WO.p8 hx26 rfl rfl rfl rfl rfl rfl rfl rfl<|bE h fun x27 hx27 h=>WO.ss (g:=(PD.int .i64)) (sz:=1) (p:= .int .i64 x21) hx27 (fun _=>rfl) (fun _=>rfl) rfl rfl rfl rfl rfl rfl rfl rfl rfl<|bE h fun x29 hx29 h=>WO.p8 hx29 rfl rfl rfl rfl rfl rfl rfl rfl ?_
     refine bE h fun x30 hx30 h=>WO.ss (g:=(PD.int .i64)) (sz:=1) (p:= .int .i64 x24) hx30 (fun _=>rfl) (fun _=>rfl) rfl rfl rfl rfl rfl rfl rfl rfl rfl ?_
     refine sN<|sO<|WC.region rfl rfl<|sM rfl<|sV (rI (rW (s5-(1:Int))))<|sA rfl<|sN ?_
     cases oI h
     exact⟨rfl,rfl⟩
    refine sN<|sO<|cF<|qX ?_
    cases oI h
    exact⟨nofun,rfl,rfl⟩
   refine sM rfl<|k3<|k3<|k3<|sK<|sU ?_
   refine sN<|sO<|cF<|qX ?_
   cases oI h
   exact⟨nofun,rfl,rfl⟩
  intro e R' B' he hq
  obtain⟨rfl,hI⟩:=hq
  refine qE<|WC.region hI rfl<|sM rfl<|sV (rI (rW (o32.1+(1:Int))))<|sA rfl<|sN ?_
  cases oI h
  exact⟨rfl,rfl⟩
 refine sN<|cF<|qX<|tO h (fun z33 hkz33 hz=>?_)
 obtain rfl:=Option.some.inj hz
 refine⟨(fun he=>by cases he),fun hz2=>?_⟩
 subst hz2
 have h:=hkz33
 refine qE ?_
 exact oI h▸qD
theorem l6:∀(nfu:Nat){a1:Int}{a2:Int}{a3:Int}{d0:(List Int)}{r:(List Int)}(_:jk nfu a1 a2 a3 d0=some r),EvP prog aB ext 207 [.ref 0 0,rI a1,rI a2,rI a3] [.arr 0 3 (d0.map (PD.int .i64))] (.tup [],[.arr 0 3 (r.map (PD.int .i64))])
  |0,_,_,_,_,_,h=>by cases h
  |nfu+1,a1,a2,a3,d0,r,h=>by
   refine Ev.body rfl Tryz.func207 rfl (by kernel_rfl)<|gS rfl rfl<|sT<|sN<|gS rfl rfl<|sT<|sN<|bE h fun o6 ho6 h=>WC.block (WC.loop (WL.gE ho6 (fun s R' B'=>b8 prog 1 (A R' B') (aB.at_ 207 1 2)=some (A [(0,.ref 0 0),(1,rI a1),(2,rI a2),(3,rI a3),(8,rB true),(9,rB true)] [(0,.arr 0 3 (d0.map (PD.int .i64)))])) (fun o e R' B'=>e= .ret∧finish prog (aB.own 207) Tryz.f207 1 (A R' B')=some (.tup [],[.arr 0 3 (o.map (PD.int .i64))])) rfl ?_ ?_))
   ·rintro⟨⟩ R' B' q1 hI h
    refine qB<|gS rfl hI<|sM rfl<|sM rfl<|sV (rI (rW (a2-a1)))<|sA rfl<|sN<|qS<|gS rfl rfl<|sM rfl<|sF h (fun h=>?_) fun h=>?_
    ·refine sN<|cT<|gS rfl rfl<|sM rfl<|sM rfl<|sM rfl<|bE h fun x3 hx3 h=>cR (.tup []) [(0,.arr 0 3 (x3.map (PD.int .i64)))] (kq hx3)<|sN<|qR ?_
     cases oI h
     exact⟨nofun,rfl,rfl⟩
    refine sN<|cF<|qK<|qS<|gS rfl rfl<|sM rfl<|sF h (fun h=>?_) fun h=>?_
    ·refine sN<|cT<|gS rfl rfl<|sM rfl<|sM rfl<|sM rfl ?_
     cases h
    refine sN<|cF<|qK<|qS<|gS rfl rfl<|sM rfl<|sU<|sN<|cF<|qK<|gS rfl rfl<|sM rfl<|sM rfl<|sM rfl ?_
    cases h
   intro e R' B' he hq
   obtain⟨rfl,hf⟩:=hq
   cases oI h
   exact hf
theorem ml{a1:Int}{a2:Int}{a3:Int}{d0:(List Int)}{r:(List Int)}(h:di a1 a2 a3 d0=some r):EvP prog aB ext 207 [.ref 0 0,rI a1,rI a2,rI a3] [.arr 0 3 (d0.map (PD.int .i64))] (.tup [],[.arr 0 3 (r.map (PD.int .i64))]):=
  let⟨n,hn⟩:=zY h;l6 n hn
theorem ic{d0:(List Int)}{r:(List Int)}(h:da d0=some r):EvP prog aB ext 133 [.ref 0 0] [.arr 0 3 (d0.map (PD.int .i64))] (.tup [],[.arr 0 3 (r.map (PD.int .i64))]):=by
 refine Ev.body rfl Tryz.func133 rfl (by kernel_rfl)<|gS rfl rfl<|sM rfl<|WO.uT rfl rfl rfl rfl rfl rfl rfl rfl rfl<|sA rfl<|sN<|WC.region rfl rfl<|sM rfl<|sM rfl<|sM rfl<|sV (.d (.int .u64 (IntKind.wrap .u64 (d0.length:Int))))<|bE h fun x1 hx1 h=>cD (nr hx1)<|bE h fun x2 hx2 h=>cR (.tup []) [(0,.arr 0 3 (x2.map (PD.int .i64)))] (ml hx2) ?_
 refine sN ?_
 exact oI h▸qD
end Go.Dw.Et
