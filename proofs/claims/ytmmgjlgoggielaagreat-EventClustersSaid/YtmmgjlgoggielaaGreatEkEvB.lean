
import Derived.Test.YtmmgjlgoggielaaGreatEkEvA

set_option maxRecDepth 100000
set_option maxHeartbeats 4000000
namespace Go.Dw.Ek
open Go.Proofs Go.Proofs.Tryz Go.Dw
theorem nB{a0:ap}{a1:ar}{a2:ae}{r:ak×av×Bool}(h:cO a0 a1 a2=some r):EvP prog aC ext 84 [.d (ap.pd a0),.d (ar.pd a1),.d (ae.pd a2)] [] (.tup [.d (ak.pd r.1),.d (av.pd r.2.1),rB r.2.2],[]):=by
 refine Ev.body rfl Tryz.func84 rfl (by kernel_rfl)<|gS rfl rfl<|sB (.ptr 48 0) 48 (.var (ap.rc a0))<|sB (.ptr 64 0) 64 (.var [rM az.pd a1.aT])<|sB (.ptr 80 0) 80 (.var (ae.rc a2))<|sB (.ptr 96 0) 96 (.var zZ4)<|sB (.ptr 112 0) 112 (.var zZ3)<|sU<|sN<|qS<|gS rfl rfl<|sV (.d (ae.pd a2))<|bE h fun x1 hx1 h=>cD (px hx1)<|sF h (fun h=>?_) fun h=>?_
 ·refine sN<|cT<|gS rfl rfl<|sG (.d (ak.pd (ak.mk (aa.mk 0 0 0) 0 0 0)))<|sG (.agg zZ3)<|sH 96 (.var zZ4)<|sH 112 (.var zZ3)<|sU<|sN<|qR ?_
  cases oI h
  exact qG
 refine sN<|cF<|qK<|gS rfl rfl<|sV (.d (ar.pd a1))<|sV (.ptr 80 0)<|sV (.d (aw.pd a2.aD))<|sV (.ptr 80 4)<|sL rfl<|bE h fun x3 hx3 h=>cR (.tup [.d (av.pd x3.1),rI x3.2]) [] (inventory_At_ev hx3)<|sM rfl<|sV (.d (av.pd x3.1))<|sV (rI x3.2)<|sB (.ptr 144 0) 144 (.var zZ3) ?_
 refine sH 144 (.var (av.rc x3.1))<|sA rfl<|sN<|qS<|gS rfl rfl<|sM rfl<|sF h (fun h=>?_) fun h=>?_
 ·refine sN<|cT<|gS rfl rfl<|sG (.d (ak.pd (ak.mk (aa.mk 0 0 0) 0 0 0)))<|sG (.agg zZ3)<|sH 96 (.var zZ4)<|sH 112 (.var zZ3)<|sU<|sN<|qR ?_
  cases oI h
  exact qG
 refine sN<|cF<|qK<|gS rfl rfl<|sV (.ptr 144 4)<|sV (.d (aa.pd x3.1.bj))<|sV (.ptr 80 5)<|sL rfl<|sV (.ptr 80 6)<|sL rfl<|sG (.d (ak.pd (ak.mk x3.1.bj a2.aK a2.bf 1)))<|sB (.ptr 176 0) 176 (.var zZ4)<|sH 176 (.var (aa.rc x3.1.bj++[rI a2.aK,rI a2.bf,rI 1]))<|sN<|qS ?_
 refine gS rfl rfl<|sV (.ptr 48 0)<|sV (.ptr 48 6)<|sV (.d (aI.pd a0.ah.bi))<|sV (.ptr 48 0)<|sV (.ptr 48 0)<|sV (.d (ai.pd a0.ah.aO))<|sV (.d (ak.pd (ak.mk x3.1.bj a2.aK a2.bf 1)))<|bE h fun x5 hx5 h=>cR (.tup [.d (aG.pd x5.1),rI x5.2]) [] (k9 hx5)<|sM rfl<|sV (.d (aG.pd x5.1))<|sV (rI x5.2)<|sB (.ptr 192 0) 192 (.var [r0,r0])<|sS 192 (.var [rI x5.1.bp,rI x5.1.fTo]) ?_
 refine sA rfl<|sN<|gS rfl rfl<|sM rfl<|sF h (fun h=>?_) fun h=>?_
 ·refine sN<|cT<|gS rfl rfl<|sG (.d (ak.pd (ak.mk (aa.mk 0 0 0) 0 0 0)))<|sG (.agg zZ3)<|sH 96 (.var zZ4)<|sH 112 (.var zZ3)<|sU<|sN<|qR ?_
  cases oI h
  exact qG
 refine sN<|cF<|qK<|WC.dG rfl rfl<|sV (.d (ak.pd (ak.mk x3.1.bj a2.aK a2.bf 1)))<|sV (.d (av.pd x3.1))<|sH 96 (.var (aa.rc x3.1.bj++[rI a2.aK,rI a2.bf,rI 1]))<|sH 112 (.var (av.rc x3.1))<|sT ?_
 refine sN<|sO<|qR ?_
 cases oI h
 exact qG
theorem pT{a0:ap}{a1:ar}{a2:ae}{r:ak×Bool}(h:jt a0 a1 a2=some r):EvP prog aC ext 35 [.d (ap.pd a0),.d (ar.pd a1),.d (ae.pd a2)] [] (.tup [.d (ak.pd r.1),rB r.2],[]):=by
 refine Ev.body rfl Tryz.func35 rfl (by kernel_rfl)<|gS rfl rfl<|sB (.ptr 48 0) 48 (.var (ap.rc a0))<|sB (.ptr 64 0) 64 (.var [rM az.pd a1.aT])<|sB (.ptr 80 0) 80 (.var (ae.rc a2))<|sB (.ptr 96 0) 96 (.var zZ4)<|sU<|sN<|qS<|gS rfl rfl<|sV (.d (ap.pd a0))<|bE h fun x1 hx1 h=>cD (iE hx1)<|sF h (fun h=>?_) fun h=>?_
 ·refine sM rfl<|k3<|sT<|sN<|cT<|gS rfl rfl<|sG (.d (ak.pd (ak.mk (aa.mk 0 0 0) 0 0 0)))<|sH 96 (.var zZ4)<|sU<|sN<|qR ?_
  cases oI h
  exact qG
 refine sM rfl<|sV (.d (ar.pd a1))<|bE h fun x3 hx3 h=>cD (gB hx3)<|sV (rB (!x3))<|sF h (fun h=>?_) fun h=>?_
 ·refine sN<|cT<|gS rfl rfl<|sG (.d (ak.pd (ak.mk (aa.mk 0 0 0) 0 0 0)))<|sH 96 (.var zZ4)<|sU<|sN<|qR ?_
  cases oI h
  exact qG
 refine sN<|cF<|qK<|gS rfl rfl<|sV (.d (ap.pd a0))<|sV (.d (ar.pd a1))<|sV (.d (ae.pd a2))<|bE h fun x5 hx5 h=>cR (.tup [.d (ak.pd x5.1),.d (av.pd x5.2.1),rB x5.2.2]) [] (nB hx5)<|sM rfl<|sV (.d (ak.pd x5.1))<|sV (.d (av.pd x5.2.1))<|sV (rB x5.2.2)<|sB (.ptr 128 0) 128 (.var zZ4)<|sB (.ptr 144 0) 144 (.var zZ3) ?_
 refine sH 128 (.var (ak.rc x5.1))<|sH 144 (.var (av.rc x5.2.1))<|sA rfl<|sN<|gS rfl rfl<|sV (.d (ak.pd x5.1))<|sM rfl<|sH 96 (.var (ak.rc x5.1))<|sA rfl<|sN<|qR ?_
 cases oI h
 exact qG
theorem oe{a0:ap}{a1:ar}{a2:(List ae)}{r:(List ae)×(List ak)×Int}(h:kf a0 a1 a2=some r):EvP prog aC ext 65 [.d (ap.pd a0),.d (ar.pd a1),rM ae.pd a2] [] (.tup [rM ae.pd r.1,rM ak.pd r.2.1,rI r.2.2],[]):=by
 refine Ev.body rfl Tryz.func65 rfl (by kernel_rfl)<|gS rfl rfl<|sB (.ptr 48 0) 48 (.var (ap.rc a0))<|sB (.ptr 64 0) 64 (.var [rM az.pd a1.aT])<|sV .dH<|sV .dH<|sV (r0)<|sN<|qS<|qB<|gS rfl rfl<|sV (.d (ap.pd a0))<|bE h fun x1 hx1 h=>cD (iE hx1)<|sF h (fun h=>?_) fun h=>?_
 ·refine sA rfl<|sN<|cT<|gS rfl rfl<|sV .dH<|sV .dH<|sV (rI 27)<|sN<|qR ?_
  cases oI h
  exact qG
 refine sA rfl<|sN<|cF<|gS rfl rfl<|sV (.d (ar.pd a1))<|bE h fun x3 hx3 h=>cD (gB hx3)<|sF h (fun h=>?_) fun h=>?_
 ·refine sA rfl<|sN<|cT<|gS rfl rfl<|sV .dH<|sV .dH<|sV (rI 1)<|sN<|qR ?_
  cases oI h
  exact qG
 refine sA rfl<|sN<|cF<|qK<|gS rfl rfl<|sV .dH<|sN<|gS rfl rfl<|sV .dH<|sN<|qS<|gS rfl rfl<|sM rfl<|bE h fun x5 hx5 h=>cD (oR hx5) ?_
 refine sE (rI (x5.length:Int)) (dT _ _)<|sV (r0)<|sN<|bE h fun o19 ho19 h=>WC.block (WC.loop (WL.gv ho19 (fun s R' B'=>cI prog 0 (A R' B') (aC.at_ 65 0 8)=some (A [(3,.ptr 48 0),(4,.ptr 64 0),(9,.ref 656 0),(10,.ref 720 0),(24,rM ae.pd x5),(25,rI (x5.length:Int)),(26,rI s.1)] [(48,.var (ap.rc a0)),(64,.var [rM az.pd a1.aT]),(656,.arr 0 66 (s.2.1.map ae.pd)),(720,.arr 0 81 (s.2.2.map ak.pd))])) (fun o e R' B'=>e= .exit 1∧cI prog 0 (A R' B') (aC.at_ 65 0 14)=some (A [(9,.ref 656 0),(10,.ref 720 0)] [(656,.arr 0 66 (o.1.map ae.pd)),(720,.arr 0 81 (o.2.map ak.pd))])) rfl ?_ ?_))
 ·rintro⟨s6,s7,s8⟩ R' B' q11 hI h
  refine gS rfl hI<|sF h (fun h=>?_) fun h=>?_
  ·refine sN<|qS<|cT<|qK<|qS<|qB<|gS rfl rfl<|bE h fun x13 hx13 h=>eG hx13 rfl<|sV (.d (ae.pd x13))<|sB (.ptr 192 0) 192 (.var zZ2)<|sH 192 (.var (ae.rc x13))<|sN<|gS rfl rfl<|sV (.d (ap.pd a0)) ?_
   refine sV (.d (ar.pd a1))<|sV (.d (ae.pd x13))<|bE h fun x14 hx14 h=>cR (.tup [.d (ak.pd x14.1),rB x14.2]) [] (pT hx14)<|sM rfl<|sV (.d (ak.pd x14.1))<|sV (rB x14.2)<|sB (.ptr 208 0) 208 (.var zZ4)<|sH 208 (.var (ak.rc x14.1))<|sA rfl<|sN<|gS rfl rfl<|sF h (fun h=>?_) fun h=>?_
   ·refine sN<|cT<|WC.kI rfl rfl<|sM rfl<|sV (.d (ae.pd x13))<|sG (.d (.lst ([x13].map ae.pd)))<|bE h fun x16 hx16 h=>aR hx16 (fun _=>rfl) rfl<|sM rfl<|sV (.d (ak.pd x14.1))<|sV (.d (.lst ([x14.1].map ak.pd)))<|bE h fun x17 hx17 h=>aR hx17 (fun _=>rfl) rfl<|sA rfl<|sA rfl ?_
    refine sN<|sO<|WC.region rfl rfl<|sV (rI (rW (s6+(1:Int))))<|sM rfl<|sN ?_
    cases oI h
    exact⟨rfl,rfl⟩
   refine sN<|cF<|qK<|WC.region rfl rfl<|sV (rI (rW (s6+(1:Int))))<|sM rfl<|sN ?_
   cases oI h
   exact⟨rfl,rfl⟩
  refine sN<|qS<|cF<|qX ?_
  cases oI h
  exact⟨nofun,rfl,rfl⟩
 intro e R' B' he hq
 obtain⟨rfl,hI⟩:=hq
 refine qE<|qS<|gS rfl hI<|sM rfl<|WO.ud rfl rfl rfl rfl rfl rfl rfl rfl rfl<|sF h (fun h=>?_) fun h=>?_
 ·refine sN<|cT<|gS rfl rfl<|sV .dH<|sV .dH<|sV (rI 8)<|sN<|qR ?_
  exact oI h▸qD
 refine sN<|cF<|qK<|gS rfl rfl<|sM rfl<|sM rfl<|sA rfl<|sA rfl<|sV (r0)<|sN<|qR ?_
 exact oI h▸qD
theorem lU{a0:aa}{a1:aa}{r:Int}(h:dQ a0 a1=some r):EvP prog aC ext 230 [.d (aa.pd a0),.d (aa.pd a1)] [] (rI r,[]):=by
 refine Ev.body rfl Tryz.func230 rfl (by kernel_rfl)<|gS rfl rfl<|sB (.ptr 32 0) 32 (.var (aa.rc a0))<|sB (.ptr 48 0) 48 (.var (aa.rc a1))<|sV (r0)<|sN<|WC.dG rfl rfl<|sV (.ptr 32 0)<|sL rfl<|sV (.ptr 48 0)<|sL rfl<|bE h fun x1 hx1 h=>cD (bK hx1)<|sV (.ptr 32 1)<|sL rfl ?_
 refine sV (.ptr 48 1)<|sL rfl<|bE h fun x2 hx2 h=>cD (bK hx2)<|sV (.ptr 32 2)<|sL rfl<|sV (.ptr 48 2)<|sL rfl<|bE h fun x3 hx3 h=>cD (bK hx3)<|sV (.d (.lst ([x1,x2,x3].map (PD.int .i64))))<|bE h fun x4 hx4 h=>cD (gT hx4)<|sA rfl ?_
 refine sN<|sO<|qR ?_
 exact oI h▸qD
theorem ov{a0:ak}{a1:ak}{r:Int}(h:ie a0 a1=some r):EvP prog aC ext 151 [.d (ak.pd a0),.d (ak.pd a1)] [] (rI r,[]):=by
 refine Ev.body rfl Tryz.func151 rfl (by kernel_rfl)<|gS rfl rfl<|sB (.ptr 32 0) 32 (.var (ak.rc a0))<|sB (.ptr 48 0) 48 (.var (ak.rc a1))<|sV (r0)<|sN<|WC.dG rfl rfl<|sV (.ptr 32 3)<|sL rfl<|sV (.ptr 48 3)<|sL rfl<|bE h fun x1 hx1 h=>cD (bK hx1)<|sV (.ptr 32 4)<|sL rfl ?_
 refine sV (.ptr 48 4)<|sL rfl<|bE h fun x2 hx2 h=>cD (bK hx2)<|sV (.ptr 32 0)<|sV (.d (aa.pd a0.aN))<|sV (.ptr 48 0)<|sV (.d (aa.pd a1.aN))<|bE h fun x3 hx3 h=>cD (lU hx3)<|sV (.ptr 32 5)<|sL rfl<|sV (.ptr 48 5)<|sL rfl<|bE h fun x4 hx4 h=>?_
 refine cD (bK hx4)<|sV (.d (.lst ([x1,x2,x3,x4].map (PD.int .i64))))<|bE h fun x5 hx5 h=>cD (gT hx5)<|sA rfl ?_
 refine sN<|sO<|qR ?_
 exact oI h▸qD
theorem ni{a0:Int}{a1:Int}{d0:(List ak)}{r:Int}(h:fw a0 a1 d0=some r):EvP prog aC ext 150 [rI a0,rI a1,.ptr 0 0] [.var [rM ak.pd d0]] (rI r,[.var [rM ak.pd d0]]):=by
 refine Ev.body rfl Tryz.func150 rfl (by kernel_rfl)<|gS rfl rfl<|sV (r0)<|sN<|WC.dG rfl rfl<|sL rfl<|sM rfl<|bE h fun x1 hx1 h=>eG hx1 rfl<|sV (.d (ak.pd x1))<|sL rfl<|sM rfl<|bE h fun x2 hx2 h=>eG hx2 rfl<|sV (.d (ak.pd x2)) ?_
 refine bE h fun x3 hx3 h=>cD (ov hx3)<|sA rfl ?_
 refine sN<|sO<|qR ?_
 exact oI h▸qD
theorem dX{a0:Int}{a1:Int}{d0:(List Int)}{d1:(List ak)}{r:(List Int)}(h:cj a0 a1 d0 d1=some r):EvP prog aC ext 301 [.ref 0 0,rI a0,rI a1,.clo 150 [.ptr 1 0]] [.arr 0 3 (d0.map (PD.int .i64)),.var [rM ak.pd d1]] (.tup [],[.arr 0 3 (r.map (PD.int .i64)),.var [rM ak.pd d1]]):=by
 refine Ev.body rfl Tryz.func301 rfl (by kernel_rfl)<|gS rfl rfl<|sM rfl<|sV (rI (rW (a0+(1:Int))))<|sA rfl<|sN<|bE h fun o35 ho35 h=>?_
 cases oI h
 refine WC.block (WC.loop (WL.vH ho35 (fun s R' B'=>cI prog 2 (A R' B') (aC.at_ 301 2 1)=some (A [(0,.ref 0 0),(1,rI a0),(2,rI a1),(3,.clo 150 [.ptr 1 0]),(8,rI s.1)] [(0,.arr 0 3 (s.2.map (PD.int .i64))),(1,.var [rM ak.pd d1])])) rfl ?_))
 rintro⟨s1,s2⟩ R' B' q3 hI h
 refine qS<|gS rfl hI<|sM rfl<|sM rfl<|sF h (fun h=>?_) fun h=>?_
 ·refine sN<|cT<|qK<|qS<|qB<|gS rfl rfl<|sM rfl<|sA rfl<|sN<|bE h fun o32 ho32 h=>WC.block (WC.loop (WL.gv ho32 (fun s R' B'=>cI prog 2 (A R' B') (aC.at_ 301 2 4)=some (A [(0,.ref 0 0),(1,rI a0),(2,rI a1),(3,.clo 150 [.ptr 1 0]),(8,rI s1),(9,rI s.1)] [(0,.arr 0 3 (s.2.map (PD.int .i64))),(1,.var [rM ak.pd d1])])) (fun o e R' B'=>e= .exit 2∧cI prog 2 (A R' B') (aC.at_ 301 2 2)=some (A [(0,.ref 0 0),(1,rI a0),(2,rI a1),(3,.clo 150 [.ptr 1 0]),(8,rI o.1)] [(0,.arr 0 3 (o.2.map (PD.int .i64))),(1,.var [rM ak.pd d1])])) rfl ?_ ?_))
  ·rintro⟨s5,s6⟩ R' B' q9 hI h
   refine qS<|WC.dG hI rfl<|sM rfl<|sM rfl<|sF h (fun h=>?_) fun h=>?_
   ·refine sM rfl<|sM rfl<|sM rfl<|sM rfl<|bE h fun x12 hx12 h=>WO.qy hx12 rfl rfl rfl rfl rfl rfl rfl rfl<|bE h fun x13 hx13 h=>WO.pO hx13 rfl rfl rfl rfl rfl rfl<|sM rfl<|sM rfl<|sV (rI (rW (s5-(1:Int))))<|bE h fun x15 hx15 h=>WO.qy hx15 rfl rfl rfl rfl rfl rfl rfl rfl<|bE h fun x16 hx16 h=>WO.pO hx16 rfl rfl rfl rfl rfl rfl ?_
    refine bE h fun x17 hx17 h=>cR (rI x17) [(1,.var [rM ak.pd d1])] (ni hx17)<|sV (rB (decide (x17<(0:Int))))<|sF h (fun h=>?_) fun h=>?_
    ·refine sN<|sO<|cT<|qK<|qS<|qB<|WC.kI rfl rfl<|sM rfl<|sM rfl<|sM rfl<|sM rfl<|sV (rI (rW (s5-(1:Int))))<|sM rfl<|sM rfl<|sV (rI (rW (s5-(1:Int))))<|bE h fun x20 hx20 h=>?_
     refine WO.qy hx20 rfl rfl rfl rfl rfl rfl rfl rfl<|bE h fun x21 hx21 h=>WO.pO hx21 rfl rfl rfl rfl rfl rfl<|sM rfl<|sM rfl<|bE h fun x23 hx23 h=>WO.qy hx23 rfl rfl rfl rfl rfl rfl rfl rfl<|bE h fun x24 hx24 h=>WO.pO hx24 rfl rfl rfl rfl rfl rfl<|bE h fun x26 hx26 h=>WO.qy hx26 rfl rfl rfl rfl rfl rfl rfl rfl<|bE h fun x27 hx27 h=>WO.rD (g:=(PD.int .i64)) (sz:=1) (p:= .int .i64 x21) hx27 (fun _=>rfl) (fun _=>rfl) rfl rfl rfl rfl rfl rfl rfl rfl rfl<|bE h fun x29 hx29 h=>WO.qy hx29 rfl rfl rfl rfl rfl rfl rfl rfl ?_
     refine bE h fun x30 hx30 h=>WO.rD (g:=(PD.int .i64)) (sz:=1) (p:= .int .i64 x24) hx30 (fun _=>rfl) (fun _=>rfl) rfl rfl rfl rfl rfl rfl rfl rfl rfl ?_
     refine sN<|sO<|WC.region rfl rfl<|sM rfl<|sV (rI (rW (s5-(1:Int))))<|sA rfl<|sN ?_
     cases oI h
     exact⟨rfl,rfl⟩
    refine sN<|sO<|cF<|qX ?_
    cases oI h
    exact⟨nofun,rfl,rfl⟩
   refine sM rfl<|k3<|k3<|k3<|k3<|sU ?_
   refine sN<|sO<|cF<|qX ?_
   cases oI h
   exact⟨nofun,rfl,rfl⟩
  intro e R' B' he hq
  obtain⟨rfl,hI⟩:=hq
  refine qE<|WC.region hI rfl<|sM rfl<|sV (rI (rW (o32.1+(1:Int))))<|sA rfl<|sN ?_
  cases oI h
  exact⟨rfl,rfl⟩
 refine sN<|cF<|qX<|tq h (fun z33 hkz33 hz=>?_)
 obtain rfl:=Option.some.inj hz
 refine⟨(fun he=>by cases he),fun hz2=>?_⟩
 subst hz2
 have h:=hkz33
 refine qE ?_
 exact oI h▸qD
theorem kA{a0:Int}{d0:(List Int)}{d1:(List ak)}{r:(List Int)}(h:ep a0 d0 d1=some r):EvP prog aC ext 229 [.ref 0 0,rI a0,.clo 150 [.ptr 1 0]] [.arr 0 3 (d0.map (PD.int .i64)),.var [rM ak.pd d1]] (.tup [],[.arr 0 3 (r.map (PD.int .i64)),.var [rM ak.pd d1]]):=by
 refine Ev.body rfl Tryz.func229 rfl (by kernel_rfl)<|gS rfl rfl<|sV (rI 20)<|sN<|gS rfl rfl<|sM rfl<|sV (r0)<|sA rfl<|sN<|qS<|bE h fun o10 ho10 h=>WC.block (WC.loop (WL.gv ho10 (fun s R' B'=>cI prog 2 (A R' B') (aC.at_ 229 2 2)=some (A [(0,.ref 0 0),(1,rI a0),(2,.clo 150 [.ptr 1 0]),(6,rI 20),(7,rI s.1),(8,rI s.2.1)] [(0,.arr 0 3 (s.2.2.map (PD.int .i64))),(1,.var [rM ak.pd d1])])) (fun o e R' B'=>e= .exit 0∧cI prog 2 (A R' B') (aC.at_ 229 2 6)=some (A [(0,.ref 0 0),(1,rI a0),(2,.clo 150 [.ptr 1 0]),(6,rI 20),(7,rI o.1)] [(0,.arr 0 3 (o.2.map (PD.int .i64))),(1,.var [rM ak.pd d1])])) rfl ?_ ?_))
 ·rintro⟨s1,s2,s3⟩ R' B' q6 hI h
  refine qS<|gS rfl hI<|sM rfl<|sM rfl<|sF h (fun h=>?_) fun h=>?_
  ·refine sN<|cT<|qK<|qB<|gS rfl rfl<|sM rfl<|sM rfl<|sM rfl<|sM rfl<|bE h fun x8 hx8 h=>cR (.tup []) [(0,.arr 0 3 (x8.map (PD.int .i64))),(1,.var [rM ak.pd d1])] (dX hx8)<|sN<|gS rfl rfl<|sM rfl<|sA rfl ?_
   refine sN<|WC.region rfl rfl<|sM rfl<|sM rfl<|sV (rI (rW (s2+(20:Int))))<|sA rfl<|sN ?_
   cases oI h
   exact⟨rfl,rfl⟩
  refine sN<|cF<|qX ?_
  cases oI h
  exact⟨nofun,rfl,rfl⟩
 intro e R' B' he hq
 obtain⟨rfl,hI⟩:=hq
 refine qE<|gS rfl hI<|sM rfl<|sM rfl<|sM rfl<|sM rfl<|bE h fun x11 hx11 h=>cR (.tup []) [(0,.arr 0 3 (x11.map (PD.int .i64))),(1,.var [rM ak.pd d1])] (dX hx11)<|sN<|bE h fun o23 ho23 h=>?_
 cases oI h
 refine WC.block (WC.loop (WL.vH ho23 (fun s R' B'=>cI prog 2 (A R' B') (aC.at_ 229 2 7)=some (A [(0,.ref 0 0),(1,rI a0),(2,.clo 150 [.ptr 1 0]),(6,rI s)] [(0,.arr 0 3 (x11.map (PD.int .i64))),(1,.var [rM ak.pd d1])])) rfl ?_))
 rintro s12 R' B' q13 hI h
 refine qS<|gS rfl hI<|sM rfl<|sM rfl<|sF h (fun h=>?_) fun h=>?_
 ·refine sN<|cT<|qK<|qB<|gS rfl rfl<|sM rfl<|sV (rI (rW ((2:Int)*s12)))<|sV (r0)<|sA rfl<|sN<|qS<|bE h fun o19 ho19 h=>WC.block (WC.loop (WL.gv ho19 (fun s R' B'=>cI prog 2 (A R' B') (aC.at_ 229 2 9)=some (A [(0,.ref 0 0),(1,rI a0),(2,.clo 150 [.ptr 1 0]),(6,rI s12),(7,r0),(8,rI (rW ((2:Int)*s12)))] [(0,.arr 0 3 (x11.map (PD.int .i64))),(1,.var [rM ak.pd d1])])) (fun o e R' B'=>e= .exit 4∧cI prog 2 (A R' B') (aC.at_ 229 2 13)=some (A [(0,.ref 0 0),(1,rI a0),(2,.clo 150 [.ptr 1 0]),(6,rI o),(7,r0)] [(0,.arr 0 3 (x11.map (PD.int .i64))),(1,.var [rM ak.pd d1])])) rfl ?_ ?_))
  ·rintro⟨⟩ R' B' q16 hI h
   refine qS<|gS rfl hI<|sM rfl<|sM rfl<|sF h (fun h=>?_) fun h=>?_
   ·refine sN<|cT<|qK<|qB<|gS rfl rfl<|sM rfl<|sM rfl<|sM rfl<|sM rfl<|sV (rI (rW ((0:Int)+s12)))<|sM rfl<|sM rfl ?_
    cases h
   refine sN<|cF<|qX ?_
   cases oI h
   exact⟨nofun,rfl,rfl⟩
  intro e R' B' he hq
  obtain⟨rfl,hI⟩:=hq
  refine qE<|qS<|gS rfl hI<|sM rfl<|sM rfl<|sV (rI (rW ((0:Int)+o19)))<|sA rfl<|sN<|gS rfl rfl<|sM rfl<|sM rfl<|sF h (fun h=>?_) fun h=>?_
  ·refine sN<|cT<|WC.region rfl rfl<|sM rfl<|sM rfl<|sM rfl<|sM rfl<|sM rfl ?_
   cases h
  refine sN<|cF<|qK<|WC.region rfl rfl<|sM rfl<|sV (rI (rW (o19*(2:Int))))<|sA rfl<|sN ?_
  cases oI h
  exact⟨rfl,rfl⟩
 refine sN<|cF<|qX<|tq h (fun z21 hkz21 hz=>?_)
 obtain rfl:=Option.some.inj hz
 refine⟨(fun he=>by cases he),fun hz2=>?_⟩
 subst hz2
 have h:=hkz21
 refine qE ?_
 exact oI h▸qD
theorem jP{d0:(List Int)}{d1:(List ak)}{r:(List Int)}(h:cU d0 d1=some r):EvP prog aC ext 149 [.ref 0 0,.clo 150 [.ptr 1 0]] [.arr 0 3 (d0.map (PD.int .i64)),.var [rM ak.pd d1]] (.tup [],[.arr 0 3 (r.map (PD.int .i64)),.var [rM ak.pd d1]]):=by
 refine Ev.body rfl Tryz.func149 rfl (by kernel_rfl)<|WC.region rfl rfl<|sM rfl<|sM rfl<|WO.ud rfl rfl rfl rfl rfl rfl rfl rfl rfl<|sM rfl<|bE h fun x1 hx1 h=>cR (.tup []) [(0,.arr 0 3 (x1.map (PD.int .i64))),(1,.var [rM ak.pd d1])] (kA hx1)<|sN ?_
 exact oI h▸qD
theorem ml{a0:(List ak)}{r:(List Int)}(h:gK a0=some r):EvP prog aC ext 78 [rM ak.pd a0] [] (rL r,[]):=by
 refine Ev.body rfl Tryz.func78 rfl (by kernel_rfl)<|gS rfl rfl<|sB (.ptr 16 0) 16 (.var [rM ak.pd a0])<|sV .dH<|sN<|gS rfl rfl<|sL rfl<|sE (rI (a0.length:Int)) (dT _ _)<|bE h fun x1 hx1 h=>WO.mkS (g:=(PD.int .i64)) hx1 rfl rfl rfl rfl rfl rfl rfl rfl rfl rfl rfl<|sA rfl<|sN<|qS<|gS rfl rfl<|sM rfl ?_
 refine WO.ud rfl rfl rfl rfl rfl rfl rfl rfl rfl<|sV (r0)<|sN<|bE h fun o11 ho11 h=>WC.block (WC.loop (WL.gv ho11 (fun s R' B'=>cI prog 0 (A R' B') (aC.at_ 78 0 3)=some (A [(1,.ptr 16 0),(3,.ref 112 0),(9,rI (x1.length:Int)),(10,rI s.1)] [(16,.var [rM ak.pd a0]),(112,.arr 0 3 (s.2.map (PD.int .i64)))])) (fun o e R' B'=>e= .exit 0∧cI prog 0 (A R' B') (aC.at_ 78 0 7)=some (A [(1,.ptr 16 0),(3,.ref 112 0)] [(16,.var [rM ak.pd a0]),(112,.arr 0 3 (o.map (PD.int .i64)))])) rfl ?_ ?_))
 ·rintro⟨s2,s3⟩ R' B' q5 hI h
  refine gS rfl hI<|sF h (fun h=>?_) fun h=>?_
  ·refine sN<|qS<|cT<|qK<|qS<|qB<|gS rfl rfl<|sM rfl<|sA rfl<|sN<|WC.region rfl rfl<|sM rfl<|sM rfl<|sM rfl<|bE h fun x8 hx8 h=>?_
   refine WO.qy hx8 rfl rfl rfl rfl rfl rfl rfl rfl<|bE h fun x9 hx9 h=>WO.rD (g:=(PD.int .i64)) (sz:=1) (p:= .int .i64 s2) hx9 (fun _=>rfl) (fun _=>rfl) rfl rfl rfl rfl rfl rfl rfl rfl rfl<|sN<|WC.region rfl rfl<|sV (rI (rW (s2+(1:Int))))<|sM rfl<|sN ?_
   cases oI h
   exact⟨rfl,rfl⟩
  refine sN<|qS<|cF<|qX ?_
  cases oI h
  exact⟨nofun,rfl,rfl⟩
 intro e R' B' he hq
 obtain⟨rfl,hI⟩:=hq
 refine qE<|gS rfl hI<|sM rfl<|sV (.clo 150 [.ptr 16 0])<|bE h fun x12 hx12 h=>cR (.tup []) [(112,.arr 0 3 (x12.map (PD.int .i64))),(16,.var [rM ak.pd a0])] (jP hx12)<|sN<|gS rfl rfl<|sM rfl<|sA rfl<|sN<|qR ?_
 exact oI h▸qD
theorem oj{a0:Int}{r:bg}(h:gt a0=some r):EvP prog aC ext 127 [rI a0] [] (.agg [.ref 0 0,.ref 1 0],[.arr 0 3 (r.np.map (PD.int .i64)),.arr 0 3 (r.fback.map (PD.int .i64))]):=by
 refine Ev.body rfl Tryz.func127 rfl (by kernel_rfl)<|gS rfl rfl<|sB (.ptr 32 0) 32 (.var [.dH,.dH])<|sN<|WC.dG rfl rfl<|sM rfl<|sV (rI (rW (a0+(1:Int))))<|bE h fun x1 hx1 h=>WO.mkS (g:=(PD.int .i64)) hx1 rfl rfl rfl rfl rfl rfl rfl rfl rfl rfl rfl<|sM rfl<|sV (rI (rW (a0+(1:Int))))<|bE h fun x2 hx2 h=>WO.mkS (g:=(PD.int .i64)) hx2 rfl rfl rfl rfl rfl rfl rfl rfl rfl rfl rfl<|sV (.agg [.ref 112 0,.ref 160 0])<|sB (.ptr 48 0) 48 (.var [.dH,.dH]) ?_
 refine sS 48 (.var [.ref 112 0,.ref 160 0]) ?_
 refine sN<|sO<|qS<|gS rfl rfl<|sM rfl<|sV (rI (rW (a0+(1:Int))))<|sV (r0)<|sN<|bE h fun o19 ho19 h=>WC.block (WC.loop (WL.gv ho19 (fun s R' B'=>cI prog 0 (A R' B') (aC.at_ 127 0 3)=some (A [(0,rI a0),(2,.ptr 32 0),(3,.ptr 48 0),(13,rI (rW (a0+(1:Int)))),(14,rI s.1)] [(32,.var [.dH,.dH]),(48,.var [.ref 112 0,.ref 160 0]),(112,.arr 0 3 (s.2.1.map (PD.int .i64))),(160,.arr 0 3 (s.2.2.map (PD.int .i64)))])) (fun o e R' B'=>e= .exit 0∧cI prog 0 (A R' B') (aC.at_ 127 0 7)=some (A [(2,.ptr 32 0),(3,.ptr 48 0)] [(32,.var [.dH,.dH]),(48,.var [.ref 112 0,.ref 160 0]),(112,.arr 0 3 (o.1.map (PD.int .i64))),(160,.arr 0 3 (o.2.map (PD.int .i64)))])) rfl ?_ ?_))
 ·rintro⟨s3,s4,s5⟩ R' B' q8 hI h
  refine gS rfl hI<|sF h (fun h=>?_) fun h=>?_
  ·refine sN<|qS<|cT<|qK<|qS<|qB<|gS rfl rfl<|sM rfl<|sA rfl<|sN<|WC.kI rfl rfl<|sV (.ptr 48 0)<|sL rfl<|sM rfl<|sV (.ptr 48 1) ?_
   refine sL rfl<|sM rfl<|sV (rI (rW (s3+(1:Int))))<|sM rfl<|sV (rI (rW (a0+(1:Int))))<|bE h fun x10 hx10 h=>WO.remG hx10 rfl rfl rfl rfl rfl rfl<|sM rfl<|sV (rI (rW (s3+(1:Int))))<|sM rfl<|sV (rI (rW (a0+(1:Int))))<|bE h fun x11 hx11 h=>WO.remG hx11 rfl rfl rfl rfl rfl rfl<|sM rfl<|bE h fun x13 hx13 h=>?_
   refine WO.qy hx13 rfl rfl rfl rfl rfl rfl rfl rfl<|bE h fun x14 hx14 h=>WO.rD (g:=(PD.int .i64)) (sz:=1) (p:= .int .i64 x11) hx14 (fun _=>rfl) (fun _=>rfl) rfl rfl rfl rfl rfl rfl rfl rfl rfl<|bE h fun x16 hx16 h=>WO.qy hx16 rfl rfl rfl rfl rfl rfl rfl rfl<|bE h fun x17 hx17 h=>WO.rD (g:=(PD.int .i64)) (sz:=1) (p:= .int .i64 s3) hx17 (fun _=>rfl) (fun _=>rfl) rfl rfl rfl rfl rfl rfl rfl rfl rfl ?_
   refine sN<|sO<|WC.region rfl rfl<|sV (rI (rW (s3+(1:Int))))<|sM rfl<|sN ?_
   cases oI h
   exact⟨rfl,rfl⟩
  refine sN<|qS<|cF<|qX ?_
  cases oI h
  exact⟨nofun,rfl,rfl⟩
 intro e R' B' he hq
 obtain⟨rfl,hI⟩:=hq
 refine qE<|gS rfl hI<|sV (.agg [.ref 112 0,.ref 160 0])<|sS 32 (.var [.ref 112 0,.ref 160 0])<|sN<|qR ?_
 exact oI h▸qD
theorem iL{a0:bg}{r:Int}(h:iK a0=some r):EvP prog aC ext 128 [.d (bg.pd a0)] [] (rI r,[]):=by
 refine Ev.body rfl Tryz.func128 rfl (by kernel_rfl)<|gS rfl rfl<|sB (.ptr 16 0) 16 (.var (bg.rc a0))<|sV (r0)<|sN<|gS rfl rfl<|sV (.ptr 16 0)<|sL rfl<|sE (rI (a0.np.length:Int)) (dT _ _)<|sV (rI (rW ((a0.np.length:Int)-(1:Int))))<|sA rfl<|sN<|qR ?_
 exact oI h▸qD
theorem chain_windowq_ev{a1:aJ}{a2:(List ak)}{a3:(List Int)}{d0:(List Int)}{d1:(List Int)}{r:(List Int)×(List Int)×(List Int)}(h:la a1 a2 a3 d0 d1=some r):EvP prog aC ext 129 [.agg [.ref 0 0,.ref 1 0],.d (aJ.pd a1),rM ak.pd a2,rL a3] [.arr 0 3 (d0.map (PD.int .i64)),.arr 0 3 (d1.map (PD.int .i64))] (rL r.1,[.arr 0 3 (r.2.1.map (PD.int .i64)),.arr 0 3 (r.2.2.map (PD.int .i64))]):=by
 refine Ev.body rfl Tryz.func129 rfl (by kernel_rfl)<|gS rfl rfl<|sB (.ptr 64 0) 64 (.var [.ref 0 0,.ref 1 0])<|sB (.ptr 80 0) 80 (.var (aJ.rc a1))<|sV .dH<|sN<|gS rfl rfl<|sV .dH<|sN<|WC.dG rfl rfl<|sV (.ptr 64 0)<|sL rfl<|sV (.agg [.ref 0 0,.ref 1 0])<|bE h fun x1 hx1 h=>cR (rI x1) [ ] (iL hx1) ?_
 refine bE h fun x3 hx3 h=>WO.qy hx3 rfl rfl rfl rfl rfl rfl rfl rfl<|bE h fun x4 hx4 h=>WO.pO hx4 rfl rfl rfl rfl rfl rfl<|sA rfl ?_
 refine sN<|sO<|qS<|gS rfl rfl<|sM rfl<|sA rfl<|sN<|bE h fun o22 ho22 h=>WC.block (WC.loop (WL.gv ho22 (fun s R' B'=>cI prog 2 (A R' B') (aC.at_ 129 2 4)=some (A [(2,rM ak.pd a2),(3,rL a3),(4,.ptr 64 0),(5,.ptr 80 0),(9,.ref 928 0),(10,rI x4),(11,rI s.1)] [(0,.arr 0 3 (d0.map (PD.int .i64))),(1,.arr 0 3 (d1.map (PD.int .i64))),(64,.var [.ref 0 0,.ref 1 0]),(80,.var (aJ.rc a1)),(928,.arr 0 3 (s.2.map (PD.int .i64)))])) (fun o e R' B'=>e= .exit 0∧cI prog 2 (A R' B') (aC.at_ 129 2 7)=some (A [(9,.ref 928 0)] [(0,.arr 0 3 (d0.map (PD.int .i64))),(1,.arr 0 3 (d1.map (PD.int .i64))),(928,.arr 0 3 (o.map (PD.int .i64)))])) rfl ?_ ?_))
 ·rintro⟨s5,s6⟩ R' B' q8 hI h
  unfold cr at h
  refine qS<|WC.dG hI rfl<|sM rfl<|sV (.agg [.ref 0 0,.ref 1 0])<|bE h fun x9 hx9 h=>cR (rI x9) [ ] (iL hx9)<|sF h (fun h=>?_) fun h=>?_
  ·refine sM rfl<|sM rfl<|WO.ud rfl rfl rfl rfl rfl rfl rfl rfl rfl<|sV (rB (decide ((s6.length:Int)<(16:Int))))<|sF h (fun h=>?_) fun h=>?_
   ·refine sM rfl<|sM rfl<|sM rfl<|sM rfl<|bE h fun x12 hx12 h=>eG hx12 rfl<|sC rfl<|bE h fun x13 hx13 h=>eG hx13 rfl<|sV (.cptr [.int .i64 x13.aK,.int .i64 x13.bf,.int .i64 x13.bA])<|sC rfl<|sM rfl<|sM rfl<|sM rfl<|bE h fun x14 hx14 h=>?_
    refine eG hx14 rfl<|sC rfl<|bE h fun x15 hx15 h=>eG hx15 rfl<|sV (.cptr [.int .i64 x15.aK,.int .i64 x15.bf,.int .i64 x15.bA])<|sC rfl<|sV (rI (rW (x13.aK-x15.aK)))<|sV (.ptr 80 11)<|sL rfl<|sV (rB (decide ((rW (x13.aK-x15.aK))<=a1.cB)))<|sF h (fun h=>?_) fun h=>?_
    ·refine sN<|sO<|cT<|qK<|qS<|qB<|WC.region rfl rfl<|sM rfl<|sM rfl<|sV (.d (.lst ([s5].map (PD.int .i64))))<|bE h fun x17 hx17 h=>aR hx17 (fun _=>rfl) rfl<|sA rfl<|sN<|WC.region rfl rfl<|sV (.ptr 64 0) ?_
     refine sL rfl<|sM rfl<|bE h fun x19 hx19 h=>WO.qy hx19 rfl rfl rfl rfl rfl rfl rfl rfl<|bE h fun x20 hx20 h=>WO.pO hx20 rfl rfl rfl rfl rfl rfl<|sA rfl<|sN ?_
     cases oI h
     exact⟨rfl,rfl⟩
    refine sN<|sO<|cF<|qX ?_
    cases oI h
    exact⟨nofun,rfl,rfl⟩
   refine sM rfl<|k3<|k3<|k3<|k3<|sK<|sK ?_
   refine k3<|k3<|sU ?_
   refine sN<|sO<|cF<|qX ?_
   cases oI h
   exact⟨nofun,rfl,rfl⟩
  refine sM rfl<|k3<|sU<|sM rfl<|k3<|k3<|sK<|sK<|sK ?_
  refine k3<|k3<|k3<|sK<|sK<|sU ?_
  refine sN<|sO<|cF<|qX ?_
  cases oI h
  exact⟨nofun,rfl,rfl⟩
 intro e R' B' he hq
 obtain⟨rfl,hI⟩:=hq
 refine qE<|gS rfl hI<|sM rfl<|sA rfl<|sN<|qR ?_
 exact oI h▸qD
theorem lp{a0:aJ}{a1:(List ak)}{r:ag}(h:eu a0 a1=some r):EvP prog aC ext 130 [.d (aJ.pd a0),rM ak.pd a1] [] (.d (ag.pd r),[]):=by
 refine Ev.body rfl Tryz.func130 rfl (by kernel_rfl)<|gS rfl rfl<|sB (.ptr 32 0) 32 (.var (aJ.rc a0))<|sB (.ptr 64 0) 64 (.var [r0,r0,r0,r0,r0,r0,r0,.dH,.dH,.dH,r0])<|sN<|gS rfl rfl<|sV (.ptr 32 0)<|sV (.d (ai.pd a0.aO))<|sV (.ptr 32 6)<|sV (.d (aI.pd a0.bi))<|sM rfl<|sV (.ptr 32 9)<|sL rfl<|sG (.d (ag.pd (ag.mk a0.aO a0.bi a1 a0.da)))<|sH 64 (.var (ai.rc a0.aO++aI.rc a0.bi++[rM ak.pd a1,rI a0.da])) ?_
 refine sN<|qR ?_
 cases oI h
 exact qG
theorem mz{a0:ag}{r:Int}(h:gN a0=some r):EvP prog aC ext 120 [.d (ag.pd a0)] [] (rI r,[]):=by
 refine Ev.body rfl Tryz.func120 rfl (by kernel_rfl)<|gS rfl rfl<|sB (.ptr 16 0) 16 (.var (ag.rc a0))<|sV (r0)<|sN<|qS<|gS rfl rfl<|sV (.ptr 16 0)<|sV (.d (ai.pd a0.aO))<|bE h fun x1 hx1 h=>cD (bC hx1)<|sF h (fun h=>?_) fun h=>?_
 ·refine sN<|cT<|gS rfl rfl<|sV (rI 20)<|sN<|qR ?_
  cases oI h
  exact qG
 refine sN<|cF<|qK<|qS<|gS rfl rfl<|sV (.ptr 16 6)<|sV (.d (aI.pd a0.bi))<|bE h fun x3 hx3 h=>cD (dV hx3)<|sA rfl<|sN<|gS rfl rfl<|sM rfl<|sF h (fun h=>?_) fun h=>?_
 ·refine sN<|cT<|gS rfl rfl<|sM rfl<|sA rfl<|sN<|qR ?_
  cases oI h
  exact qG
 refine sN<|cF<|qK<|qS<|gS rfl rfl<|sV (.ptr 16 9)<|sL rfl<|sE (rI (a0.ba.length:Int)) (dT _ _)<|sA rfl<|sN<|qB<|gS rfl rfl<|sM rfl<|sF h (fun h=>?_) fun h=>?_
 ·refine sA rfl<|sN<|cT<|gS rfl rfl<|sV (rI 24)<|sN<|qR ?_
  cases oI h
  exact qG
 refine sA rfl<|sN<|cF<|gS rfl rfl<|sM rfl<|sF h (fun h=>?_) fun h=>?_
 ·refine sA rfl<|sN<|cT<|gS rfl rfl<|sV (rI 8)<|sN<|qR ?_
  cases oI h
  exact qG
 refine sA rfl<|sN<|cF<|gS rfl rfl<|sV (.ptr 16 10)<|sL rfl<|sF h (fun h=>?_) fun h=>?_
 ·refine sM rfl<|k3<|sT<|sA rfl<|sN<|cT<|gS rfl rfl<|sV (rI 2)<|sN<|qR ?_
  cases oI h
  exact qG
 refine sM rfl<|sV (.ptr 16 10)<|sL rfl<|sV (rB (decide (a0.da>(1099511627776:Int))))<|sF h (fun h=>?_) fun h=>?_
 ·refine sA rfl<|sN<|cT<|gS rfl rfl<|sV (rI 2)<|sN<|qR ?_
  cases oI h
  exact qG
 refine sA rfl<|sN<|cF<|qK<|qS<|gS rfl rfl<|sV (.ptr 16 9)<|sL rfl<|sE (rI (a0.ba.length:Int)) (dT _ _)<|sV (r0)<|sN<|bE h fun o16 ho16 h=>WC.block (WC.loop (WL.gv ho16 (fun s R' B'=>cI prog 0 (A R' B') (aC.at_ 120 0 14)=some (A [(1,.ptr 16 0),(38,rM ak.pd a0.ba),(39,rI (a0.ba.length:Int)),(40,rI s)] [(16,.var (ag.rc a0))])) (fun o e R' B'=>match o with| .inl y=>e= .exit 1∧cI prog 0 (A R' B') (aC.at_ 120 0 20)=some (A [] [])| .inr r=>e= .ret∧finish prog (aC.own 120) Tryz.f120 0 (A R' B')=some (rI r,[])) rfl ?_ ?_))
 ·rintro s9 R' B' q10 hI h
  refine gS rfl hI<|sF h (fun h=>?_) fun h=>?_
  ·refine sN<|qS<|cT<|qK<|qS<|qB<|gS rfl rfl<|bE h fun x12 hx12 h=>eG hx12 rfl<|sV (.d (ak.pd x12))<|sB (.ptr 96 0) 96 (.var zZ4)<|sH 96 (.var (ak.rc x12))<|sN<|gS rfl rfl<|sV (.ptr 16 6) ?_
   refine sV (.d (aI.pd a0.bi))<|sV (.ptr 16 0)<|sV (.d (ai.pd a0.aO))<|sV (.d (ak.pd x12))<|bE h fun x13 hx13 h=>cR (.tup [.d (aG.pd x13.1),rI x13.2]) [] (k9 hx13)<|sM rfl<|sV (.d (aG.pd x13.1))<|sV (rI x13.2)<|sB (.ptr 112 0) 112 (.var [r0,r0])<|sS 112 (.var [rI x13.1.bp,rI x13.1.fTo])<|sA rfl<|sN<|gS rfl rfl<|sM rfl ?_
   refine sF h (fun h=>?_) fun h=>?_
   ·refine sN<|cT<|gS rfl rfl<|sM rfl<|sA rfl<|sN<|qR ?_
    cases oI h
    exact⟨nofun,rfl,rfl⟩
   refine sN<|cF<|qK<|WC.region rfl rfl<|sV (rI (rW (s9+(1:Int))))<|sM rfl<|sN ?_
   cases oI h
   exact⟨rfl,rfl⟩
  refine sN<|qS<|cF<|qX ?_
  cases oI h
  exact⟨nofun,rfl,rfl⟩
 intro e R' B' he hq
 rcases o16 with y17|r18
 ·obtain⟨rfl,hI⟩:=hq
  refine qE<|gS rfl hI<|sV (r0)<|sN<|qR ?_
  exact oI h▸qD
 obtain⟨rfl,hf⟩:=hq
 cases oI h
 exact hf
theorem lu{a0:ai}{a1:aa}{r:Bool}(h:fy a0 a1=some r):EvP prog aC ext 201 [.d (ai.pd a0),.d (aa.pd a1)] [] (rB r,[]):=by
 refine Ev.body rfl Tryz.func201 rfl (by kernel_rfl)<|gS rfl rfl<|sB (.ptr 32 0) 32 (.var (ai.rc a0))<|sB (.ptr 48 0) 48 (.var (aa.rc a1))<|sU<|sN<|gS rfl rfl<|sV (.d (ai.pd a0))<|bE h fun x1 hx1 h=>kB h (fun hb2 h=>?_) (fun hb2 h=>?_)
 ·refine WO.qw (v:=rB true) (u:=[]) rfl rfl (fun _=>rfl) rfl rfl rfl rfl rfl (bC hx1) rfl rfl (congrArg (fun b=>RV.d (.bool b)) hb2) rfl<|sM rfl<|sV (.d (aa.pd a1))<|bE h fun x3 hx3 h=>cD (c6 hx3)<|sF h (fun h=>?_) fun h=>?_
  ·refine sM rfl<|sV (.d (ai.pd a0))<|sV (.d (aa.pd a1))<|bE h fun x5 hx5 h=>cD (kL hx5)<|sV (rB (x5==(0:Int)))<|sV (rB (x5==(0:Int)))<|sA rfl<|sN<|qR ?_
   exact oI h▸qD
  refine sM rfl<|k3<|sK<|sU<|sA rfl<|sN<|qR ?_
  exact oI h▸qD
 refine WO.qw (v:=rB false) (u:=[]) rfl rfl (fun _=>rfl) rfl rfl rfl rfl rfl (bC hx1) rfl rfl (congrArg (fun b=>RV.d (.bool b)) hb2) rfl<|sM rfl<|sK<|sK<|sU<|sM rfl<|k3<|sK<|sU<|sA rfl<|sN<|qR ?_
 exact oI h▸qD
theorem pI{a0:ai}{a1:ai}{r:Bool}(h:jp a0 a1=some r):EvP prog aC ext 121 [.d (ai.pd a0),.d (ai.pd a1)] [] (rB r,[]):=by
 refine Ev.body rfl Tryz.func121 rfl (by kernel_rfl)<|gS rfl rfl<|sB (.ptr 32 0) 32 (.var (ai.rc a0))<|sB (.ptr 48 0) 48 (.var (ai.rc a1))<|sU<|sN<|gS rfl rfl<|sV (.d (ai.pd a0))<|bE h fun x1 hx1 h=>kB h (fun hb2 h=>?_) (fun hb2 h=>?_)
 ·refine WO.qw (v:=rB true) (u:=[]) rfl rfl (fun _=>rfl) rfl rfl rfl rfl rfl (bC hx1) rfl rfl (congrArg (fun b=>RV.d (.bool b)) hb2) rfl<|sM rfl<|sV (.d (ai.pd a1))<|sV (.ptr 32 0)<|sV (.d (aa.pd a0.aL))<|bE h fun x3 hx3 h=>cD (lu hx3)<|sF h (fun h=>?_) fun h=>?_
  ·refine sM rfl<|sV (.d (ai.pd a1))<|sV (.ptr 32 3)<|sV (.d (aa.pd a0.aF))<|bE h fun x5 hx5 h=>cD (lu hx5)<|sV (rB x5)<|sA rfl<|sN<|qR ?_
   exact oI h▸qD
  refine sM rfl<|k3<|sK<|sU<|sA rfl<|sN<|qR ?_
  exact oI h▸qD
 refine WO.qw (v:=rB false) (u:=[]) rfl rfl (fun _=>rfl) rfl rfl rfl rfl rfl (bC hx1) rfl rfl (congrArg (fun b=>RV.d (.bool b)) hb2) rfl<|sM rfl<|k3<|sK<|sU<|sM rfl<|k3<|sK<|sU<|sA rfl<|sN ?_
 refine qR ?_
 exact oI h▸qD
theorem misfit_zones_ev{a0:ag}{a1:ai}{r:(List aG)×Int}(h:l7 a0 a1=some r):EvP prog aC ext 122 [.d (ag.pd a0),.d (ai.pd a1)] [] (.tup [rM aG.pd r.1,rI r.2],[]):=by
 refine Ev.body rfl Tryz.func122 rfl (by kernel_rfl)<|gS rfl rfl<|sB (.ptr 32 0) 32 (.var (ag.rc a0))<|sB (.ptr 48 0) 48 (.var (ai.rc a1))<|sV .dH<|sV (r0)<|sN<|gS rfl rfl<|sV (.ptr 32 9)<|sL rfl<|sE (rI (a0.ba.length:Int)) (dT _ _)<|bE h fun x1 hx1 h=>WO.mkC (g:=aG.pd) hx1 rfl rfl rfl rfl rfl rfl rfl rfl rfl rfl rfl<|sA rfl<|sN ?_
 refine qS<|gS rfl rfl<|sV (.ptr 32 9)<|sL rfl<|sE (rI (a0.ba.length:Int)) (dT _ _)<|sV (r0)<|sN<|bE h fun o12 ho12 h=>WC.block (WC.loop (WL.gv ho12 (fun s R' B'=>cI prog 0 (A R' B') (aC.at_ 122 0 3)=some (A [(2,.ptr 32 0),(3,.ptr 48 0),(6,.ref 224 0),(16,rM ak.pd a0.ba),(17,rI (a0.ba.length:Int)),(18,rI s.1)] [(32,.var (ag.rc a0)),(48,.var (ai.rc a1)),(224,.arr 0 206 (s.2.map aG.pd))])) (fun o e R' B'=>match o with| .inl y=>e= .exit 0∧cI prog 0 (A R' B') (aC.at_ 122 0 10)=some (A [(6,.ref 224 0)] [(224,.arr 0 206 (y.map aG.pd))])| .inr r=>e= .ret∧finish prog (aC.own 122) Tryz.f122 0 (A R' B')=some (.tup [rM aG.pd r.1,rI r.2],[])) rfl ?_ ?_))
 ·rintro⟨s2,s3⟩ R' B' q5 hI h
  refine gS rfl hI<|sF h (fun h=>?_) fun h=>?_
  ·refine sN<|qS<|cT<|qK<|qS<|qB<|gS rfl rfl<|bE h fun x7 hx7 h=>eG hx7 rfl<|sV (.d (ak.pd x7))<|sB (.ptr 128 0) 128 (.var zZ4)<|sH 128 (.var (ak.rc x7))<|sN<|gS rfl rfl<|sV (.ptr 32 6) ?_
   refine sV (.d (aI.pd a0.bi))<|sV (.d (ai.pd a1))<|sV (.d (ak.pd x7))<|bE h fun x8 hx8 h=>cR (.tup [.d (aG.pd x8.1),rI x8.2]) [] (k9 hx8)<|sM rfl<|sV (.d (aG.pd x8.1))<|sV (rI x8.2)<|sB (.ptr 144 0) 144 (.var [r0,r0])<|sS 144 (.var [rI x8.1.bp,rI x8.1.fTo])<|sA rfl<|sN<|qS<|gS rfl rfl<|sM rfl ?_
   refine sF h (fun h=>?_) fun h=>?_
   ·refine sN<|cT<|gS rfl rfl<|sM rfl<|sV .dH<|sA rfl<|sN<|qR ?_
    cases oI h
    exact⟨nofun,rfl,rfl⟩
   refine sN<|cF<|qK<|WC.region rfl rfl<|sM rfl<|sV (.d (aG.pd x8.1))<|sV (.d (.lst ([x8.1].map aG.pd)))<|bE h fun x10 hx10 h=>aR hx10 (fun _=>rfl) rfl<|sA rfl<|sN<|WC.region rfl rfl<|sV (rI (rW (s2+(1:Int))))<|sM rfl<|sN ?_
   cases oI h
   exact⟨rfl,rfl⟩
  refine sN<|qS<|cF<|qX ?_
  cases oI h
  exact⟨nofun,rfl,rfl⟩
 intro e R' B' he hq
 rcases o12 with y13|r14
 ·obtain⟨rfl,hI⟩:=hq
  refine qE<|gS rfl hI<|sM rfl<|sA rfl<|sV (r0)<|sN<|qR ?_
  exact oI h▸qD
 obtain⟨rfl,hf⟩:=hq
 cases oI h
 exact hf
theorem lH{a0:ag}{a1:ai}{r:(List aG)×Int}(h:fD a0 a1=some r):EvP prog aC ext 61 [.d (ag.pd a0),.d (ai.pd a1)] [] (.tup [rM aG.pd r.1,rI r.2],[]):=by
 refine Ev.body rfl Tryz.func61 rfl (by kernel_rfl)<|gS rfl rfl<|sB (.ptr 32 0) 32 (.var (ag.rc a0))<|sB (.ptr 48 0) 48 (.var (ai.rc a1))<|sV .dH<|sV (r0)<|sN<|qS<|gS rfl rfl<|sV (.d (ag.pd a0))<|bE h fun x1 hx1 h=>cD (mz hx1)<|sA rfl<|sN<|gS rfl rfl ?_
 refine sM rfl<|sF h (fun h=>?_) fun h=>?_
 ·refine sN<|cT<|gS rfl rfl<|sM rfl<|sV .dH<|sA rfl<|sN<|qR ?_
  cases oI h
  exact qG
 refine sN<|cF<|qK<|qS<|gS rfl rfl<|sV (.d (ai.pd a1))<|sV (.ptr 32 0)<|sV (.d (ai.pd a0.aO))<|bE h fun x3 hx3 h=>cD (pI hx3)<|sF h (fun h=>?_) fun h=>?_
 ·refine sN<|cT<|gS rfl rfl<|sV .dH<|sV (rI 20)<|sN<|qR ?_
  cases oI h
  exact qG
 refine sN<|cF<|qK<|gS rfl rfl<|sV (.d (ag.pd a0))<|sV (.d (ai.pd a1))<|bE h fun x5 hx5 h=>cR (.tup [rM aG.pd x5.1,rI x5.2]) [] (misfit_zones_ev hx5)<|sV (rM aG.pd x5.1)<|sV (rI x5.2)<|sA rfl<|sA rfl<|sN<|qR ?_
 cases oI h
 exact qG
theorem my{a0:aG}{a1:Int}{r:Int}(h:fo a0 a1=some r):EvP prog aC ext 202 [.d (aG.pd a0),rI a1] [] (rI r,[]):=by
 refine Ev.body rfl Tryz.func202 rfl (by kernel_rfl)<|gS rfl rfl<|sB (.ptr 32 0) 32 (.var [rI a0.bp,rI a0.fTo])<|sV (r0)<|sN<|gS rfl rfl<|sV (.ptr 32 0)<|sL rfl<|sM rfl<|sV (rI (rW (a0.bp-a1)))<|sM rfl<|sV (.ptr 32 1)<|sL rfl<|sV (rI (rW (a1-a0.fTo)))<|sV (rI (if(0:Int)>(if(rW (a1-a0.fTo))>(rW (a0.bp-a1))then(rW (a1-a0.fTo))else(rW (a0.bp-a1)))then(0:Int)else(if(rW (a1-a0.fTo))>(rW (a0.bp-a1))then(rW (a1-a0.fTo))else(rW (a0.bp-a1))))) ?_
 refine sA rfl<|sN<|qR ?_
 exact oI h▸qD
theorem oL{a0:ag}{a1:(List aG)}{a2:Int}{r:Int}(h:iu a0 a1 a2=some r):EvP prog aC ext 123 [.d (ag.pd a0),rM aG.pd a1,rI a2] [] (rI r,[]):=by
 refine Ev.body rfl Tryz.func123 rfl (by kernel_rfl)<|gS rfl rfl<|sB (.ptr 48 0) 48 (.var (ag.rc a0))<|sV (r0)<|sN<|gS rfl rfl<|sV (r0)<|sN<|qS<|gS rfl rfl<|sV (.ptr 48 9)<|sL rfl<|sE (rI (a0.ba.length:Int)) (dT _ _)<|sV (r0)<|sN ?_
 refine bE h fun o11 ho11 h=>WC.block (WC.loop (WL.gv ho11 (fun s R' B'=>cI prog 0 (A R' B') (aC.at_ 123 0 3)=some (A [(1,rM aG.pd a1),(2,rI a2),(3,.ptr 48 0),(7,rI s.1),(11,rM ak.pd a0.ba),(12,rI (a0.ba.length:Int)),(13,rI s.2)] [(48,.var (ag.rc a0))])) (fun o e R' B'=>e= .exit 0∧cI prog 0 (A R' B') (aC.at_ 123 0 8)=some (A [(7,rI o)] [])) rfl ?_ ?_))
 ·rintro⟨s1,s2⟩ R' B' q4 hI h
  refine gS rfl hI<|sF h (fun h=>?_) fun h=>?_
  ·refine sN<|qS<|cT<|qK<|qS<|qB<|gS rfl rfl<|sM rfl<|bE h fun x6 hx6 h=>eG hx6 rfl<|sV (.d (ak.pd x6))<|sB (.ptr 144 0) 144 (.var zZ4)<|sA rfl<|sH 144 (.var (ak.rc x6))<|sN ?_
   refine gS rfl rfl<|sM rfl<|sM rfl<|sE (rI (a1.length:Int)) (dT _ _)<|sF h (fun h=>?_) fun h=>?_
   ·refine sN<|cT<|WC.kI rfl rfl<|sM rfl<|sV (.ptr 144 5)<|sL rfl<|sV (.ptr 48 10)<|sL rfl<|sM rfl<|sM rfl<|bE h fun x8 hx8 h=>eG hx8 rfl<|sV (.d (aG.pd x8))<|sM rfl<|bE h fun x9 hx9 h=>?_
    refine cD (my hx9)<|sV (rI (if x9<a0.da then x9 else a0.da))<|sV (rI (rW (x6.bA*(if x9<a0.da then x9 else a0.da))))<|sV (rI (rW (s1+(rW (x6.bA*(if x9<a0.da then x9 else a0.da))))))<|sA rfl ?_
    refine sN<|sO<|WC.region rfl rfl<|sV (rI (rW (s2+(1:Int))))<|sM rfl<|sN ?_
    cases oI h
    exact⟨rfl,rfl⟩
   refine sN<|cF<|qK<|WC.region rfl rfl<|sV (rI (rW (s2+(1:Int))))<|sM rfl<|sN ?_
   cases oI h
   exact⟨rfl,rfl⟩
  refine sN<|qS<|cF<|qX ?_
  cases oI h
  exact⟨nofun,rfl,rfl⟩
 intro e R' B' he hq
 obtain⟨rfl,hI⟩:=hq
 refine qE<|gS rfl hI<|sM rfl<|sA rfl<|sN<|qR ?_
 exact oI h▸qD
theorem oK{a0:ag}{a1:(List aG)}{r:Int×Int}(h:ir a0 a1=some r):EvP prog aC ext 62 [.d (ag.pd a0),rM aG.pd a1] [] (.tup [rI r.1,rI r.2],[]):=by
 refine Ev.body rfl Tryz.func62 rfl (by kernel_rfl)<|gS rfl rfl<|sB (.ptr 32 0) 32 (.var (ag.rc a0))<|sV (r0)<|sV (r0)<|sN<|gS rfl rfl<|sM rfl<|sE (rI (a1.length:Int)) (dT _ _)<|sV (rI (rW ((2:Int)*(a1.length:Int))))<|bE h fun x1 hx1 h=>WO.mkC (g:=(PD.int .i64)) hx1 rfl rfl rfl rfl rfl rfl rfl rfl rfl rfl rfl<|sA rfl<|sN<|qS ?_
 refine gS rfl rfl<|sM rfl<|sE (rI (a1.length:Int)) (dT _ _)<|sV (r0)<|sN<|bE h fun o10 ho10 h=>WC.block (WC.loop (WL.gv ho10 (fun s R' B'=>cI prog 0 (A R' B') (aC.at_ 62 0 3)=some (A [(1,rM aG.pd a1),(2,.ptr 32 0),(6,.ref 272 0),(18,rM aG.pd a1),(19,rI (a1.length:Int)),(20,rI s.1)] [(32,.var (ag.rc a0)),(272,.arr 0 3 (s.2.map (PD.int .i64)))])) (fun o e R' B'=>e= .exit 0∧cI prog 0 (A R' B') (aC.at_ 62 0 7)=some (A [(1,rM aG.pd a1),(2,.ptr 32 0),(6,.ref 272 0)] [(32,.var (ag.rc a0)),(272,.arr 0 3 (o.map (PD.int .i64)))])) rfl ?_ ?_))
 ·rintro⟨s2,s3⟩ R' B' q5 hI h
  refine gS rfl hI<|sF h (fun h=>?_) fun h=>?_
  ·refine sN<|qS<|cT<|qK<|qS<|qB<|gS rfl rfl<|bE h fun x7 hx7 h=>eG hx7 rfl<|sV (.d (aG.pd x7))<|sB (.ptr 128 0) 128 (.var [r0,r0])<|sS 128 (.var [rI x7.bp,rI x7.fTo])<|sN<|WC.region rfl rfl<|sM rfl ?_
   refine sV (.ptr 128 0)<|sL rfl<|sV (.ptr 128 1)<|sL rfl<|sV (.d (.lst ([x7.bp,x7.fTo].map (PD.int .i64))))<|bE h fun x8 hx8 h=>aR hx8 (fun _=>rfl) rfl<|sA rfl<|sN<|WC.region rfl rfl<|sV (rI (rW (s2+(1:Int))))<|sM rfl<|sN ?_
   cases oI h
   exact⟨rfl,rfl⟩
  refine sN<|qS<|cF<|qX ?_
  cases oI h
  exact⟨nofun,rfl,rfl⟩
 intro e R' B' he hq
 obtain⟨rfl,hI⟩:=hq
 refine qE<|qS<|gS rfl hI<|sM rfl<|WO.ud rfl rfl rfl rfl rfl rfl rfl rfl rfl<|sF h (fun h=>?_) fun h=>?_
 ·refine sN<|cT<|gS rfl rfl<|sV (r0)<|sV (r0)<|sN<|qR ?_
  cases oI h
  exact qG
 refine sN<|cF<|qK<|WC.dG rfl rfl<|sM rfl<|bE h fun x13 hx13 h=>WO.qy hx13 rfl rfl rfl rfl rfl rfl rfl rfl<|bE h fun x14 hx14 h=>WO.pO hx14 rfl rfl rfl rfl rfl rfl<|sV (.d (ag.pd a0))<|sM rfl<|sM rfl<|bE h fun x16 hx16 h=>WO.qy hx16 rfl rfl rfl rfl rfl rfl rfl rfl<|bE h fun x17 hx17 h=>?_
 refine WO.pO hx17 rfl rfl rfl rfl rfl rfl<|bE h fun x18 hx18 h=>cD (oL hx18)<|sA rfl<|sA rfl ?_
 refine sN<|sO<|qS<|gS rfl rfl<|sM rfl<|bE h fun x19 hx19 h=>WO.subR hx19 rfl rfl rfl rfl rfl rfl rfl rfl rfl rfl rfl rfl<|bE h fun x20 hx20 h=>WO.lenVw hx20 rfl rfl rfl rfl rfl rfl rfl rfl rfl<|sV (r0)<|sN<|bE h fun o35 ho35 h=>WC.block (WC.loop (WL.gv ho35 (fun s R' B'=>cI prog 0 (A R' B') (aC.at_ 62 0 11)=some (A [(1,rM aG.pd a1),(2,.ptr 32 0),(9,rI s.1),(10,rI s.2.1),(45,.view 272 0 (0+(1:Int).toNat) (0+((o10.length:Int):Int).toNat)),(46,rI x20),(47,rI s.2.2)] [(32,.var (ag.rc a0)),(272,.arr 0 3 (o10.map (PD.int .i64)))])) (fun o e R' B'=>e= .exit 2∧cI prog 0 (A R' B') (aC.at_ 62 0 17)=some (A [(9,rI o.1),(10,rI o.2)] [])) rfl ?_ ?_))
 ·rintro⟨s21,s22,s23⟩ R' B' q26 hI h
  refine gS rfl hI<|sF h (fun h=>?_) fun h=>?_
  ·refine sN<|qS<|cT<|qK<|qS<|qB<|gS rfl rfl<|bE h fun x28 hx28 h=>WO.eltV hx28 rfl rfl rfl rfl rfl rfl rfl rfl<|bE h fun x29 hx29 h=>WO.pO hx29 rfl rfl rfl rfl rfl rfl<|sA rfl<|sN<|gS rfl rfl<|sV (.d (ag.pd a0)) ?_
   refine sM rfl<|sM rfl<|bE h fun x30 hx30 h=>cD (oL hx30)<|sA rfl<|sN<|gS rfl rfl<|sM rfl<|sM rfl<|sF h (fun h=>?_) fun h=>?_
   ·refine sM rfl<|k3<|k3<|sK<|sK<|sT<|sN<|cT<|WC.region rfl rfl<|sM rfl<|sM rfl ?_
    refine sA rfl<|sA rfl<|sN<|WC.region rfl rfl<|sV (rI (rW (s23+(1:Int))))<|sM rfl<|sN ?_
    cases oI h
    exact⟨rfl,rfl⟩
   refine sM rfl<|sM rfl<|sM rfl<|sF h (fun h=>?_) fun h=>?_
   ·refine sM rfl<|sM rfl<|sM rfl<|sV (rB (decide (x29<s21)))<|sV (rB (decide (x29<s21)))<|sF h (fun h=>?_) fun h=>?_
    ·refine sN<|cT<|WC.region rfl rfl<|sM rfl<|sM rfl<|sA rfl<|sA rfl<|sN<|WC.region rfl rfl<|sV (rI (rW (s23+(1:Int))))<|sM rfl<|sN ?_
     cases oI h
     exact⟨rfl,rfl⟩
    refine sN<|cF<|qK<|WC.region rfl rfl<|sV (rI (rW (s23+(1:Int))))<|sM rfl<|sN ?_
    cases oI h
    exact⟨rfl,rfl⟩
   refine sM rfl<|k3<|sU<|sU<|sN<|cF<|qK<|WC.region rfl rfl<|sV (rI (rW (s23+(1:Int))))<|sM rfl<|sN ?_
   cases oI h
   exact⟨rfl,rfl⟩
  refine sN<|qS<|cF<|qX ?_
  cases oI h
  exact⟨nofun,rfl,rfl⟩
 intro e R' B' he hq
 obtain⟨rfl,hI⟩:=hq
 refine qE<|gS rfl hI<|sM rfl<|sM rfl<|sA rfl<|sA rfl<|sN<|qR ?_
 exact oI h▸qD
theorem oh{a0:ag}{a1:ai}{r:Int×Int}(h:eO a0 a1=some r):EvP prog aC ext 267 [.d (ag.pd a0),.d (ai.pd a1)] [] (.tup [rI r.1,rI r.2],[]):=by
 refine Ev.body rfl Tryz.func267 rfl (by kernel_rfl)<|gS rfl rfl<|sB (.ptr 32 0) 32 (.var (ag.rc a0))<|sB (.ptr 48 0) 48 (.var (ai.rc a1))<|sV (r0)<|sV (r0)<|sN<|gS rfl rfl<|sV (.d (ag.pd a0))<|sV (.d (ai.pd a1))<|bE h fun x1 hx1 h=>cR (.tup [rM aG.pd x1.1,rI x1.2]) [] (lH hx1)<|sM rfl<|sV (rM aG.pd x1.1)<|sV (rI x1.2) ?_
 refine sA rfl<|sA rfl<|sN<|qS<|gS rfl rfl<|sM rfl<|sF h (fun h=>?_) fun h=>?_
 ·refine sN<|cT<|gS rfl rfl<|sM rfl<|sV (r0)<|sA rfl<|sN<|qR ?_
  cases oI h
  exact qG
 refine sN<|cF<|qK<|gS rfl rfl<|sV (.d (ag.pd a0))<|sM rfl<|bE h fun x3 hx3 h=>cR (.tup [rI x3.1,rI x3.2]) [] (oK hx3)<|sM rfl<|sV (rI x3.1)<|sV (rI x3.2)<|sA rfl<|sA rfl<|sN<|gS rfl rfl ?_
 refine sM rfl<|sA rfl<|sV (r0)<|sN<|qR ?_
 cases oI h
 exact qG
theorem queue_Push_ev{a0:al}{e1:ag}{e2:Int}{e3:Int}{e4:Bool}{e5:aj}{r:(List al)}(h:nV a0 e1 e2 e3 e4 e5=some r):EvP prog aC ext 444 [.ptr 0 11,.ifc 194 (.d (al.pd a0))] [.var (ag.rc e1++ .dH::rI e2::rI e3::rB e4::aj.rc e5)] (.tup [],[.var (ag.rc e1++ .ref 1 0::rI e2::rI e3::rB e4::aj.rc e5),.arr 0 194 (r.map al.pd)]):=by
 refine Ev.body rfl Tryz.func444 rfl (by kernel_rfl)<|gS rfl rfl<|sM rfl<|sG (.tup [.d (al.pd a0),rB true])<|sM rfl<|sV (.d (al.pd a0))<|sT<|sB (.ptr 64 0) 64 (.var [r0,r0,r0,r0,r0,r0,r0,r0])<|sH 64 (.var (al.rc a0))<|sA rfl<|sN<|gS rfl rfl<|sM rfl<|sN<|cT ?_
 refine WC.kI rfl rfl<|sM rfl<|sM rfl<|sV (.ptr 0 11)<|sL rfl<|sV (.d (al.pd a0))<|sG (.d (.lst ([a0].map al.pd)))<|bE h fun x1 hx1 h=>WO.appN hx1 (fun _=>rfl) rfl rfl rfl rfl rfl rfl rfl rfl rfl rfl rfl rfl rfl rfl<|sV (.ptr 0 11)<|sS 0 (.var (ag.rc e1++ .ref 288 0::rI e2::rI e3::rB e4::aj.rc e5)) ?_
 refine sN<|sO ?_
 cases oI h
 exact qG
theorem nU{a0:(List al)}{r:Int}(h:gX a0=some r):EvP prog aC ext 440 [rM al.pd a0] [] (rI r,[]):=by
 refine Ev.body rfl Tryz.func440 rfl (by kernel_rfl)<|gS rfl rfl<|sV (r0)<|sN<|gS rfl rfl<|sM rfl<|sE (rI (a0.length:Int)) (dT _ _)<|sA rfl<|sN<|qR ?_
 exact oI h▸qD
theorem m7{a0:(List al)}{a1:Int}{a2:Int}{r:Bool}(h:ix a0 a1 a2=some r):EvP prog aC ext 441 [rM al.pd a0,rI a1,rI a2] [] (rB r,[]):=by
 refine Ev.body rfl Tryz.func441 rfl (by kernel_rfl)<|gS rfl rfl<|sU<|sN<|WC.dG rfl rfl<|sM rfl<|sM rfl<|bE h fun x1 hx1 h=>eG hx1 rfl<|sV (.cptr [.int .i64 x1.ch,.int .i64 x1.gw])<|sC rfl<|sM rfl<|sM rfl<|bE h fun x2 hx2 h=>eG hx2 rfl ?_
 refine sV (.cptr [.int .i64 x2.ch,.int .i64 x2.gw])<|sC rfl<|bE h fun x3 hx3 h=>cD (bK hx3)<|sM rfl<|sM rfl<|bE h fun x4 hx4 h=>eG hx4 rfl<|sV (.cptr [.int .i64 x4.gw])<|sC rfl<|sM rfl<|sM rfl<|bE h fun x5 hx5 h=>eG hx5 rfl<|sV (.cptr [.int .i64 x5.gw]) ?_
 refine sC rfl<|bE h fun x6 hx6 h=>cD (bK hx6)<|sV (.d (.lst ([x3,x6].map (PD.int .i64))))<|bE h fun x7 hx7 h=>cD (gT hx7)<|sV (rB (decide (x7<(0:Int))))<|sA rfl ?_
 refine sN<|sO<|qR ?_
 exact oI h▸qD
theorem m8{a1:Int}{a2:Int}{d0:(List al)}{r:(List al)}(h:iy a1 a2 d0=some r):EvP prog aC ext 442 [.ref 0 0,rI a1,rI a2] [.arr 0 194 (d0.map al.pd)] (.tup [],[.arr 0 194 (r.map al.pd)]):=by
 refine Ev.body rfl Tryz.func442 rfl (by kernel_rfl)<|WC.kI rfl rfl<|sM rfl<|sM rfl<|sM rfl<|sM rfl<|sM rfl<|sM rfl<|bE h fun x2 hx2 h=>WO.qy hx2 rfl rfl rfl rfl rfl rfl rfl rfl<|bE h fun x3 hx3 h=>WO.pO hx3 rfl rfl rfl rfl rfl rfl<|sM rfl<|sM rfl<|bE h fun x5 hx5 h=>?_
 refine WO.qy hx5 rfl rfl rfl rfl rfl rfl rfl rfl<|bE h fun x6 hx6 h=>WO.pO hx6 rfl rfl rfl rfl rfl rfl<|bE h fun x8 hx8 h=>WO.qy hx8 rfl rfl rfl rfl rfl rfl rfl rfl<|bE h fun x9 hx9 h=>WO.rD (g:=al.pd) (sz:=8) (p:=al.pd x3) hx9 (by intro _;kernel_rfl) (by intro _;kernel_rfl) rfl rfl rfl rfl rfl rfl rfl rfl rfl<|bE h fun x11 hx11 h=>WO.qy hx11 rfl rfl rfl rfl rfl rfl rfl rfl<|bE h fun x12 hx12 h=>WO.rD (g:=al.pd) (sz:=8) (p:=al.pd x6) hx12 (by intro _;kernel_rfl) (by intro _;kernel_rfl) rfl rfl rfl rfl rfl rfl rfl rfl rfl ?_
 refine sN<|sO ?_
 exact oI h▸qD
theorem heap_up_ev{a0:Int}{e1:ag}{e2:Int}{e3:Int}{e4:Bool}{e5:aj}{d1:(List al)}{r:(List al)}(h:nN a0 e1 e2 e3 e4 e5 d1=some r):EvP prog aC ext 330 [.ifc 309 (.ptr 0 11),rI a0] [.var (ag.rc e1++ .ref 1 0::rI e2::rI e3::rB e4::aj.rc e5),.arr 0 194 (d1.map al.pd)] (.tup [],[.var (ag.rc e1++ .ref 1 0::rI e2::rI e3::rB e4::aj.rc e5),.arr 0 194 (r.map al.pd)]):=by
 refine Ev.body rfl Tryz.func330 rfl (by kernel_rfl)<|bE h fun o12 ho12 h=>?_
 cases oI h
 refine WC.block (WC.loop (WL.vH ho12 (fun s R' B'=>cI prog 2 (A R' B') (aC.at_ 330 2 0)=some (A [(0,.ifc 309 (.ptr 0 11)),(1,rI s.1)] [(0,.var (ag.rc e1++ .ref 1 0::rI e2::rI e3::rB e4::aj.rc e5)),(1,.arr 0 194 (s.2.map al.pd))])) rfl ?_))
 rintro⟨s1,s2⟩ R' B' q3 hI h
 unfold mK at h
 refine qB<|gS rfl hI<|sM rfl<|sV (rI (rW (s1-(1:Int))))<|bE h fun x4 hx4 h=>WO.tV hx4 rfl rfl rfl rfl rfl rfl<|sA rfl<|sN<|qS<|gS rfl rfl<|sM rfl<|sM rfl<|sF h (fun h=>?_) fun h=>?_
 ·refine sM rfl<|k3<|sK<|sK<|sT<|sN<|cT<|qX<|⟨fun he=>(by cases he),fun _=>?_⟩
  refine tq h (fun z6 hkz6 hz=>?_)
  obtain rfl:=Option.some.inj hz
  refine⟨(fun he=>by cases he),fun hz2=>?_⟩
  subst hz2
  have h:=hkz6
  refine qE ?_
  cases oI h
  exact qG
 refine sM rfl<|sM rfl<|sM rfl<|sM rfl<|bE h fun x7 hx7 h=>WO.wx (e:=190) (c:= .ptr 0 11) (vl:= .ref 1 0) (g:=441) (args:=[rI s1,rI x4]) (v:=rB x7) (u:=[ ]) rfl rfl (by intro _;kernel_rfl) rfl rfl rfl rfl rfl rfl (m7 hx7) rfl rfl rfl rfl<|sV (rB (!x7))<|sF h (fun h=>?_) fun h=>?_
 ·refine sN<|cT<|qX<|⟨fun he=>(by cases he),fun _=>?_⟩
  refine tq h (fun z9 hkz9 hz=>?_)
  obtain rfl:=Option.some.inj hz
  refine⟨(fun he=>by cases he),fun hz2=>?_⟩
  subst hz2
  have h:=hkz9
  refine qE ?_
  cases oI h
  exact qG
 refine sN<|cF<|qK<|gS rfl rfl<|sM rfl<|sM rfl<|sM rfl<|bE h fun x10 hx10 h=>WO.wx (e:=190) (c:= .ptr 0 11) (vl:= .ref 1 0) (g:=442) (args:=[rI x4,rI s1]) (v:= .tup []) (u:=[(1,.arr 0 194 (x10.map al.pd))]) rfl rfl (by intro _;kernel_rfl) rfl rfl rfl rfl rfl rfl (m8 hx10) rfl rfl rfl rfl<|sN<|WC.region rfl rfl<|sM rfl<|sA rfl<|sN ?_
 cases oI h
 exact⟨rfl,rfl⟩
theorem heap_Push_ev{a0:al}{e1:ag}{e2:Int}{e3:Int}{e4:Bool}{e5:aj}{r:(List al)}(h:me a0 e1 e2 e3 e4 e5=some r):EvP prog aC ext 268 [.ifc 309 (.ptr 0 11),.ifc 194 (.d (al.pd a0))] [.var (ag.rc e1++ .dH::rI e2::rI e3::rB e4::aj.rc e5)] (.tup [],[.var (ag.rc e1++ .ref 1 0::rI e2::rI e3::rB e4::aj.rc e5),.arr 0 194 (r.map al.pd)]):=by
 refine Ev.body rfl Tryz.func268 rfl (by kernel_rfl)<|gS rfl rfl<|sM rfl<|sM rfl<|bE h fun x1 hx1 h=>WO.qw (g:=444) (args:=[.ptr 0 11,.ifc 194 (.d (al.pd a0))]) (v:= .tup []) (u:=[(0,.var (ag.rc e1++ .ref 96 0::rI e2::rI e3::rB e4::aj.rc e5)),(96,.arr 0 194 (x1.map al.pd))]) rfl rfl (by intro _;kernel_rfl) rfl rfl rfl rfl rfl (queue_Push_ev hx1) rfl rfl rfl rfl<|sN<|WC.region rfl rfl<|sM rfl<|sM rfl<|bE h fun x2 hx2 h=>WO.wx (e:=190) (c:= .ptr 0 11) (vl:= .ref 96 0) (g:=440) (args:=[]) (v:=rI x2) (u:=[ ]) rfl rfl (by intro _;kernel_rfl) rfl rfl rfl rfl rfl rfl (nU hx2) rfl rfl rfl rfl<|sV (rI (rW (x2-(1:Int))))<|bE h fun x3 hx3 h=>cR (.tup []) [(0,.var (ag.rc e1++ .ref 96 0::rI e2::rI e3::rB e4::aj.rc e5)),(96,.arr 0 194 (x3.map al.pd))] (heap_up_ev hx3) ?_
 refine sN ?_
 cases oI h
 exact qG
theorem search_add_ev{a0:ai}{e1:ag}{e2:Int}{e3:Int}{e4:Bool}{e5:aj}{r:Int×(List al)×Int}(h:kV a0 e1 e2 e3 e4 e5=some r):EvP prog aC ext 184 [.ptr 0 0,.d (ai.pd a0)] [.var (ag.rc e1++ .dH::rI e2::rI e3::rB e4::aj.rc e5)] (rI r.1,[.var (ag.rc e1++ .ref 1 0::rI r.2.2::rI e3::rB e4::aj.rc e5),.arr 0 194 (r.2.1.map al.pd)]):=by
 refine Ev.body rfl Tryz.func184 rfl (by kernel_rfl)<|gS rfl rfl<|sB (.ptr 48 0) 48 (.var (ai.rc a0))<|sV (r0)<|sN<|WC.dG rfl rfl<|sM rfl<|sV (.ptr 0 0)<|sV (.ptr 0 0)<|sV (.d (ag.pd e1))<|sV (.d (ai.pd a0))<|bE h fun x1 hx1 h=>cR (.tup [rI x1.1,rI x1.2]) [] (oh hx1)<|sM rfl<|sV (rI x1.1) ?_
 refine sV (rI x1.2)<|sA rfl<|sA rfl ?_
 refine sN<|sO<|WC.join (α:=Int×(List al)) (fun x R' B'=>cI prog 1 (A R' B') (aC.at_ 184 1 5)=some (A [(6,rI x1.2)] [(0,.var (ag.rc e1++ .ref 90081 0::rI x.1::rI e3::rB e4::aj.rc e5)),(90081,.arr 0 194 (x.2.map al.pd))])) (fun x=>jl x1 x.1 x.2=some r) ?_ ?_
 ·refine gS rfl rfl<|sM rfl<|sF h (fun h=>?_) fun h=>?_
  ·refine sN<|cT<|WC.dG rfl rfl<|sM rfl<|sV (.ptr 0 0)<|sV (.ptr 0 11)<|sG (.ifc 309 (.ptr 0 11))<|sV (.d (ai.pd a0))<|sM rfl<|sM rfl<|sV (.ptr 0 0)<|sV (.ptr 0 12)<|sL rfl<|sG (.d (al.pd (al.mk a0 x1.1 e2)))<|sG (.ifc 194 (.d (al.pd (al.mk a0 x1.1 e2)))) ?_
   refine bE h fun x6 hx6 h=>cR (.tup []) [(0,.var (ag.rc e1++ .ref 480 0::rI e2::rI e3::rB e4::aj.rc e5)),(480,.arr 0 194 (x6.map al.pd))] (heap_Push_ev hx6) ?_
   exact sN<|sO<|WC.region rfl rfl<|sM rfl<|sV (.ptr 0 0)<|sV (.ptr 0 12)<|sL rfl<|sV (rI (rW (e2+(1:Int))))<|sV (.ptr 0 0)<|sV (.ptr 0 12)<|sS 0 (.var (ag.rc e1++ .ref 480 0::rI (rW (e2+(1:Int)))::rI e3::rB e4::aj.rc e5))<|sN<|⟨((rW (e2+(1:Int))),x6),rfl,h⟩
  exact sN<|cF<|qK<|⟨(e2,([]:List al)),rfl,h⟩
 rintro⟨j2,j3⟩ R' B' hI h
 refine gS rfl hI<|sM rfl<|sA rfl<|sN<|qR ?_
 cases oI h
 exact qG
theorem search_ended_ev{a0:Int}{e1:ag}{e2:Int}{e3:Int}{e4:Bool}{e5:aj}{d1:(List al)}{r:Bool}(h:iV a0 e1 e2 e3 e4 e5 d1=some r):EvP prog aC ext 185 [.ptr 0 0,rI a0] [.var (ag.rc e1++ .ref 1 0::rI e2::rI e3::rB e4::aj.rc e5),.arr 0 194 (d1.map al.pd)] (rB r,[.var (ag.rc e1++ .ref 1 0::rI e2::rI e3::rB e4::aj.rc e5),.arr 0 194 (d1.map al.pd)]):=by
 refine Ev.body rfl Tryz.func185 rfl (by kernel_rfl)<|gS rfl rfl<|sU<|sN<|WC.dG rfl rfl<|sM rfl<|sV (.ptr 0 0)<|sV (.ptr 0 11)<|sL rfl<|WO.ud rfl rfl rfl rfl rfl rfl rfl rfl rfl<|sF h (fun h=>?_) fun h=>?_
 ·refine sM rfl<|k3<|k3<|k3<|k3<|sK<|sK ?_
  refine k3<|k3<|sK<|sT<|sA rfl ?_
  refine sN<|sO<|qR ?_
  cases oI h
  exact qG
 refine sM rfl<|sM rfl<|sV (.ptr 0 0)<|sV (.ptr 0 14)<|sF h (fun h=>?_) fun h=>?_
 ·refine sM rfl<|sM rfl<|sV (.ptr 0 0)<|sV (.ptr 0 15)<|sV (.ptr 0 19)<|sL rfl<|sM rfl<|sV (.ptr 0 0)<|sV (.ptr 0 11)<|sL rfl<|bE h fun x4 hx4 h=>WO.qy hx4 rfl rfl rfl rfl rfl rfl rfl rfl<|sV (.elt 1 0 ((0:Int)).toNat 6)<|bE h fun x5 hx5 h=>WO.pO hx5 rfl rfl rfl rfl rfl rfl ?_
  refine sV (rI (rW (e5.bh-x5.ch)))<|sM rfl<|sV (rB (decide ((rW (e5.bh-x5.ch))<=a0)))<|sV (rB (decide ((rW (e5.bh-x5.ch))<=a0)))<|sV (rB (decide ((rW (e5.bh-x5.ch))<=a0)))<|sA rfl ?_
  refine sN<|sO<|qR ?_
  cases oI h
  exact qG
 refine sM rfl<|k3<|k3<|k3<|k3<|sK<|sK ?_
 refine sK<|sU<|sU<|sA rfl ?_
 refine sN<|sO<|qR ?_
 cases oI h
 exact qG
theorem heap_down_ev{a0:Int}{a1:Int}{e2:ag}{e3:Int}{e4:Int}{e5:Bool}{e6:aj}{d1:(List al)}{r:Bool×(List al)}(h:mf a0 a1 e2 e3 e4 e5 e6 d1=some r):EvP prog aC ext 331 [.ifc 309 (.ptr 0 11),rI a0,rI a1] [.var (ag.rc e2++ .ref 1 0::rI e3::rI e4::rB e5::aj.rc e6),.arr 0 194 (d1.map al.pd)] (rB r.1,[.var (ag.rc e2++ .ref 1 0::rI e3::rI e4::rB e5::aj.rc e6),.arr 0 194 (r.2.map al.pd)]):=by
 refine Ev.body rfl Tryz.func331 rfl (by kernel_rfl)<|gS rfl rfl<|sU<|sN<|gS rfl rfl<|sM rfl<|sA rfl<|sN<|qS<|bE h fun o17 ho17 h=>WC.block (WC.loop (WL.gv ho17 (fun s R' B'=>cI prog 2 (A R' B') (aC.at_ 331 2 2)=some (A [(0,.ifc 309 (.ptr 0 11)),(1,rI a0),(2,rI a1),(7,rI s.1)] [(0,.var (ag.rc e2++ .ref 1 0::rI e3::rI e4::rB e5::aj.rc e6)),(1,.arr 0 194 (s.2.map al.pd))])) (fun o e R' B'=>e= .exit 0∧cI prog 2 (A R' B') (aC.at_ 331 2 11)=some (A [(1,rI a0),(7,rI o.1)] [(0,.var (ag.rc e2++ .ref 1 0::rI e3::rI e4::rB e5::aj.rc e6)),(1,.arr 0 194 (o.2.map al.pd))])) rfl ?_ ?_))
 ·rintro⟨s1,s2⟩ R' B' q5 hI h
  refine qB<|gS rfl hI<|sM rfl<|sV (rI (rW ((2:Int)*s1)))<|sV (rI (rW ((rW ((2:Int)*s1))+(1:Int))))<|sA rfl<|sN<|qS<|gS rfl rfl<|sM rfl<|sM rfl<|sF h (fun h=>?_) fun h=>?_
  ·refine sM rfl<|sK<|sK<|sT<|sN<|cT<|qX<|⟨fun he=>(by cases he),fun _=>?_⟩
   cases oI h
   exact⟨nofun,rfl,rfl⟩
  refine sM rfl<|sM rfl<|sV (rB (decide ((rW ((rW ((2:Int)*s1))+(1:Int)))<(0:Int))))<|sF h (fun h=>?_) fun h=>?_
  ·refine sN<|cT<|qX<|⟨fun he=>(by cases he),fun _=>?_⟩
   cases oI h
   exact⟨nofun,rfl,rfl⟩
  refine sN<|cF<|qK<|gS rfl rfl<|sM rfl<|sA rfl<|sN<|WC.join (α:=Int) (fun x R' B'=>cI prog 2 (A R' B') (aC.at_ 331 2 8)=some (A [(0,.ifc 309 (.ptr 0 11)),(1,rI a0),(2,rI a1),(7,rI s1),(9,rI x)] [(0,.var (ag.rc e2++ .ref 1 0::rI e3::rI e4::rB e5::aj.rc e6)),(1,.arr 0 194 (s2.map al.pd))])) (fun x=>eV s2 s1 x=some q5) ?_ ?_
  ·refine gS rfl rfl<|sM rfl<|sV (rI (rW ((rW ((rW ((2:Int)*s1))+(1:Int)))+(1:Int))))<|sA rfl<|sN<|gS rfl rfl<|sM rfl<|sM rfl<|sF h (fun h=>?_) fun h=>?_
   ·refine sM rfl<|sM rfl<|sM rfl<|sM rfl<|bE h fun x14 hx14 h=>WO.wx (e:=190) (c:= .ptr 0 11) (vl:= .ref 1 0) (g:=441) (args:=[rI (rW ((rW ((rW ((2:Int)*s1))+(1:Int)))+(1:Int))),rI (rW ((rW ((2:Int)*s1))+(1:Int)))]) (v:=rB x14) (u:=[ ]) rfl rfl (by intro _;kernel_rfl) rfl rfl rfl rfl rfl rfl (m7 hx14) rfl rfl rfl rfl<|sF h (fun h=>?_) fun h=>?_
    ·exact sN<|cT<|WC.region rfl rfl<|sM rfl<|sA rfl<|sN<|⟨(rW ((rW ((rW ((2:Int)*s1))+(1:Int)))+(1:Int))),rfl,h⟩
    exact sN<|cF<|qK<|⟨(rW ((rW ((2:Int)*s1))+(1:Int))),rfl,h⟩
   exact sM rfl<|k3<|sK<|sU<|sN<|cF<|qK<|⟨(rW ((rW ((2:Int)*s1))+(1:Int))),rfl,h⟩
  rintro j8 R' B' hI h
  refine qS<|gS rfl hI<|sM rfl<|sM rfl<|sM rfl<|bE h fun x9 hx9 h=>WO.wx (e:=190) (c:= .ptr 0 11) (vl:= .ref 1 0) (g:=441) (args:=[rI j8,rI s1]) (v:=rB x9) (u:=[ ]) rfl rfl (by intro _;kernel_rfl) rfl rfl rfl rfl rfl rfl (m7 hx9) rfl rfl rfl rfl<|sF h (fun h=>?_) fun h=>?_
  ·refine sN<|cT<|qX<|⟨fun he=>(by cases he),fun _=>?_⟩
   cases oI h
   exact⟨nofun,rfl,rfl⟩
  refine sN<|cF<|qK<|gS rfl rfl<|sM rfl<|sM rfl<|sM rfl<|bE h fun x11 hx11 h=>WO.wx (e:=190) (c:= .ptr 0 11) (vl:= .ref 1 0) (g:=442) (args:=[rI s1,rI j8]) (v:= .tup []) (u:=[(1,.arr 0 194 (x11.map al.pd))]) rfl rfl (by intro _;kernel_rfl) rfl rfl rfl rfl rfl rfl (m8 hx11) rfl rfl rfl rfl<|sN<|WC.region rfl rfl<|sM rfl<|sA rfl<|sN ?_
  cases oI h
  exact⟨rfl,rfl⟩
 intro e R' B' he hq
 obtain⟨rfl,hI⟩:=hq
 refine qE<|gS rfl hI<|sM rfl<|sM rfl<|sV (rB (decide (o17.1>a0)))<|sA rfl<|sN<|qR ?_
 cases oI h
 exact qG
theorem queue_Pop_ev{e0:ag}{e1:Int}{e2:Int}{e3:Bool}{e4:aj}{d1:(List al)}{r:al×(List al)}(h:pc e0 e1 e2 e3 e4 d1=some r):EvP prog aC ext 443 [.ptr 0 11] [.var (ag.rc e0++ .ref 1 0::rI e1::rI e2::rB e3::aj.rc e4),.arr 0 194 (d1.map al.pd)] (.ifc 194 (.d (al.pd r.1)),[.var (ag.rc e0++ .ref 1 1::rI e1::rI e2::rB e3::aj.rc e4),.arr 1 194 (r.2.map al.pd)]):=by
 refine Ev.body rfl Tryz.func443 rfl (by kernel_rfl)<|gS rfl rfl<|sV (.d (.raw .nilIface))<|sN<|gS rfl rfl<|sM rfl<|sV (.ptr 0 11)<|sL rfl<|sA rfl<|sN<|gS rfl rfl<|sM rfl<|sM rfl<|WO.ud rfl rfl rfl rfl rfl rfl rfl rfl rfl<|sV (rI (rW ((d1.length:Int)-(1:Int)))) ?_
 refine bE h fun x2 hx2 h=>WO.qy hx2 rfl rfl rfl rfl rfl rfl rfl rfl<|bE h fun x3 hx3 h=>WO.pO hx3 rfl rfl rfl rfl rfl rfl<|sB (.ptr 64 0) 64 (.var [r0,r0,r0,r0,r0,r0,r0,r0])<|sH 64 (.var (al.rc x3))<|sN<|gS rfl rfl<|sM rfl<|sM rfl<|sM rfl<|WO.ud rfl rfl rfl rfl rfl rfl rfl rfl rfl<|sV (rI (rW ((d1.length:Int)-(1:Int))))<|bE h fun x4 hx4 h=>WO.resl hx4 rfl rfl rfl rfl rfl rfl rfl rfl rfl rfl rfl rfl ?_
 refine sV (.ptr 0 11)<|sS 0 (.var (ag.rc e0++ .ref 1 1::rI e1::rI e2::rB e3::aj.rc e4))<|sN<|gS rfl rfl<|sV (.d (al.pd x3))<|sG (.ifc 194 (.d (al.pd x3)))<|sA rfl<|sN<|qR ?_
 cases oI h
 exact qG
theorem heap_Pop_ev{e0:ag}{e1:Int}{e2:Int}{e3:Bool}{e4:aj}{d1:(List al)}{r:al×(List al)}(h:nq e0 e1 e2 e3 e4 d1=some r):EvP prog aC ext 269 [.ifc 309 (.ptr 0 11)] [.var (ag.rc e0++ .ref 1 0::rI e1::rI e2::rB e3::aj.rc e4),.arr 0 194 (d1.map al.pd)] (.ifc 194 (.d (al.pd r.1)),[.var (ag.rc e0++ .ref 1 1::rI e1::rI e2::rB e3::aj.rc e4),.arr 1 194 (r.2.map al.pd)]):=by
 refine Ev.body rfl Tryz.func269 rfl (by kernel_rfl)<|gS rfl rfl<|sV (.d (.raw .nilIface))<|sN<|gS rfl rfl<|sM rfl<|bE h fun x1 hx1 h=>WO.wx (e:=190) (c:= .ptr 0 11) (vl:= .ref 1 0) (g:=440) (args:=[]) (v:=rI x1) (u:=[ ]) rfl rfl (by intro _;kernel_rfl) rfl rfl rfl rfl rfl rfl (nU hx1) rfl rfl rfl rfl<|sV (rI (rW (x1-(1:Int))))<|sA rfl<|sN<|gS rfl rfl<|sM rfl<|sM rfl<|bE h fun x2 hx2 h=>?_
 refine WO.wx (e:=190) (c:= .ptr 0 11) (vl:= .ref 1 0) (g:=442) (args:=[r0,rI (rW (x1-(1:Int)))]) (v:= .tup []) (u:=[(1,.arr 0 194 (x2.map al.pd))]) rfl rfl (by intro _;kernel_rfl) rfl rfl rfl rfl rfl rfl (m8 hx2) rfl rfl rfl rfl<|sN<|gS rfl rfl<|sM rfl<|sM rfl<|bE h fun x3 hx3 h=>cR (rB x3.1) [(0,.var (ag.rc e0++ .ref 1 0::rI e1::rI e2::rB e3::aj.rc e4)),(1,.arr 0 194 (x3.2.map al.pd))] (heap_down_ev hx3)<|sN<|gS rfl rfl<|sM rfl<|bE h fun x4 hx4 h=>WO.qw (g:=443) (args:=[.ptr 0 11]) (v:= .ifc 194 (.d (al.pd x4.1))) (u:=[(0,.var (ag.rc e0++ .ref 1 1::rI e1::rI e2::rB e3::aj.rc e4)),(1,.arr 1 194 (x4.2.map al.pd))]) rfl rfl (by intro _;kernel_rfl) rfl rfl rfl rfl rfl (queue_Pop_ev hx4) rfl rfl rfl rfl<|sA rfl<|sN<|qR ?_
 cases oI h
 exact qG
theorem dj{a0:Int}{a1:Int}{r:Int}(h:bR a0 a1=some r):EvP prog aC ext 334 [rI a0,rI a1] [] (rI r,[]):=by
 refine Ev.body rfl Tryz.func334 rfl (by kernel_rfl)<|gS rfl rfl<|sV (r0)<|sN<|gS rfl rfl<|sM rfl<|sM rfl<|sM rfl<|sV (rI (rW (a1-a0)))<|bE h fun x1 hx1 h=>WO.tV hx1 rfl rfl rfl rfl rfl rfl<|sV (rI (rW (a0+x1)))<|sA rfl<|sN<|qR ?_
 exact oI h▸qD
theorem bU{a0:aW}{r:aa}(h:bD a0=some r):EvP prog aC ext 189 [.d (aW.pd a0)] [] (.d (aa.pd r),[]):=by
 refine Ev.body rfl Tryz.func189 rfl (by kernel_rfl)<|gS rfl rfl<|sB (.ptr 16 0) 16 (.var [rI a0.a0,rI a0.a1,rI a0.a2])<|sB (.ptr 32 0) 32 (.var [r0,r0,r0])<|sN<|gS rfl rfl<|sV (.ptr 16 0)<|sL rfl<|sV (.ptr 16 1)<|sL rfl<|sV (.ptr 16 2)<|sL rfl<|sV (.d (aa.pd (aa.mk a0.a0 a0.a1 a0.a2)))<|sS 32 (.var [rI a0.a0,rI a0.a1,rI a0.a2])<|sN ?_
 refine qR ?_
 exact oI h▸qD
theorem pG{a0:ai}{r:aa}(h:fm a0=some r):EvP prog aC ext 332 [.d (ai.pd a0)] [] (.d (aa.pd r),[]):=by
 refine Ev.body rfl Tryz.func332 rfl (by kernel_rfl)<|gS rfl rfl<|sB (.ptr 16 0) 16 (.var (ai.rc a0))<|sB (.ptr 32 0) 32 (.var [r0,r0,r0])<|sN<|qS<|gS rfl rfl<|sV (.d (ai.pd a0))<|bE h fun x1 hx1 h=>cD (bC hx1)<|sF h (fun h=>?_) fun h=>?_
 ·refine sN<|cT<|gS rfl rfl<|sV (.d (aa.pd (aa.mk 0 0 0)))<|sS 32 (.var [r0,r0,r0])<|sN<|qR ?_
  exact oI h▸qD
 refine sN<|cF<|qK<|WC.dG rfl rfl<|sV (.ptr 16 0)<|sV (.d (aa.pd a0.aL))<|bE h fun x3 hx3 h=>cD (bL hx3)<|sV (.ptr 16 3)<|sV (.d (aa.pd a0.aF))<|bE h fun x4 hx4 h=>cD (bL hx4)<|sB (.ptr 48 0) 48 (.var [r0,r0,r0])<|sB (.ptr 64 0) 64 (.var [r0,r0,r0])<|sS 48 (.var [rI x3.a0,rI x3.a1,rI x3.a2]) ?_
 refine sS 64 (.var [rI x4.a0,rI x4.a1,rI x4.a2]) ?_
 refine sN<|sO<|qS<|gS rfl rfl<|sV (r0)<|sN<|WC.block (WC.loop ?_)
 refine WL.round<|WC.iA (R0:=[(2,.ptr 32 0),(3,.ptr 48 0),(4,.ptr 64 0),(16,r0)]) (B0:=[(32,.var [r0,r0,r0]),(48,.var [rI x3.a0,rI x3.a1,rI x3.a2]),(64,.var [rI x4.a0,rI x4.a1,rI x4.a2])]) rfl rfl<|sT<|sN<|qS<|cT<|qK<|qS<|qB<|gS rfl rfl<|sM rfl<|sA rfl<|sN<|WC.kI rfl rfl<|sM rfl ?_
 refine sM rfl<|sV (.ptr 48 0)<|sL rfl<|sM rfl<|sV (.ptr 64 0)<|sL rfl<|bE h fun x5 hx5 h=>cD (dj hx5)<|sV (.ptr 48 0)<|sS 48 (.var [rI x5,rI x3.a1,rI x3.a2]) ?_
 refine sN<|sO<|WC.region rfl rfl<|sV (rI 1)<|sM rfl<|sN<|WL.round<|WC.iA (R0:=[(2,.ptr 32 0),(3,.ptr 48 0),(4,.ptr 64 0),(16,rI 1)]) (B0:=[(32,.var [r0,r0,r0]),(48,.var [rI x5,rI x3.a1,rI x3.a2]),(64,.var [rI x4.a0,rI x4.a1,rI x4.a2])]) rfl rfl<|sT<|sN<|qS<|cT<|qK<|qS<|qB<|gS rfl rfl ?_
 refine sM rfl<|sA rfl<|sN<|WC.kI rfl rfl<|sM rfl<|sM rfl<|sV (.ptr 48 1)<|sL rfl<|sM rfl<|sV (.ptr 64 1)<|sL rfl<|bE h fun x6 hx6 h=>cD (dj hx6)<|sV (.ptr 48 1)<|sS 48 (.var [rI x5,rI x6,rI x3.a2]) ?_
 refine sN<|sO<|WC.region rfl rfl<|sV (rI 2)<|sM rfl<|sN<|WL.round<|WC.iA (R0:=[(2,.ptr 32 0),(3,.ptr 48 0),(4,.ptr 64 0),(16,rI 2)]) (B0:=[(32,.var [r0,r0,r0]),(48,.var [rI x5,rI x6,rI x3.a2]),(64,.var [rI x4.a0,rI x4.a1,rI x4.a2])]) rfl rfl<|sT<|sN<|qS<|cT<|qK<|qS<|qB<|gS rfl rfl ?_
 refine sM rfl<|sA rfl<|sN<|WC.kI rfl rfl<|sM rfl<|sM rfl<|sV (.ptr 48 2)<|sL rfl<|sM rfl<|sV (.ptr 64 2)<|sL rfl<|bE h fun x7 hx7 h=>cD (dj hx7)<|sV (.ptr 48 2)<|sS 48 (.var [rI x5,rI x6,rI x7]) ?_
 refine sN<|sO<|WC.region rfl rfl<|sV (rI 3)<|sM rfl<|sN<|WL.round<|WC.iA (R0:=[(2,.ptr 32 0),(3,.ptr 48 0),(4,.ptr 64 0),(16,rI 3)]) (B0:=[(32,.var [r0,r0,r0]),(48,.var [rI x5,rI x6,rI x7]),(64,.var [rI x4.a0,rI x4.a1,rI x4.a2])]) rfl rfl<|sU<|sN<|qS<|cF<|qX<|qE<|gS rfl rfl<|sV (.d (aW.pd (aW.mk x5 x6 x7))) ?_
 refine bE h fun x8 hx8 h=>cD (bU hx8)<|sS 32 (.var (aa.rc x8))<|sN<|qR ?_
 exact oI h▸qD
theorem misfit_At_ev{a0:ag}{a1:aa}{r:Int×Int×Int}(h:gW a0 a1=some r):EvP prog aC ext 18 [.d (ag.pd a0),.d (aa.pd a1)] [] (.tup [rI r.1,rI r.2.1,rI r.2.2],[]):=by
 refine Ev.body rfl Tryz.func18 rfl (by kernel_rfl)<|gS rfl rfl<|sB (.ptr 32 0) 32 (.var (ag.rc a0))<|sB (.ptr 48 0) 48 (.var (aa.rc a1))<|sV (r0)<|sV (r0)<|sV (r0)<|sN<|gS rfl rfl<|sV (.d (ag.pd a0))<|sV (.d (aa.pd a1))<|sV (.d (aa.pd a1))<|sG (.d (ai.pd (ai.mk a1 a1)))<|bE h fun x1 hx1 h=>cR (.tup [rM aG.pd x1.1,rI x1.2]) [] (lH hx1) ?_
 refine sM rfl<|sV (rM aG.pd x1.1)<|sV (rI x1.2)<|sA rfl<|sA rfl<|sN<|qS<|gS rfl rfl<|sM rfl<|sF h (fun h=>?_) fun h=>?_
 ·refine sN<|cT<|gS rfl rfl<|sM rfl<|sV (r0)<|sV (r0)<|sA rfl<|sN<|qR ?_
  cases oI h
  exact qG
 refine sN<|cF<|qK<|gS rfl rfl<|sV (.d (ag.pd a0))<|sM rfl<|bE h fun x3 hx3 h=>cR (.tup [rI x3.1,rI x3.2]) [] (oK hx3)<|sM rfl<|sV (rI x3.1)<|sV (rI x3.2)<|sA rfl<|sA rfl<|sN<|gS rfl rfl ?_
 refine sM rfl<|sM rfl<|sA rfl<|sA rfl<|sV (r0)<|sN<|qR ?_
 cases oI h
 exact qG
theorem search_look_ev{a0:ai}{e1:ag}{e2:Int}{e3:Int}{e4:Bool}{e5:aj}{d1:(List al)}{r:Int×Bool×aj}(h:jK a0 e1 e2 e3 e4 e5 d1=some r):EvP prog aC ext 270 [.ptr 0 0,.d (ai.pd a0)] [.var (ag.rc e1++ .ref 1 0::rI e2::rI e3::rB e4::aj.rc e5),.arr 0 194 (d1.map al.pd)] (rI r.1,[.var (ag.rc e1++ .ref 1 0::rI e2::rI e3::rB r.2.1::aj.rc r.2.2),.arr 0 194 (d1.map al.pd)]):=by
 refine Ev.body rfl Tryz.func270 rfl (by kernel_rfl)<|gS rfl rfl<|sB (.ptr 48 0) 48 (.var (ai.rc a0))<|sV (r0)<|sN<|gS rfl rfl<|sV (.d (ai.pd a0))<|bE h fun x1 hx1 h=>cD (pG hx1)<|sB (.ptr 80 0) 80 (.var [r0,r0,r0])<|sS 80 (.var (aa.rc x1))<|sN<|WC.dG rfl rfl<|sM rfl<|sV (.ptr 0 0) ?_
 refine sV (.ptr 0 0)<|sV (.d (ag.pd e1))<|sV (.d (aa.pd x1))<|bE h fun x2 hx2 h=>cR (.tup [rI x2.1,rI x2.2.1,rI x2.2.2]) [] (misfit_At_ev hx2)<|sM rfl<|sV (rI x2.1)<|sV (rI x2.2.1)<|sV (rI x2.2.2)<|sA rfl<|sA rfl<|sA rfl ?_
 refine sN<|sO<|qS<|gS rfl rfl<|sM rfl<|sF h (fun h=>?_) fun h=>?_
 ·refine sN<|cT<|gS rfl rfl<|sM rfl<|sA rfl<|sN<|qR ?_
  cases oI h
  exact qG
 refine sN<|cF<|qK<|qS<|WC.dG rfl rfl<|sM rfl<|sV (.ptr 0 0)<|sV (.ptr 0 14)<|sL rfl<|sF h (fun h=>?_) fun h=>?_
 ·refine sM rfl<|k3<|k3<|sK<|sT<|sM rfl<|k3<|sK<|sK ?_
  refine k3<|k3<|k3<|k3<|sT ?_
  refine sN<|sO<|cT<|gS rfl rfl<|sM rfl<|sV (.ptr 0 0)<|sV (.ptr 0 14)<|sS 0 (.var (ag.rc e1++ .ref 1 0::rI e2::rI e3::rB true::aj.rc e5))<|sN<|WC.region rfl rfl<|sM rfl<|sV (.d (aa.pd x1))<|sM rfl<|sM rfl<|sG (.d (aj.pd (aj.mk x1 x2.1 x2.2.1 0 (ai.mk (aa.mk 0 0 0) (aa.mk 0 0 0)))))<|sV (.ptr 0 0) ?_
  refine sV (.ptr 0 15)<|sH 0 (.var (ag.rc e1++ .ref 1 0::rI e2::rI e3::rB true::aa.rc x1++[rI x2.1,rI x2.2.1,r0,r0,r0,r0,r0,r0,r0]))<|sN<|gS rfl rfl<|sV (r0)<|sN<|qR ?_
  cases oI h
  exact qG
 refine sM rfl<|sM rfl<|sM rfl<|sV (.ptr 0 0)<|sV (.ptr 0 15)<|sV (.ptr 0 19)<|sL rfl<|sV (rB (decide (x2.2.1<e5.bh)))<|sF h (fun h=>?_) fun h=>?_
 ·refine sM rfl<|k3<|k3<|k3<|k3<|sK<|sK ?_
  refine k3<|sT ?_
  refine sN<|sO<|cT<|gS rfl rfl<|sM rfl<|sV (.ptr 0 0)<|sV (.ptr 0 14)<|sS 0 (.var (ag.rc e1++ .ref 1 0::rI e2::rI e3::rB true::aj.rc e5))<|sN<|WC.region rfl rfl<|sM rfl<|sV (.d (aa.pd x1))<|sM rfl<|sM rfl<|sG (.d (aj.pd (aj.mk x1 x2.1 x2.2.1 0 (ai.mk (aa.mk 0 0 0) (aa.mk 0 0 0)))))<|sV (.ptr 0 0) ?_
  refine sV (.ptr 0 15)<|sH 0 (.var (ag.rc e1++ .ref 1 0::rI e2::rI e3::rB true::aa.rc x1++[rI x2.1,rI x2.2.1,r0,r0,r0,r0,r0,r0,r0]))<|sN<|gS rfl rfl<|sV (r0)<|sN<|qR ?_
  cases oI h
  exact qG
 refine sM rfl<|sM rfl<|sM rfl<|sV (.ptr 0 0)<|sV (.ptr 0 15)<|sV (.ptr 0 19)<|sL rfl<|sF h (fun h=>?_) fun h=>?_
 ·refine sM rfl<|sV (.d (aa.pd x1))<|sM rfl<|sV (.ptr 0 0)<|sV (.ptr 0 15)<|sV (.ptr 0 15)<|sV (.d (aa.pd e5.aV))<|bE h fun x7 hx7 h=>cD (lU hx7)<|sV (rB (decide (x7<(0:Int))))<|sV (rB (decide (x7<(0:Int))))<|sF h (fun h=>?_) fun h=>?_
  ·refine sN<|sO<|cT<|gS rfl rfl<|sM rfl<|sV (.ptr 0 0)<|sV (.ptr 0 14)<|sS 0 (.var (ag.rc e1++ .ref 1 0::rI e2::rI e3::rB true::aj.rc e5))<|sN<|WC.region rfl rfl<|sM rfl<|sV (.d (aa.pd x1))<|sM rfl<|sM rfl<|sG (.d (aj.pd (aj.mk x1 x2.1 x2.2.1 0 (ai.mk (aa.mk 0 0 0) (aa.mk 0 0 0)))))<|sV (.ptr 0 0) ?_
   refine sV (.ptr 0 15)<|sH 0 (.var (ag.rc e1++ .ref 1 0::rI e2::rI e3::rB true::aa.rc x1++[rI x2.1,rI x2.2.1,r0,r0,r0,r0,r0,r0,r0]))<|sN<|gS rfl rfl<|sV (r0)<|sN<|qR ?_
   cases oI h
   exact qG
  refine sN<|sO<|cF<|qK<|gS rfl rfl<|sV (r0)<|sN<|qR ?_
  cases oI h
  exact qG
 refine sM rfl<|k3<|k3<|sK<|sK<|sU<|sU ?_
 refine sN<|sO<|cF<|qK<|gS rfl rfl<|sV (r0)<|sN<|qR ?_
 cases oI h
 exact qG
theorem pH{a0:ai}{r:Int}(h:jo a0=some r):EvP prog aC ext 333 [.d (ai.pd a0)] [] (rI r,[]):=by
 refine Ev.body rfl Tryz.func333 rfl (by kernel_rfl)<|gS rfl rfl<|sB (.ptr 16 0) 16 (.var (ai.rc a0))<|sV (r0)<|sN<|qS<|gS rfl rfl<|sV (.d (ai.pd a0))<|bE h fun x1 hx1 h=>cD (bC hx1)<|sF h (fun h=>?_) fun h=>?_
 ·refine sN<|cT<|gS rfl rfl<|sV (r0)<|sN<|qR ?_
  exact oI h▸qD
 refine sN<|cF<|qK<|gS rfl rfl<|sV (.ptr 16 3)<|sV (.d (aa.pd a0.aF))<|bE h fun x3 hx3 h=>cD (bL hx3)<|sB (.ptr 64 0) 64 (.var [r0,r0,r0])<|sV (rI 1)<|sS 64 (.var [rI x3.a0,rI x3.a1,rI x3.a2])<|sN<|qS<|gS rfl rfl<|sV (.ptr 16 0) ?_
 refine sV (.d (aa.pd a0.aL))<|bE h fun x4 hx4 h=>cD (bL hx4)<|sV (r0)<|sN<|WC.block (WC.loop ?_)
 refine WL.round<|gS rfl rfl<|sT<|sN<|qS<|cT<|qK<|qS<|qB<|gS rfl rfl<|sM rfl<|sV (rI x4.a0)<|sA rfl<|sA rfl<|sN ?_
 refine WC.region rfl rfl<|sM rfl<|sM rfl<|sV (.ptr 64 0)<|sL rfl<|sM rfl<|sV (rI (rW (x3.a0-x4.a0)))<|sV (rI (rW ((rW (x3.a0-x4.a0))+(1:Int))))<|sV (rI (rW ((1:Int)*(rW ((rW (x3.a0-x4.a0))+(1:Int))))))<|sA rfl<|sN<|WC.region rfl rfl<|sV (rI 1)<|sM rfl<|sN ?_
 refine WL.round<|gS rfl rfl<|sT<|sN<|qS<|cT<|qK<|qS<|qB<|gS rfl rfl<|sM rfl<|sV (rI x4.a1)<|sA rfl<|sA rfl<|sN ?_
 refine WC.region rfl rfl<|sM rfl<|sM rfl<|sV (.ptr 64 1)<|sL rfl<|sM rfl<|sV (rI (rW (x3.a1-x4.a1)))<|sV (rI (rW ((rW (x3.a1-x4.a1))+(1:Int))))<|sV (rI (rW ((rW ((1:Int)*(rW ((rW (x3.a0-x4.a0))+(1:Int)))))*(rW ((rW (x3.a1-x4.a1))+(1:Int))))))<|sA rfl<|sN<|WC.region rfl rfl<|sV (rI 2)<|sM rfl<|sN ?_
 refine WL.round<|gS rfl rfl<|sT<|sN<|qS<|cT<|qK<|qS<|qB<|gS rfl rfl<|sM rfl<|sV (rI x4.a2)<|sA rfl<|sA rfl<|sN ?_
 refine WC.region rfl rfl<|sM rfl<|sM rfl<|sV (.ptr 64 2)<|sL rfl<|sM rfl<|sV (rI (rW (x3.a2-x4.a2)))<|sV (rI (rW ((rW (x3.a2-x4.a2))+(1:Int))))<|sV (rI (rW ((rW ((rW ((1:Int)*(rW ((rW (x3.a0-x4.a0))+(1:Int)))))*(rW ((rW (x3.a1-x4.a1))+(1:Int)))))*(rW ((rW (x3.a2-x4.a2))+(1:Int))))))<|sA rfl<|sN<|WC.region rfl rfl<|sV (rI 3)<|sM rfl<|sN ?_
 refine WL.round<|gS rfl rfl<|sU<|sN<|qS<|cF<|qX<|qE<|gS rfl rfl<|sM rfl<|sA rfl<|sN<|qR ?_
 exact oI h▸qD
theorem qe{a0:ai}{r:ai×ai×Bool}(h:fd a0=some r):EvP prog aC ext 271 [.d (ai.pd a0)] [] (.tup [.d (ai.pd r.1),.d (ai.pd r.2.1),rB r.2.2],[]):=by
 refine Ev.body rfl Tryz.func271 rfl (by kernel_rfl)<|gS rfl rfl<|sB (.ptr 16 0) 16 (.var (ai.rc a0))<|sB (.ptr 32 0) 32 (.var zZ4)<|sB (.ptr 48 0) 48 (.var zZ4)<|sU<|sN<|qS<|gS rfl rfl<|sV (.d (ai.pd a0))<|bE h fun x1 hx1 h=>cD (pH hx1)<|sF h (fun h=>?_) fun h=>?_
 ·refine sN<|cT<|gS rfl rfl<|sG (.d (ai.pd (ai.mk (aa.mk 0 0 0) (aa.mk 0 0 0))))<|sG (.d (ai.pd (ai.mk (aa.mk 0 0 0) (aa.mk 0 0 0))))<|sH 32 (.var zZ4)<|sH 48 (.var zZ4)<|sU<|sN<|qR ?_
  cases oI h
  exact qG
 refine sN<|cF<|qK<|WC.dG rfl rfl<|sV (.ptr 16 0)<|sV (.d (aa.pd a0.aL))<|bE h fun x3 hx3 h=>cD (bL hx3)<|sV (.ptr 16 3)<|sV (.d (aa.pd a0.aF))<|bE h fun x4 hx4 h=>cD (bL hx4)<|sB (.ptr 80 0) 80 (.var [r0,r0,r0])<|sB (.ptr 96 0) 96 (.var [r0,r0,r0])<|sS 80 (.var [rI x3.a0,rI x3.a1,rI x3.a2]) ?_
 refine sS 96 (.var [rI x4.a0,rI x4.a1,rI x4.a2]) ?_
 refine sN<|sO<|gS rfl rfl<|sV (r0)<|sN<|qS<|gS rfl rfl<|sV (r0)<|sN<|WC.block (WC.loop ?_)
 refine WL.round<|gS rfl rfl<|sT<|sN<|qS<|cT<|qK<|qS<|qB<|gS rfl rfl<|sM rfl<|sA rfl<|sN<|WC.dG rfl rfl<|sM rfl ?_
 refine sV (.ptr 96 0)<|sL rfl<|sM rfl<|sV (.ptr 80 0)<|sL rfl<|sV (rI (rW (x4.a0-x3.a0)))<|sM rfl<|sV (.ptr 96 0)<|sL rfl<|sM rfl<|sV (.ptr 80 0)<|sL rfl<|sV (rI (rW (x4.a0-x3.a0)))<|WO.s0 (v':=rB false) rfl rfl (fun _=>rfl) (congrArg (fun b=>RV.d (.bool b)) (decide_eq_false (Int.lt_irrefl _))) ?_
 refine sN<|sO<|cF<|qK<|WC.region rfl rfl<|sV (rI 1)<|sM rfl<|sN<|WL.round<|gS rfl rfl<|sT<|sN<|qS<|cT<|qK<|qS ?_
 refine qB<|gS rfl rfl<|sM rfl<|sA rfl<|sN<|WC.dG rfl rfl<|sM rfl<|sV (.ptr 96 1)<|sL rfl<|sM rfl<|sV (.ptr 80 1)<|sL rfl<|sV (rI (rW (x4.a1-x3.a1)))<|sM rfl<|sV (.ptr 96 0) ?_
 refine sL rfl<|sM rfl<|sV (.ptr 80 0)<|sL rfl<|sV (rI (rW (x4.a0-x3.a0)))<|sF h (fun h=>?_) fun h=>?_
 ·refine sN<|sO<|cT<|WC.region rfl rfl<|sM rfl<|sA rfl<|sN<|WC.region rfl rfl<|sV (rI 2)<|sM rfl<|sN<|WL.round<|gS rfl rfl<|sT<|sN<|qS ?_
  refine cT<|qK<|qS<|qB<|gS rfl rfl<|sM rfl<|sA rfl<|sN<|WC.dG rfl rfl<|sM rfl<|sV (.ptr 96 2)<|sL rfl<|sM rfl<|sV (.ptr 80 2)<|sL rfl ?_
  refine sV (rI (rW (x4.a2-x3.a2)))<|sM rfl<|sV (.ptr 96 1)<|sL rfl<|sM rfl<|sV (.ptr 80 1)<|sL rfl<|sV (rI (rW (x4.a1-x3.a1)))<|sF h (fun h=>?_) fun h=>?_
  ·refine sN<|sO<|cT<|WC.region rfl rfl<|sM rfl<|sA rfl<|sN<|WC.region rfl rfl<|sV (rI 3)<|sM rfl<|sN<|WL.round<|gS rfl rfl<|sU<|sN<|qS ?_
   refine cF<|qX<|qE<|WC.dG rfl rfl<|sV (.d (aW.pd x4))<|sV (.d (aW.pd x3))<|sB (.ptr 144 0) 144 (.var [r0,r0,r0])<|sB (.ptr 160 0) 160 (.var [r0,r0,r0])<|sS 144 (.var [rI x4.a0,rI x4.a1,rI x4.a2])<|sS 160 (.var [rI x3.a0,rI x3.a1,rI x3.a2]) ?_
   refine sN<|sO<|WC.dG rfl rfl<|sM rfl<|sM rfl<|sV (.ptr 80 2)<|sL rfl<|sM rfl<|sV (.ptr 96 2)<|sL rfl<|bE h fun x7 hx7 h=>cD (dj hx7)<|sV (.ptr 144 2)<|sS 144 (.var [rI x4.a0,rI x4.a1,rI x7]) ?_
   refine sN<|sO<|gS rfl rfl<|sM rfl<|sM rfl<|sV (.ptr 144 2)<|sL rfl<|sV (rI (rW (x7+(1:Int))))<|sV (.ptr 160 2)<|sS 160 (.var [rI x3.a0,rI x3.a1,rI (rW (x7+(1:Int)))])<|sN<|WC.dG rfl rfl<|sV (.ptr 16 0)<|sV (.d (aa.pd a0.aL))<|sV (.d (aW.pd (aW.mk x4.a0 x4.a1 x7)))<|bE h fun x8 hx8 h=>?_
   refine cD (bU hx8)<|sG (.d (ai.pd (ai.mk a0.aL x8)))<|sV (.d (aW.pd (aW.mk x3.a0 x3.a1 (rW (x7+(1:Int))))))<|bE h fun x9 hx9 h=>cD (bU hx9)<|sV (.ptr 16 3)<|sV (.d (aa.pd a0.aF))<|sG (.d (ai.pd (ai.mk x9 a0.aF)))<|sH 32 (.var (aa.rc a0.aL++aa.rc x8))<|sH 48 (.var (aa.rc x9++aa.rc a0.aF))<|sT ?_
   refine sN<|sO<|qR ?_
   cases oI h
   exact qG
  refine sN<|sO<|cF<|qK<|WC.region rfl rfl<|sV (rI 3)<|sM rfl<|sN<|WL.round<|gS rfl rfl<|sU<|sN<|qS<|cF<|qX<|qE ?_
  refine WC.dG rfl rfl<|sV (.d (aW.pd x4))<|sV (.d (aW.pd x3))<|sB (.ptr 144 0) 144 (.var [r0,r0,r0])<|sB (.ptr 160 0) 160 (.var [r0,r0,r0])<|sS 144 (.var [rI x4.a0,rI x4.a1,rI x4.a2])<|sS 160 (.var [rI x3.a0,rI x3.a1,rI x3.a2]) ?_
  refine sN<|sO<|WC.dG rfl rfl<|sM rfl<|sM rfl<|sV (.ptr 80 1)<|sL rfl<|sM rfl<|sV (.ptr 96 1)<|sL rfl<|bE h fun x10 hx10 h=>cD (dj hx10)<|sV (.ptr 144 1)<|sS 144 (.var [rI x4.a0,rI x10,rI x4.a2]) ?_
  refine sN<|sO<|gS rfl rfl<|sM rfl<|sM rfl<|sV (.ptr 144 1)<|sL rfl<|sV (rI (rW (x10+(1:Int))))<|sV (.ptr 160 1)<|sS 160 (.var [rI x3.a0,rI (rW (x10+(1:Int))),rI x3.a2])<|sN<|WC.dG rfl rfl<|sV (.ptr 16 0)<|sV (.d (aa.pd a0.aL))<|sV (.d (aW.pd (aW.mk x4.a0 x10 x4.a2)))<|bE h fun x11 hx11 h=>?_
  refine cD (bU hx11)<|sG (.d (ai.pd (ai.mk a0.aL x11)))<|sV (.d (aW.pd (aW.mk x3.a0 (rW (x10+(1:Int))) x3.a2)))<|bE h fun x12 hx12 h=>cD (bU hx12)<|sV (.ptr 16 3)<|sV (.d (aa.pd a0.aF))<|sG (.d (ai.pd (ai.mk x12 a0.aF)))<|sH 32 (.var (aa.rc a0.aL++aa.rc x11))<|sH 48 (.var (aa.rc x12++aa.rc a0.aF))<|sT ?_
  refine sN<|sO<|qR ?_
  cases oI h
  exact qG
 refine sN<|sO<|cF<|qK<|WC.region rfl rfl<|sV (rI 2)<|sM rfl<|sN<|WL.round<|gS rfl rfl<|sT<|sN<|qS<|cT<|qK<|qS ?_
 refine qB<|gS rfl rfl<|sM rfl<|sA rfl<|sN<|WC.dG rfl rfl<|sM rfl<|sV (.ptr 96 2)<|sL rfl<|sM rfl<|sV (.ptr 80 2)<|sL rfl<|sV (rI (rW (x4.a2-x3.a2)))<|sM rfl<|sV (.ptr 96 0) ?_
 refine sL rfl<|sM rfl<|sV (.ptr 80 0)<|sL rfl<|sV (rI (rW (x4.a0-x3.a0)))<|sF h (fun h=>?_) fun h=>?_
 ·refine sN<|sO<|cT<|WC.region rfl rfl<|sM rfl<|sA rfl<|sN<|WC.region rfl rfl<|sV (rI 3)<|sM rfl<|sN<|WL.round<|gS rfl rfl<|sU<|sN<|qS ?_
  refine cF<|qX<|qE<|WC.dG rfl rfl<|sV (.d (aW.pd x4))<|sV (.d (aW.pd x3))<|sB (.ptr 144 0) 144 (.var [r0,r0,r0])<|sB (.ptr 160 0) 160 (.var [r0,r0,r0])<|sS 144 (.var [rI x4.a0,rI x4.a1,rI x4.a2])<|sS 160 (.var [rI x3.a0,rI x3.a1,rI x3.a2]) ?_
  refine sN<|sO<|WC.dG rfl rfl<|sM rfl<|sM rfl<|sV (.ptr 80 2)<|sL rfl<|sM rfl<|sV (.ptr 96 2)<|sL rfl<|bE h fun x14 hx14 h=>cD (dj hx14)<|sV (.ptr 144 2)<|sS 144 (.var [rI x4.a0,rI x4.a1,rI x14]) ?_
  refine sN<|sO<|gS rfl rfl<|sM rfl<|sM rfl<|sV (.ptr 144 2)<|sL rfl<|sV (rI (rW (x14+(1:Int))))<|sV (.ptr 160 2)<|sS 160 (.var [rI x3.a0,rI x3.a1,rI (rW (x14+(1:Int)))])<|sN<|WC.dG rfl rfl<|sV (.ptr 16 0)<|sV (.d (aa.pd a0.aL))<|sV (.d (aW.pd (aW.mk x4.a0 x4.a1 x14)))<|bE h fun x15 hx15 h=>?_
  refine cD (bU hx15)<|sG (.d (ai.pd (ai.mk a0.aL x15)))<|sV (.d (aW.pd (aW.mk x3.a0 x3.a1 (rW (x14+(1:Int))))))<|bE h fun x16 hx16 h=>cD (bU hx16)<|sV (.ptr 16 3)<|sV (.d (aa.pd a0.aF))<|sG (.d (ai.pd (ai.mk x16 a0.aF)))<|sH 32 (.var (aa.rc a0.aL++aa.rc x15))<|sH 48 (.var (aa.rc x16++aa.rc a0.aF))<|sT ?_
  refine sN<|sO<|qR ?_
  cases oI h
  exact qG
 refine sN<|sO<|cF<|qK<|WC.region rfl rfl<|sV (rI 3)<|sM rfl<|sN<|WL.round<|gS rfl rfl<|sU<|sN<|qS<|cF<|qX<|qE ?_
 refine WC.dG rfl rfl<|sV (.d (aW.pd x4))<|sV (.d (aW.pd x3))<|sB (.ptr 144 0) 144 (.var [r0,r0,r0])<|sB (.ptr 160 0) 160 (.var [r0,r0,r0])<|sS 144 (.var [rI x4.a0,rI x4.a1,rI x4.a2])<|sS 160 (.var [rI x3.a0,rI x3.a1,rI x3.a2]) ?_
 refine sN<|sO<|WC.dG rfl rfl<|sM rfl<|sM rfl<|sV (.ptr 80 0)<|sL rfl<|sM rfl<|sV (.ptr 96 0)<|sL rfl<|bE h fun x17 hx17 h=>cD (dj hx17)<|sV (.ptr 144 0)<|sS 144 (.var [rI x17,rI x4.a1,rI x4.a2]) ?_
 refine sN<|sO<|gS rfl rfl<|sM rfl<|sM rfl<|sV (.ptr 144 0)<|sL rfl<|sV (rI (rW (x17+(1:Int))))<|sV (.ptr 160 0)<|sS 160 (.var [rI (rW (x17+(1:Int))),rI x3.a1,rI x3.a2])<|sN<|WC.dG rfl rfl<|sV (.ptr 16 0)<|sV (.d (aa.pd a0.aL))<|sV (.d (aW.pd (aW.mk x17 x4.a1 x4.a2)))<|bE h fun x18 hx18 h=>?_
 refine cD (bU hx18)<|sG (.d (ai.pd (ai.mk a0.aL x18)))<|sV (.d (aW.pd (aW.mk (rW (x17+(1:Int))) x3.a1 x3.a2)))<|bE h fun x19 hx19 h=>cD (bU hx19)<|sV (.ptr 16 3)<|sV (.d (aa.pd a0.aF))<|sG (.d (ai.pd (ai.mk x19 a0.aF)))<|sH 32 (.var (aa.rc a0.aL++aa.rc x18))<|sH 48 (.var (aa.rc x19++aa.rc a0.aF))<|sT ?_
 refine sN<|sO<|qR ?_
 cases oI h
 exact qG
theorem queue_Pushq_ev{a0:al}{e1:ag}{e2:Int}{e3:Int}{e4:Bool}{e5:aj}{d1:(List al)}{r:(List al)}(h:mP a0 e1 e2 e3 e4 e5 d1=some r):EvP prog aC ext 444 [.ptr 0 11,.ifc 194 (.d (al.pd a0))] [.var (ag.rc e1++ .ref 1 0::rI e2::rI e3::rB e4::aj.rc e5),.arr 0 194 (d1.map al.pd)] (.tup [],[.var (ag.rc e1++ .ref 1 1::rI e2::rI e3::rB e4::aj.rc e5),.arr 1 194 (r.map al.pd)]):=by
 refine Ev.body rfl Tryz.func444 rfl (by kernel_rfl)<|gS rfl rfl<|sM rfl<|sG (.tup [.d (al.pd a0),rB true])<|sM rfl<|sV (.d (al.pd a0))<|sT<|sB (.ptr 64 0) 64 (.var [r0,r0,r0,r0,r0,r0,r0,r0])<|sH 64 (.var (al.rc a0))<|sA rfl<|sN<|gS rfl rfl<|sM rfl<|sN<|cT ?_
 refine WC.kI rfl rfl<|sM rfl<|sM rfl<|sV (.ptr 0 11)<|sL rfl<|sV (.d (al.pd a0))<|sG (.d (.lst ([a0].map al.pd)))<|bE h fun x1 hx1 h=>aR hx1 (fun _=>rfl) rfl<|sV (.ptr 0 11)<|sS 0 (.var (ag.rc e1++ .ref 1 1::rI e2::rI e3::rB e4::aj.rc e5)) ?_
 refine sN<|sO ?_
 cases oI h
 exact qG
theorem heap_Pushq_ev{a0:al}{e1:ag}{e2:Int}{e3:Int}{e4:Bool}{e5:aj}{d1:(List al)}{r:(List al)}(h:kM a0 e1 e2 e3 e4 e5 d1=some r):EvP prog aC ext 268 [.ifc 309 (.ptr 0 11),.ifc 194 (.d (al.pd a0))] [.var (ag.rc e1++ .ref 1 0::rI e2::rI e3::rB e4::aj.rc e5),.arr 0 194 (d1.map al.pd)] (.tup [],[.var (ag.rc e1++ .ref 1 1::rI e2::rI e3::rB e4::aj.rc e5),.arr 1 194 (r.map al.pd)]):=by
 refine Ev.body rfl Tryz.func268 rfl (by kernel_rfl)<|gS rfl rfl<|sM rfl<|sM rfl<|bE h fun x1 hx1 h=>WO.qw (g:=444) (args:=[.ptr 0 11,.ifc 194 (.d (al.pd a0))]) (v:= .tup []) (u:=[(0,.var (ag.rc e1++ .ref 1 1::rI e2::rI e3::rB e4::aj.rc e5)),(1,.arr 1 194 (x1.map al.pd))]) rfl rfl (by intro _;kernel_rfl) rfl rfl rfl rfl rfl (queue_Pushq_ev hx1) rfl rfl rfl rfl<|sN<|WC.region rfl rfl<|sM rfl<|sM rfl<|bE h fun x2 hx2 h=>WO.wx (e:=190) (c:= .ptr 0 11) (vl:= .ref 1 1) (g:=440) (args:=[]) (v:=rI x2) (u:=[ ]) rfl rfl (by intro _;kernel_rfl) rfl rfl rfl rfl rfl rfl (nU hx2) rfl rfl rfl rfl<|sV (rI (rW (x2-(1:Int))))<|bE h fun x3 hx3 h=>cR (.tup []) [(0,.var (ag.rc e1++ .ref 1 1::rI e2::rI e3::rB e4::aj.rc e5)),(1,.arr 1 194 (x3.map al.pd))] (heap_up_ev hx3) ?_
 refine sN ?_
 cases oI h
 exact qG
theorem oT{a0:ai}{e1:ag}{e2:Int}{e3:Int}{e4:Bool}{e5:aj}{d1:(List al)}{r:Int×Int×(List al)}(h:iB a0 e1 e2 e3 e4 e5 d1=some r):EvP prog aC ext 184 [.ptr 0 0,.d (ai.pd a0)] [.var (ag.rc e1++ .ref 1 0::rI e2::rI e3::rB e4::aj.rc e5),.arr 0 194 (d1.map al.pd)] (rI r.1,[.var (ag.rc e1++ .ref 1 1::rI r.2.1::rI e3::rB e4::aj.rc e5),.arr 1 194 (r.2.2.map al.pd)]):=by
 refine Ev.body rfl Tryz.func184 rfl (by kernel_rfl)<|gS rfl rfl<|sB (.ptr 48 0) 48 (.var (ai.rc a0))<|sV (r0)<|sN<|WC.dG rfl rfl<|sM rfl<|sV (.ptr 0 0)<|sV (.ptr 0 0)<|sV (.d (ag.pd e1))<|sV (.d (ai.pd a0))<|bE h fun x1 hx1 h=>cR (.tup [rI x1.1,rI x1.2]) [] (oh hx1)<|sM rfl<|sV (rI x1.1) ?_
 refine sV (rI x1.2)<|sA rfl<|sA rfl ?_
 refine sN<|sO<|WC.join (α:=Int×(List al)) (fun x R' B'=>cI prog 2 (A R' B') (aC.at_ 184 2 5)=some (A [(6,rI x1.2)] [(0,.var (ag.rc e1++ .ref 1 1::rI x.1::rI e3::rB e4::aj.rc e5)),(1,.arr 1 194 (x.2.map al.pd))])) (fun x=>iC x1 x.1 x.2=some r) ?_ ?_
 ·refine gS rfl rfl<|sM rfl<|sF h (fun h=>?_) fun h=>?_
  ·refine sN<|cT<|WC.dG rfl rfl<|sM rfl<|sV (.ptr 0 0)<|sV (.ptr 0 11)<|sG (.ifc 309 (.ptr 0 11))<|sV (.d (ai.pd a0))<|sM rfl<|sM rfl<|sV (.ptr 0 0)<|sV (.ptr 0 12)<|sL rfl<|sG (.d (al.pd (al.mk a0 x1.1 e2)))<|sG (.ifc 194 (.d (al.pd (al.mk a0 x1.1 e2)))) ?_
   refine bE h fun x6 hx6 h=>cR (.tup []) [(0,.var (ag.rc e1++ .ref 1 1::rI e2::rI e3::rB e4::aj.rc e5)),(1,.arr 1 194 (x6.map al.pd))] (heap_Pushq_ev hx6) ?_
   exact sN<|sO<|WC.region rfl rfl<|sM rfl<|sV (.ptr 0 0)<|sV (.ptr 0 12)<|sL rfl<|sV (rI (rW (e2+(1:Int))))<|sV (.ptr 0 0)<|sV (.ptr 0 12)<|sS 0 (.var (ag.rc e1++ .ref 1 1::rI (rW (e2+(1:Int)))::rI e3::rB e4::aj.rc e5))<|sN<|⟨((rW (e2+(1:Int))),x6),rfl,h⟩
  exact sN<|cF<|qK<|⟨(e2,d1),rfl,h⟩
 rintro⟨j2,j3⟩ R' B' hI h
 refine gS rfl hI<|sM rfl<|sA rfl<|sN<|qR ?_
 cases oI h
 exact qG
theorem search_step_ev{e0:ag}{e1:Int}{e2:Int}{e3:Bool}{e4:aj}{d1:(List al)}{r:Int×Int×Int×Bool×aj×(List al)}(h:jL e0 e1 e2 e3 e4 d1=some r):EvP prog aC ext 186 [.ptr 0 0] [.var (ag.rc e0++ .ref 1 0::rI e1::rI e2::rB e3::aj.rc e4),.arr 0 194 (d1.map al.pd)] (rI r.1,[.var (ag.rc e0++ .ref 1 1::rI r.2.1::rI r.2.2.1::rB r.2.2.2.1::aj.rc r.2.2.2.2.1),.arr 1 194 (r.2.2.2.2.2.map al.pd)]):=by
 refine Ev.body rfl Tryz.func186 rfl (by kernel_rfl)<|gS rfl rfl<|sV (r0)<|sN<|qS<|gS rfl rfl<|sM rfl<|sV (.ptr 0 0)<|sV (.ptr 0 13)<|sL rfl<|sF h (fun h=>?_) fun h=>?_
 ·refine sN<|cT<|WC.iA (R0:=[]) (B0:=[(0,.var (ag.rc e0++ .ref 1 1::rI e1::rI e2::rB e3::aj.rc e4)),(1,.arr 1 194 (d1.map al.pd))]) rfl rfl<|sV (rI 25)<|sN<|qR ?_
  cases oI h
  exact qG
 refine sN<|cF<|qK<|gS rfl rfl<|sM rfl<|sV (.ptr 0 0)<|sV (.ptr 0 11)<|sL rfl<|bE h fun x3 hx3 h=>WO.qy hx3 rfl rfl rfl rfl rfl rfl rfl rfl<|sV (.elt 1 0 ((0:Int)).toNat 0)<|bE h fun x4 hx4 h=>WO.pO hx4 rfl rfl rfl rfl rfl rfl<|sB (.ptr 48 0) 48 (.var zZ4)<|sH 48 (.var (ai.rc x4.jx)) ?_
 refine sN<|gS rfl rfl<|sM rfl<|sV (.ptr 0 0)<|sV (.ptr 0 11)<|sG (.ifc 309 (.ptr 0 11))<|bE h fun x5 hx5 h=>cR (.ifc 194 (.d (al.pd x5.1))) [(0,.var (ag.rc e0++ .ref 1 1::rI e1::rI e2::rB e3::aj.rc e4)),(1,.arr 1 194 (x5.2.map al.pd))] (heap_Pop_ev hx5)<|sN<|gS rfl rfl<|sM rfl<|sV (.ptr 0 0)<|sV (.ptr 0 13)<|sL rfl<|sV (rI (rW (e2+(1:Int)))) ?_
 refine sV (.ptr 0 0)<|sV (.ptr 0 13)<|sS 0 (.var (ag.rc e0++ .ref 1 1::rI e1::rI (rW (e2+(1:Int)))::rB e3::aj.rc e4))<|sN<|qS<|gS rfl rfl<|sM rfl<|sV (.d (ai.pd x4.jx))<|bE h fun x6 hx6 h=>cR (rI x6.1) [(0,.var (ag.rc e0++ .ref 1 1::rI e1::rI (rW (e2+(1:Int)))::rB x6.2.1::aj.rc x6.2.2)),(1,.arr 1 194 (x5.2.map al.pd))] (search_look_ev hx6)<|sA rfl<|sN<|gS rfl rfl<|sM rfl<|sF h (fun h=>?_) fun h=>?_
 ·refine sN<|cT<|gS rfl rfl<|sM rfl<|sA rfl<|sN<|qR ?_
  cases oI h
  exact qG
 refine sN<|cF<|qK<|gS rfl rfl<|sV (.d (ai.pd x4.jx))<|bE h fun x8 hx8 h=>cR (.tup [.d (ai.pd x8.1),.d (ai.pd x8.2.1),rB x8.2.2]) [] (qe hx8)<|sM rfl<|sV (.d (ai.pd x8.1))<|sV (.d (ai.pd x8.2.1))<|sV (rB x8.2.2)<|sB (.ptr 80 0) 80 (.var zZ4)<|sB (.ptr 96 0) 96 (.var zZ4)<|sH 80 (.var (ai.rc x8.1))<|sH 96 (.var (ai.rc x8.2.1)) ?_
 refine sA rfl<|sN<|qS<|gS rfl rfl<|sM rfl<|sF h (fun h=>?_) fun h=>?_
 ·refine sN<|cT<|gS rfl rfl<|sV (r0)<|sN<|qR ?_
  cases oI h
  exact qG
 refine sN<|cF<|qK<|qS<|gS rfl rfl<|sM rfl<|sV (.d (ai.pd x8.1))<|bE h fun x10 hx10 h=>cR (rI x10.1) [(0,.var (ag.rc e0++ .ref 1 2::rI x10.2.1::rI (rW (e2+(1:Int)))::rB x6.2.1::aj.rc x6.2.2)),(1,.arr 2 194 (x10.2.2.map al.pd))] (oT hx10)<|sA rfl<|sN<|gS rfl rfl<|sM rfl<|sF h (fun h=>?_) fun h=>?_
 ·refine sN<|cT<|gS rfl rfl<|sM rfl<|sA rfl<|sN<|qR ?_
  cases oI h
  exact qG
 refine sN<|cF<|qK<|gS rfl rfl<|sM rfl<|sV (.d (ai.pd x8.2.1))<|bE h fun x12 hx12 h=>cR (rI x12.1) [(0,.var (ag.rc e0++ .ref 1 3::rI x12.2.1::rI (rW (e2+(1:Int)))::rB x6.2.1::aj.rc x6.2.2)),(1,.arr 3 194 (x12.2.2.map al.pd))] (oT hx12)<|sA rfl<|sN<|qR ?_
 cases oI h
 exact qG
theorem pB{a0:ag}{a1:Int}{r:(Option bQ)×Int}(h:ip a0 a1=some r):EvP prog aC ext 108 [.d (ag.pd a0),rI a1] [] (match r.1 with|none=>(.tup [.d (.raw (.pointer none)),rI r.2],[])|some yv=>(.tup [.ptr 0 0,rI r.2],[.var (bQ.rc yv)])):=by
 refine Ev.body rfl Tryz.func108 rfl (by kernel_rfl)<|gS rfl rfl<|sB (.ptr 32 0) 32 (.var (ag.rc a0))<|sV (.d (.raw (.pointer none)))<|sV (r0)<|sN<|qS<|gS rfl rfl<|sV (.d (ag.pd a0))<|bE h fun x1 hx1 h=>cD (mz hx1)<|sA rfl<|sN<|gS rfl rfl<|sM rfl ?_
 refine sF h (fun h=>?_) fun h=>?_
 ·refine sN<|cT<|gS rfl rfl<|sM rfl<|sV (.d (.raw (.pointer none)))<|sA rfl<|sN<|qR ?_
  cases oI h
  exact qG
 refine sN<|cF<|qK<|qS<|gS rfl rfl<|sM rfl<|sF h (fun h=>?_) fun h=>?_
 ·refine sN<|cT<|gS rfl rfl<|sV (.d (.raw (.pointer none)))<|sV (rI 2)<|sN<|qR ?_
  cases oI h
  exact qG
 refine sN<|cF<|qK<|gS rfl rfl<|sV (.d (ag.pd a0))<|sG (.agg (ag.rc a0++[.dH,r0,r0,rB false,r0,r0,r0,r0,r0,r0,r0,r0,r0,r0,r0,r0]))<|sB (.ptr 304 0) 304 (.var (ag.rc a0++[.dH,r0,r0,rB false,r0,r0,r0,r0,r0,r0,r0,r0,r0,r0,r0,r0]))<|sA rfl<|sN<|qS<|gS rfl rfl<|sM rfl<|sV (.ptr 32 0)<|sV (.d (ai.pd a0.aO))<|bE h fun x4 hx4 h=>?_
 refine cR (rI x4.1) [(304,.var (ag.rc a0++[.ref 368 0,rI x4.2.2,r0,rB false,r0,r0,r0,r0,r0,r0,r0,r0,r0,r0,r0,r0])),(368,.arr 0 194 (x4.2.1.map al.pd))] (search_add_ev hx4)<|sA rfl<|sN<|gS rfl rfl<|sM rfl<|sF h (fun h=>?_) fun h=>?_
 ·refine sN<|cT<|gS rfl rfl<|sM rfl<|sV (.d (.raw (.pointer none)))<|sA rfl<|sN<|qR ?_
  cases oI h
  exact qG
 refine sN<|cF<|qK<|qS<|bE h fun o22 ho22 h=>WC.block (WC.loop (WL.gv ho22 (fun s R' B'=>cI prog 0 (A R' B') (aC.at_ 108 0 10)=some (A [(1,rI a1),(7,.ptr 304 0)] [(304,.var (ag.rc a0++ .ref 368 0::rI s.1::rI s.2.1::rB s.2.2.1::aj.rc s.2.2.2.1)),(368,.arr 0 194 (s.2.2.2.2.map al.pd))])) (fun o e R' B'=>match o with| .inl y=>e= .exit 0∧cI prog 0 (A R' B') (aC.at_ 108 0 14)=some (A [(7,.ptr 304 0)] [(304,.var (ag.rc a0++rM al.pd y.1::rI y.2.1::rI y.2.2.1::rB y.2.2.2.1::aj.rc y.2.2.2.2))])| .inr r=>e= .ret∧finish prog (aC.own 108) Tryz.f108 0 (A R' B')=some (match r.1 with|none=>(.tup [.d (.raw (.pointer none)),rI r.2],[])|some yv=>(.tup [.ptr 0 0,rI r.2],[.var (bQ.rc yv)]))) rfl ?_ ?_))
 ·rintro⟨s6,s7,s8,s9,s10⟩ R' B' q16 hI h
  unfold ko at h
  refine qS<|gS rfl hI<|sM rfl<|sM rfl<|bE h fun x17 hx17 h=>cR (rB x17) [(304,.var (ag.rc a0++ .ref 368 0::rI s6::rI s7::rB s8::aj.rc s9)),(368,.arr 0 194 (s10.map al.pd))] (search_ended_ev hx17)<|sF h (fun h=>?_) fun h=>?_
  ·refine sN<|cT<|qK<|qB<|gS rfl rfl<|sM rfl<|bE h fun x19 hx19 h=>cR (rI x19.1) [(304,.var (ag.rc a0++ .ref 368 1::rI x19.2.1::rI x19.2.2.1::rB x19.2.2.2.1::aj.rc x19.2.2.2.2.1)),(368,.arr 1 194 (x19.2.2.2.2.2.map al.pd))] (search_step_ev hx19)<|sA rfl<|sN<|gS rfl rfl<|sM rfl<|sF h (fun h=>?_) fun h=>?_
   ·refine sN<|cT<|gS rfl rfl<|sM rfl<|sV (.d (.raw (.pointer none)))<|sA rfl<|sN<|qR ?_
    cases oI h
    exact⟨nofun,rfl,rfl⟩
   refine sN<|cF<|qK ?_
   cases oI h
   exact⟨rfl,rfl⟩
  refine sN<|cF<|qX ?_
  cases oI h
  exact⟨nofun,rfl,rfl⟩
 intro e R' B' he hq
 rcases o22 with y23|r24
 ·obtain⟨rfl,hI⟩:=hq
  refine qE<|gS rfl hI<|sM rfl<|sA rfl<|sV (r0)<|sN<|qR ?_
  cases oI h
  exact qG
 obtain⟨rfl,hf⟩:=hq
 cases oI h
 exact hf
theorem locate_run_evN{a0:ag}{a1:Int}{r:(Option bQ)×Int}(h:ip a0 a1=some r)(ho:r.1=none):EvP prog aC ext 108 [.d (ag.pd a0),rI a1] [] (.tup [.d (.raw (.pointer none)),rI r.2],[]):=by
  have:=pB h;rw [ho]at this;exact this
theorem locate_run_evS{a0:ag}{a1:Int}{r:(Option bQ)×Int}{yv:bQ}(h:ip a0 a1=some r)(ho:r.1=some yv):EvP prog aC ext 108 [.d (ag.pd a0),rI a1] [] (.tup [.ptr 0 0,rI r.2],[.var (bQ.rc yv)]):=by
  have:=pB h;rw [ho]at this;exact this
theorem geometry_Hull_ev{a0:ai}{a1:ai}{r:ai}(h:ld a0 a1=some r):EvP prog aC ext 109 [.d (ai.pd a0),.d (ai.pd a1)] [] (.d (ai.pd r),[]):=by
 refine Ev.body rfl Tryz.func109 rfl (by kernel_rfl)<|gS rfl rfl<|sB (.ptr 32 0) 32 (.var (ai.rc a0))<|sB (.ptr 48 0) 48 (.var (ai.rc a1))<|sB (.ptr 64 0) 64 (.var zZ4)<|sN<|qS<|gS rfl rfl<|sV (.d (ai.pd a0))<|bE h fun x1 hx1 h=>cD (bC hx1)<|sF h (fun h=>?_) fun h=>?_
 ·refine sM rfl<|k3<|sT<|sN<|cT<|gS rfl rfl<|sG (.d (ai.pd (ai.mk (aa.mk 0 0 0) (aa.mk 0 0 0))))<|sH 64 (.var zZ4)<|sN<|qR ?_
  cases oI h
  exact qG
 refine sM rfl<|sV (.d (ai.pd a1))<|bE h fun x3 hx3 h=>cD (bC hx3)<|sV (rB (!x3))<|sF h (fun h=>?_) fun h=>?_
 ·refine sN<|cT<|gS rfl rfl<|sG (.d (ai.pd (ai.mk (aa.mk 0 0 0) (aa.mk 0 0 0))))<|sH 64 (.var zZ4)<|sN<|qR ?_
  cases oI h
  exact qG
 refine sN<|cF<|qK<|WC.dG rfl rfl<|sV (.ptr 32 0)<|sV (.d (aa.pd a0.aL))<|bE h fun x5 hx5 h=>cD (bL hx5)<|sV (.ptr 32 3)<|sV (.d (aa.pd a0.aF))<|bE h fun x6 hx6 h=>cD (bL hx6)<|sV (.ptr 48 0)<|sV (.d (aa.pd a1.aL))<|bE h fun x7 hx7 h=>?_
 refine cD (bL hx7)<|sV (.ptr 48 3)<|sV (.d (aa.pd a1.aF))<|bE h fun x8 hx8 h=>cD (bL hx8)<|sB (.ptr 80 0) 80 (.var [r0,r0,r0])<|sB (.ptr 96 0) 96 (.var [r0,r0,r0])<|sB (.ptr 112 0) 112 (.var [r0,r0,r0])<|sB (.ptr 128 0) 128 (.var [r0,r0,r0])<|sS 80 (.var [rI x5.a0,rI x5.a1,rI x5.a2])<|sS 96 (.var [rI x6.a0,rI x6.a1,rI x6.a2])<|sS 112 (.var [rI x7.a0,rI x7.a1,rI x7.a2])<|sS 128 (.var [rI x8.a0,rI x8.a1,rI x8.a2]) ?_
 refine sN<|sO<|qS<|gS rfl rfl<|sV (r0)<|sN<|WC.block (WC.loop ?_)
 refine WL.round<|WC.iA (R0:=[(4,.ptr 64 0),(5,.ptr 80 0),(6,.ptr 96 0),(7,.ptr 112 0),(8,.ptr 128 0),(31,r0)]) (B0:=[(64,.var zZ4),(80,.var [rI x5.a0,rI x5.a1,rI x5.a2]),(96,.var [rI x6.a0,rI x6.a1,rI x6.a2]),(112,.var [rI x7.a0,rI x7.a1,rI x7.a2]),(128,.var [rI x8.a0,rI x8.a1,rI x8.a2])]) rfl rfl<|sT<|sN<|qS<|cT<|qK<|qS<|qB<|gS rfl rfl<|sM rfl<|sA rfl<|sN<|WC.kI rfl rfl<|sM rfl ?_
 refine sM rfl<|sM rfl<|sV (.ptr 80 0)<|sL rfl<|sM rfl<|sV (.ptr 112 0)<|sL rfl<|sV (rI (if x7.a0<x5.a0 then x7.a0 else x5.a0))<|sM rfl<|sV (.ptr 96 0)<|sL rfl<|sM rfl<|sV (.ptr 128 0)<|sL rfl<|sV (rI (if x8.a0>x6.a0 then x8.a0 else x6.a0)) ?_
 refine sV (.ptr 80 0)<|sS 80 (.var [rI (if x7.a0<x5.a0 then x7.a0 else x5.a0),rI x5.a1,rI x5.a2])<|sV (.ptr 96 0)<|sS 96 (.var [rI (if x8.a0>x6.a0 then x8.a0 else x6.a0),rI x6.a1,rI x6.a2]) ?_
 refine sN<|sO<|WC.region rfl rfl<|sV (rI 1)<|sM rfl<|sN<|WL.round<|WC.iA (R0:=[(4,.ptr 64 0),(5,.ptr 80 0),(6,.ptr 96 0),(7,.ptr 112 0),(8,.ptr 128 0),(31,rI 1)]) (B0:=[(64,.var zZ4),(80,.var [rI (if x7.a0<x5.a0 then x7.a0 else x5.a0),rI x5.a1,rI x5.a2]),(96,.var [rI (if x8.a0>x6.a0 then x8.a0 else x6.a0),rI x6.a1,rI x6.a2]),(112,.var [rI x7.a0,rI x7.a1,rI x7.a2]),(128,.var [rI x8.a0,rI x8.a1,rI x8.a2])]) rfl rfl<|sT<|sN<|qS<|cT<|qK<|qS<|qB<|gS rfl rfl ?_
 refine sM rfl<|sA rfl<|sN<|WC.kI rfl rfl<|sM rfl<|sM rfl<|sM rfl<|sV (.ptr 80 1)<|sL rfl<|sM rfl<|sV (.ptr 112 1)<|sL rfl<|sV (rI (if x7.a1<x5.a1 then x7.a1 else x5.a1))<|sM rfl<|sV (.ptr 96 1) ?_
 refine sL rfl<|sM rfl<|sV (.ptr 128 1)<|sL rfl<|sV (rI (if x8.a1>x6.a1 then x8.a1 else x6.a1))<|sV (.ptr 80 1)<|sS 80 (.var [rI (if x7.a0<x5.a0 then x7.a0 else x5.a0),rI (if x7.a1<x5.a1 then x7.a1 else x5.a1),rI x5.a2])<|sV (.ptr 96 1)<|sS 96 (.var [rI (if x8.a0>x6.a0 then x8.a0 else x6.a0),rI (if x8.a1>x6.a1 then x8.a1 else x6.a1),rI x6.a2]) ?_
 refine sN<|sO<|WC.region rfl rfl<|sV (rI 2)<|sM rfl<|sN<|WL.round<|WC.iA (R0:=[(4,.ptr 64 0),(5,.ptr 80 0),(6,.ptr 96 0),(7,.ptr 112 0),(8,.ptr 128 0),(31,rI 2)]) (B0:=[(64,.var zZ4),(80,.var [rI (if x7.a0<x5.a0 then x7.a0 else x5.a0),rI (if x7.a1<x5.a1 then x7.a1 else x5.a1),rI x5.a2]),(96,.var [rI (if x8.a0>x6.a0 then x8.a0 else x6.a0),rI (if x8.a1>x6.a1 then x8.a1 else x6.a1),rI x6.a2]),(112,.var [rI x7.a0,rI x7.a1,rI x7.a2]),(128,.var [rI x8.a0,rI x8.a1,rI x8.a2])]) rfl rfl<|sT<|sN<|qS<|cT<|qK<|qS<|qB<|gS rfl rfl ?_
 refine sM rfl<|sA rfl<|sN<|WC.kI rfl rfl<|sM rfl<|sM rfl<|sM rfl<|sV (.ptr 80 2)<|sL rfl<|sM rfl<|sV (.ptr 112 2)<|sL rfl<|sV (rI (if x7.a2<x5.a2 then x7.a2 else x5.a2))<|sM rfl<|sV (.ptr 96 2) ?_
 refine sL rfl<|sM rfl<|sV (.ptr 128 2)<|sL rfl<|sV (rI (if x8.a2>x6.a2 then x8.a2 else x6.a2))<|sV (.ptr 80 2)<|sS 80 (.var [rI (if x7.a0<x5.a0 then x7.a0 else x5.a0),rI (if x7.a1<x5.a1 then x7.a1 else x5.a1),rI (if x7.a2<x5.a2 then x7.a2 else x5.a2)])<|sV (.ptr 96 2)<|sS 96 (.var [rI (if x8.a0>x6.a0 then x8.a0 else x6.a0),rI (if x8.a1>x6.a1 then x8.a1 else x6.a1),rI (if x8.a2>x6.a2 then x8.a2 else x6.a2)]) ?_
 refine sN<|sO<|WC.region rfl rfl<|sV (rI 3)<|sM rfl<|sN<|WL.round<|WC.iA (R0:=[(4,.ptr 64 0),(5,.ptr 80 0),(6,.ptr 96 0),(7,.ptr 112 0),(8,.ptr 128 0),(31,rI 3)]) (B0:=[(64,.var zZ4),(80,.var [rI (if x7.a0<x5.a0 then x7.a0 else x5.a0),rI (if x7.a1<x5.a1 then x7.a1 else x5.a1),rI (if x7.a2<x5.a2 then x7.a2 else x5.a2)]),(96,.var [rI (if x8.a0>x6.a0 then x8.a0 else x6.a0),rI (if x8.a1>x6.a1 then x8.a1 else x6.a1),rI (if x8.a2>x6.a2 then x8.a2 else x6.a2)]),(112,.var [rI x7.a0,rI x7.a1,rI x7.a2]),(128,.var [rI x8.a0,rI x8.a1,rI x8.a2])]) rfl rfl<|sU<|sN<|qS<|cF<|qX<|qE<|WC.dG rfl rfl<|sV (.d (aW.pd (aW.mk (if x7.a0<x5.a0 then x7.a0 else x5.a0) (if x7.a1<x5.a1 then x7.a1 else x5.a1) (if x7.a2<x5.a2 then x7.a2 else x5.a2)))) ?_
 refine bE h fun x9 hx9 h=>cD (bU hx9)<|sV (.d (aW.pd (aW.mk (if x8.a0>x6.a0 then x8.a0 else x6.a0) (if x8.a1>x6.a1 then x8.a1 else x6.a1) (if x8.a2>x6.a2 then x8.a2 else x6.a2))))<|bE h fun x10 hx10 h=>cD (bU hx10)<|sG (.d (ai.pd (ai.mk x9 x10)))<|sH 64 (.var (aa.rc x9++aa.rc x10)) ?_
 refine sN<|sO<|qR ?_
 cases oI h
 exact qG
theorem nv{a0:ag}{a1:Int}{r:aj×Int}(h:db a0 a1=some r):EvP prog aC ext 57 [.d (ag.pd a0),rI a1] [] (.tup [.d (aj.pd r.1),rI r.2],[]):=by
 refine Ev.body rfl Tryz.func57 rfl (by kernel_rfl)<|gS rfl rfl<|sB (.ptr 32 0) 32 (.var (ag.rc a0))<|sB (.ptr 64 0) 64 (.var zZ1)<|sV (r0)<|sN<|gS rfl rfl<|sV (.d (ag.pd a0))<|sM rfl<|bE h fun x1 hx1 h=>opt_elim h (fun hox1 h=>?_) (fun y2 hox1 h=>?_)
 ·refine cR (.tup [.d (.raw (.pointer none)),rI x1.2]) [] (locate_run_evN hx1 hox1)<|sM rfl<|sV (.d (.raw (.pointer none)))<|sV (rI x1.2)<|sA rfl<|sA rfl<|sN<|qS<|gS rfl rfl<|sM rfl<|sF h (fun h=>?_) fun h=>?_
  ·refine sN<|cT<|gS rfl rfl<|sG (.d (aj.pd (aj.mk (aa.mk 0 0 0) 0 0 0 (ai.mk (aa.mk 0 0 0) (aa.mk 0 0 0)))))<|sM rfl<|sH 64 (.var zZ1)<|sA rfl<|sN<|qR ?_
   cases oI h
   exact qG
  refine sN<|cF<|qK<|gS rfl rfl<|sM rfl ?_
  cases h
 refine cR (.tup [.ptr 224 0,rI x1.2]) [(224,.var (bQ.rc y2))] (locate_run_evS hx1 hox1)<|sM rfl<|sV (.ptr 224 0)<|sV (rI x1.2)<|sA rfl<|sA rfl<|sN<|qS<|gS rfl rfl<|sM rfl<|sF h (fun h=>?_) fun h=>?_
 ·refine sN<|cT<|gS rfl rfl<|sG (.d (aj.pd (aj.mk (aa.mk 0 0 0) 0 0 0 (ai.mk (aa.mk 0 0 0) (aa.mk 0 0 0)))))<|sM rfl<|sH 64 (.var zZ1)<|sA rfl<|sN<|qR ?_
  cases oI h
  exact qG
 refine sN<|cF<|qK<|gS rfl rfl<|sM rfl<|sV (.ptr 224 0)<|sV (.ptr 224 15)<|sV (.d (aj.pd y2.bT))<|sB (.ptr 128 0) 128 (.var zZ1)<|sH 128 (.var (aj.rc y2.bT))<|sN<|gS rfl rfl<|sV (.ptr 128 4)<|sL rfl<|sV (.ptr 128 0) ?_
 refine sV (.d (aa.pd y2.bT.aV))<|sV (.ptr 128 0)<|sV (.d (aa.pd y2.bT.aV))<|sG (.d (ai.pd (ai.mk y2.bT.aV y2.bT.aV)))<|sV (.ptr 128 5)<|sS 128 (.var (aa.rc y2.bT.aV++rI y2.bT.aX::rI y2.bT.bh::rI y2.bT.bh::ai.rc y2.bT.aY))<|sV (.ptr 128 6)<|sH 128 (.var (aa.rc y2.bT.aV++rI y2.bT.aX::rI y2.bT.bh::rI y2.bT.bh::aa.rc y2.bT.aV++aa.rc y2.bT.aV))<|sN<|qS<|gS rfl rfl<|sM rfl<|sV (.ptr 224 0)<|sV (.ptr 224 11)<|sL rfl ?_
 refine sE (rI (y2.kg.length:Int)) (dT _ _)<|sV (r0)<|sN<|bE h fun o16 ho16 h=>WC.block (WC.loop (WL.gv ho16 (fun s R' B'=>cI prog 0 (A R' B') (aC.at_ 57 0 7)=some (A [(4,.ptr 64 0),(8,.ptr 128 0),(37,rM al.pd y2.kg),(38,rI (y2.kg.length:Int)),(39,rI s.1)] [(64,.var zZ1),(128,.var (aa.rc y2.bT.aV++rI y2.bT.aX::rI y2.bT.bh::rI s.2.1::ai.rc s.2.2))])) (fun o e R' B'=>e= .exit 0∧cI prog 0 (A R' B') (aC.at_ 57 0 13)=some (A [(4,.ptr 64 0),(8,.ptr 128 0)] [(64,.var zZ1),(128,.var (aa.rc y2.bT.aV++rI y2.bT.aX::rI y2.bT.bh::rI o.1::ai.rc o.2))])) rfl ?_ ?_))
 ·rintro⟨s5,s6,s7⟩ R' B' q10 hI h
  refine gS rfl hI<|sF h (fun h=>?_) fun h=>?_
  ·refine sN<|qS<|cT<|qK<|qS<|qB<|gS rfl rfl<|bE h fun x12 hx12 h=>eG hx12 rfl<|sV (.d (al.pd x12))<|sB (.ptr 160 0) 160 (.var [r0,r0,r0,r0,r0,r0,r0,r0])<|sH 160 (.var (al.rc x12))<|sN<|gS rfl rfl<|sV (.ptr 128 5) ?_
   refine sL rfl<|sV (.ptr 160 6)<|sL rfl<|sV (rI (if x12.ch<s6 then x12.ch else s6))<|sV (.ptr 128 5)<|sS 128 (.var (aa.rc y2.bT.aV++rI y2.bT.aX::rI y2.bT.bh::rI (if x12.ch<s6 then x12.ch else s6)::ai.rc s7))<|sN<|gS rfl rfl<|sV (.ptr 160 6)<|sL rfl<|sV (.ptr 128 4)<|sL rfl<|sF h (fun h=>?_) fun h=>?_
   ·refine sN<|cT<|WC.region rfl rfl<|sV (.ptr 128 6)<|sV (.d (ai.pd s7))<|sV (.ptr 160 0)<|sV (.d (ai.pd x12.jx))<|bE h fun x14 hx14 h=>cD (geometry_Hull_ev hx14)<|sV (.ptr 128 6)<|sH 128 (.var (aa.rc y2.bT.aV++rI y2.bT.aX::rI y2.bT.bh::rI (if x12.ch<s6 then x12.ch else s6)::ai.rc x14))<|sN<|WC.region rfl rfl<|sV (rI (rW (s5+(1:Int))))<|sM rfl ?_
    refine sN ?_
    cases oI h
    exact⟨rfl,rfl⟩
   refine sN<|cF<|qK<|WC.region rfl rfl<|sV (rI (rW (s5+(1:Int))))<|sM rfl<|sN ?_
   cases oI h
   exact⟨rfl,rfl⟩
  refine sN<|qS<|cF<|qX ?_
  cases oI h
  exact⟨nofun,rfl,rfl⟩
 intro e R' B' he hq
 obtain⟨rfl,hI⟩:=hq
 refine qE<|gS rfl hI<|sV (.d (aj.pd (aj.mk y2.bT.aV y2.bT.aX y2.bT.bh o16.1 (ai.mk (aa.mk o16.2.aL.fX o16.2.aL.fY o16.2.aL.fZ) (aa.mk o16.2.aF.fX o16.2.aF.fY o16.2.aF.fZ)))))<|sH 64 (.var (aa.rc y2.bT.aV++rI y2.bT.aX::rI y2.bT.bh::rI o16.1::ai.rc o16.2))<|sV (r0)<|sN<|qR ?_
 cases oI h
 exact qG
theorem pw{a0:ag}{a1:aa}{a2:Int}{r:(List Int)×Int}(h:gf a0 a1 a2=some r):EvP prog aC ext 131 [.d (ag.pd a0),.d (aa.pd a1),rI a2] [] (.tup [rL r.1,rI r.2],[]):=by
 refine Ev.body rfl Tryz.func131 rfl (by kernel_rfl)<|gS rfl rfl<|sB (.ptr 48 0) 48 (.var (ag.rc a0))<|sB (.ptr 64 0) 64 (.var (aa.rc a1))<|sV .dH<|sV (r0)<|sN<|gS rfl rfl<|sV (.d (ag.pd a0))<|sV (.d (aa.pd a1))<|sV (.d (aa.pd a1))<|sG (.d (ai.pd (ai.mk a1 a1)))<|bE h fun x1 hx1 h=>cR (.tup [rM aG.pd x1.1,rI x1.2]) [] (lH hx1)<|sM rfl ?_
 refine sV (rM aG.pd x1.1)<|sV (rI x1.2)<|sA rfl<|sA rfl<|sN<|qS<|gS rfl rfl<|sM rfl<|sF h (fun h=>?_) fun h=>?_
 ·refine sN<|cT<|gS rfl rfl<|sM rfl<|sV .dH<|sA rfl<|sN<|qR ?_
  cases oI h
  exact qG
 refine sN<|cF<|qK<|qS<|gS rfl rfl<|sM rfl<|sF h (fun h=>?_) fun h=>?_
 ·refine sM rfl<|sK<|sK<|sT<|sN<|cT<|gS rfl rfl<|sV .dH<|sV (rI 2)<|sN<|qR ?_
  cases oI h
  exact qG
 refine sM rfl<|sM rfl<|sV (rB (decide (a2>(18014398509481984:Int))))<|sF h (fun h=>?_) fun h=>?_
 ·refine sN<|cT<|gS rfl rfl<|sV .dH<|sV (rI 2)<|sN<|qR ?_
  cases oI h
  exact qG
 refine sN<|cF<|qK<|gS rfl rfl<|sM rfl<|sE (rI (x1.1.length:Int)) (dT _ _)<|bE h fun x5 hx5 h=>WO.mkC (g:=(PD.int .i64)) hx5 rfl rfl rfl rfl rfl rfl rfl rfl rfl rfl rfl<|sA rfl<|sN<|qS<|gS rfl rfl<|sM rfl<|sE (rI (x1.1.length:Int)) (dT _ _)<|sV (r0) ?_
 refine sN<|bE h fun o15 ho15 h=>WC.block (WC.loop (WL.gv ho15 (fun s R' B'=>cI prog 0 (A R' B') (aC.at_ 131 0 8)=some (A [(2,rI a2),(10,.ref 512 0),(33,rM aG.pd x1.1),(34,rI (x1.1.length:Int)),(35,rI s.1)] [(512,.arr 0 3 (s.2.map (PD.int .i64)))])) (fun o e R' B'=>e= .exit 0∧cI prog 0 (A R' B') (aC.at_ 131 0 12)=some (A [(10,.ref 512 0)] [(512,.arr 0 3 (o.map (PD.int .i64)))])) rfl ?_ ?_))
 ·rintro⟨s6,s7⟩ R' B' q9 hI h
  refine gS rfl hI<|sF h (fun h=>?_) fun h=>?_
  ·refine sN<|qS<|cT<|qK<|qS<|qB<|gS rfl rfl<|bE h fun x11 hx11 h=>eG hx11 rfl<|sV (.d (aG.pd x11))<|sB (.ptr 192 0) 192 (.var [r0,r0])<|sS 192 (.var [rI x11.bp,rI x11.fTo])<|sN<|WC.region rfl rfl<|sM rfl ?_
   refine sV (.d (aG.pd x11))<|sM rfl<|bE h fun x12 hx12 h=>cD (my hx12)<|sV (.d (.lst ([x12].map (PD.int .i64))))<|bE h fun x13 hx13 h=>aR hx13 (fun _=>rfl) rfl<|sA rfl<|sN<|WC.region rfl rfl<|sV (rI (rW (s6+(1:Int))))<|sM rfl<|sN ?_
   cases oI h
   exact⟨rfl,rfl⟩
  refine sN<|qS<|cF<|qX ?_
  cases oI h
  exact⟨nofun,rfl,rfl⟩
 intro e R' B' he hq
 obtain⟨rfl,hI⟩:=hq
 refine qE<|gS rfl hI<|sM rfl<|sA rfl<|sV (r0)<|sN<|qR ?_
 exact oI h▸qD
theorem od{a1:Int}{d0:(List Int)}{d1:(List Int)}{r:(List Int)×(List Int)}(h:jV a1 d0 d1=some r):EvP prog aC ext 132 [.agg [.ref 0 0,.ref 1 0],rI a1] [.arr 0 3 (d0.map (PD.int .i64)),.arr 0 3 (d1.map (PD.int .i64))] (.tup [],[.arr 0 3 (r.1.map (PD.int .i64)),.arr 0 3 (r.2.map (PD.int .i64))]):=by
 refine Ev.body rfl Tryz.func132 rfl (by kernel_rfl)<|gS rfl rfl<|sB (.ptr 32 0) 32 (.var [.ref 0 0,.ref 1 0])<|sN<|WC.kI rfl rfl<|sV (.ptr 32 0)<|sL rfl<|sV (.ptr 32 1)<|sL rfl<|sM rfl<|bE h fun x2 hx2 h=>WO.qy hx2 rfl rfl rfl rfl rfl rfl rfl rfl<|bE h fun x3 hx3 h=>WO.pO hx3 rfl rfl rfl rfl rfl rfl<|sV (.ptr 32 1) ?_
 refine sL rfl<|sV (.ptr 32 0)<|sL rfl<|sM rfl<|bE h fun x5 hx5 h=>WO.qy hx5 rfl rfl rfl rfl rfl rfl rfl rfl<|bE h fun x6 hx6 h=>WO.pO hx6 rfl rfl rfl rfl rfl rfl<|sV (.ptr 32 0)<|sL rfl<|sM rfl<|bE h fun x8 hx8 h=>WO.qy hx8 rfl rfl rfl rfl rfl rfl rfl rfl<|bE h fun x9 hx9 h=>WO.pO hx9 rfl rfl rfl rfl rfl rfl ?_
 refine sV (.ptr 32 1)<|sL rfl<|sM rfl<|bE h fun x11 hx11 h=>WO.qy hx11 rfl rfl rfl rfl rfl rfl rfl rfl<|bE h fun x12 hx12 h=>WO.pO hx12 rfl rfl rfl rfl rfl rfl<|bE h fun x14 hx14 h=>WO.qy hx14 rfl rfl rfl rfl rfl rfl rfl rfl<|bE h fun x15 hx15 h=>WO.rD (g:=(PD.int .i64)) (sz:=1) (p:= .int .i64 x9) hx15 (fun _=>rfl) (fun _=>rfl) rfl rfl rfl rfl rfl rfl rfl rfl rfl<|bE h fun x17 hx17 h=>WO.qy hx17 rfl rfl rfl rfl rfl rfl rfl rfl<|bE h fun x18 hx18 h=>WO.rD (g:=(PD.int .i64)) (sz:=1) (p:= .int .i64 x12) hx18 (fun _=>rfl) (fun _=>rfl) rfl rfl rfl rfl rfl rfl rfl rfl rfl ?_
 refine sN<|sO ?_
 exact oI h▸qD
theorem nG{a0:aJ}{a1:(List ak)}{r:(List a7)×(List Int)×Int}(h:fT a0 a1=some r):EvP prog aC ext 66 [.d (aJ.pd a0),rM ak.pd a1] [] (.tup [rM a7.pd r.1,rL r.2.1,rI r.2.2],[]):=by
 refine Ev.body rfl Tryz.func66 rfl (by kernel_rfl)<|gS rfl rfl<|sB (.ptr 32 0) 32 (.var (aJ.rc a0))<|sV .dH<|sV .dH<|sV (r0)<|sN<|WC.scope<|qS<|gS rfl rfl<|sV (.d (aJ.pd a0))<|sM rfl<|bE h fun x1 hx1 h=>cD (kF hx1)<|sA rfl ?_
 refine sN<|gS rfl rfl<|sM rfl<|sF h (fun h=>?_) fun h=>?_
 ·refine sN<|cT<|gS rfl rfl<|sM rfl<|sV .dH<|sV .dH<|sA rfl<|sN<|qR ?_
  cases oI h
  exact qG
 refine sN<|cF<|qK<|gS rfl rfl<|sV .dH<|sN<|gS rfl rfl<|sV .dH<|sN<|gS rfl rfl<|sM rfl<|bE h fun x3 hx3 h=>cD (ml hx3)<|sA rfl<|sN ?_
 refine gS rfl rfl<|sM rfl<|sE (rI (a1.length:Int)) (dT _ _)<|bE h fun x4 hx4 h=>cR (.agg [.ref 560 0,.ref 561 0]) [(560,.arr 0 3 (x4.np.map (PD.int .i64))),(561,.arr 0 3 (x4.fback.map (PD.int .i64)))] (oj hx4)<|sB (.ptr 176 0) 176 (.var [.dH,.dH])<|sS 176 (.var [.ref 560 0,.ref 561 0])<|sN<|qS<|WC.label<|qS<|bE h fun o79 ho79 h=>WC.block (WC.loop (WL.gv ho79 (fun s R' B'=>cI prog 0 (A R' B') (aC.at_ 66 0 8)=some (A [(1,rM ak.pd a1),(2,.ptr 32 0),(8,.ref 2432 0),(9,.ref 2576 0),(10,rL x3),(11,.ptr 176 0)] [(32,.var (aJ.rc a0)),(176,.var [.ref 560 0,.ref 561 0]),(560,.arr 0 3 (s.2.2.1.map (PD.int .i64))),(561,.arr 0 3 (s.2.2.2.map (PD.int .i64))),(2432,.arr 0 142 (s.1.map a7.pd)),(2576,.arr 0 3 (s.2.1.map (PD.int .i64)))])) (fun o e R' B'=>match o with| .inl y=>e= .exit 0∧cI prog 0 (A R' B') (aC.at_ 66 0 42)=some (A [(8,.ref 2432 0),(9,.ref 2576 0)] [(2432,.arr 0 142 (y.1.map a7.pd)),(2576,.arr 0 3 (y.2.map (PD.int .i64)))])| .inr r=>e= .ret∧finish prog (aC.own 66) Tryz.f66 0 (A R' B')=some (.tup [rM a7.pd r.1,rL r.2.1,rI r.2.2],[])) rfl ?_ ?_))
 ·rintro⟨s5,s6,s7,s8⟩ R' B' q11 hI h
  unfold bW at h
  refine qS<|WC.dG hI rfl<|sV (.ptr 176 0)<|sL rfl<|sV (.agg [.ref 560 0,.ref 561 0])<|bE h fun x12 hx12 h=>cR (rI x12) [ ] (iL hx12)<|bE h fun x14 hx14 h=>WO.qy hx14 rfl rfl rfl rfl rfl rfl rfl rfl<|bE h fun x15 hx15 h=>WO.pO hx15 rfl rfl rfl rfl rfl rfl<|sV (.agg [.ref 560 0,.ref 561 0])<|bE h fun x16 hx16 h=>cR (rI x16) [ ] (iL hx16)<|sF h (fun h=>?_) fun h=>?_
  ·refine sN<|sO<|cT<|qK<|qB<|gS rfl rfl<|sV (.agg [.ref 560 0,.ref 561 0])<|sV (.d (aJ.pd a0))<|sM rfl<|sM rfl<|bE h fun x18 hx18 h=>cR (rL x18.1) [(560,.arr 0 3 (x18.2.1.map (PD.int .i64))),(561,.arr 0 3 (x18.2.2.map (PD.int .i64)))] (chain_windowq_ev hx18)<|sA rfl<|sN<|WC.join (α:=(List a7)×(List Int)) (fun x R' B'=>cI prog 0 (A R' B') (aC.at_ 66 0 40)=some (A [(1,rM ak.pd a1),(2,.ptr 32 0),(8,.ref 2432 0),(9,.ref 2576 0),(10,rL x3),(11,.ptr 176 0),(12,rL x18.1)] [(32,.var (aJ.rc a0)),(176,.var [.ref 560 0,.ref 561 0]),(560,.arr 0 3 (x18.2.1.map (PD.int .i64))),(561,.arr 0 3 (x18.2.2.map (PD.int .i64))),(2432,.arr 0 142 (x.1.map a7.pd)),(2576,.arr 0 3 (x.2.map (PD.int .i64)))])) (fun x=>cm x18 x3 x.1 x.2=some q11) ?_ ?_
   ·refine gS rfl rfl<|sM rfl<|sE (rI (x18.1.length:Int)) (dT _ _)<|sV (.ptr 32 13)<|sL rfl<|sF h (fun h=>?_) fun h=>?_
    ·refine sN<|cT<|gS rfl rfl<|sV .dH<|sN<|qS<|gS rfl rfl<|sM rfl<|sE (rI (x18.1.length:Int)) (dT _ _)<|sV (r0)<|sN<|bE h fun o40 ho40 h=>WC.block (WC.loop (WL.gv ho40 (fun s R' B'=>cI prog 0 (A R' B') (aC.at_ 66 0 13)=some (A [(1,rM ak.pd a1),(2,.ptr 32 0),(8,.ref 2432 0),(9,.ref 2576 0),(10,rL x3),(11,.ptr 176 0),(12,rL x18.1),(13,.ref 1120 0),(55,rL x18.1),(56,rI (x18.1.length:Int)),(57,rI s.1)] [(32,.var (aJ.rc a0)),(176,.var [.ref 560 0,.ref 561 0]),(560,.arr 0 3 (x18.2.1.map (PD.int .i64))),(561,.arr 0 3 (x18.2.2.map (PD.int .i64))),(1120,.arr 0 81 (s.2.map ak.pd)),(2432,.arr 0 142 (s5.map a7.pd)),(2576,.arr 0 3 (s6.map (PD.int .i64)))])) (fun o e R' B'=>e= .exit 2∧cI prog 0 (A R' B') (aC.at_ 66 0 17)=some (A [(1,rM ak.pd a1),(2,.ptr 32 0),(8,.ref 2432 0),(9,.ref 2576 0),(10,rL x3),(11,.ptr 176 0),(12,rL x18.1),(13,rM ak.pd o.1)] [(32,.var (aJ.rc a0)),(176,.var [.ref 560 0,.ref 561 0]),(560,.arr 0 3 (x18.2.1.map (PD.int .i64))),(561,.arr 0 3 (x18.2.2.map (PD.int .i64))),(2432,.arr 0 142 (o.2.1.map a7.pd)),(2576,.arr 0 3 (o.2.2.map (PD.int .i64)))])) rfl ?_ ?_))
     ·rintro⟨s28,s29⟩ R' B' q33 hI h
      refine gS rfl hI<|sF h (fun h=>?_) fun h=>?_
      ·refine sN<|qS<|cT<|qK<|qS<|qB<|gS rfl rfl<|bE h fun x35 hx35 h=>eG hx35 rfl<|sC rfl<|sA rfl<|sN<|WC.region rfl rfl<|sM rfl<|sM rfl ?_
       refine sM rfl<|sM rfl<|bE h fun x36 hx36 h=>eG hx36 rfl<|sC rfl<|bE h fun x37 hx37 h=>eG hx37 rfl<|sV (.d (ak.pd x37))<|sV (.d (.lst ([x37].map ak.pd)))<|bE h fun x38 hx38 h=>aR hx38 (fun _=>rfl) rfl<|sA rfl<|sN<|WC.region rfl rfl<|sV (rI (rW (s28+(1:Int)))) ?_
       refine sM rfl<|sN ?_
       cases oI h
       exact⟨rfl,rfl⟩
      refine sN<|qS<|cF<|qX ?_
      cases oI h
      exact⟨nofun,rfl,rfl⟩
     intro e R' B' he hq
     obtain⟨rfl,hI⟩:=hq
     refine qE<|WC.dG hI rfl<|sV (.d (aJ.pd a0))<|sM rfl<|bE h fun x41 hx41 h=>cD (lp hx41)<|sV (.ptr 32 10)<|sL rfl<|bE h fun x42 hx42 h=>cR (.tup [.d (aj.pd x42.1),rI x42.2]) [] (nv hx42)<|sM rfl<|sV (.d (aj.pd x42.1))<|sV (rI x42.2)<|sB (.ptr 256 0) 256 (.var zZ1)<|sH 256 (.var (aj.rc x42.1)) ?_
     refine sA rfl ?_
     refine sN<|sO<|qS<|gS rfl rfl<|sM rfl<|sF h (fun h=>?_) fun h=>?_
     ·refine sN<|cT<|gS rfl rfl<|sM rfl<|sV .dH<|sV .dH<|sA rfl<|sN<|qR ?_
      cases oI h
      exact⟨nofun,rfl,rfl⟩
     refine sN<|cF<|qK<|WC.dG rfl rfl<|sV (.d (aJ.pd a0))<|sM rfl<|bE h fun x44 hx44 h=>cD (lp hx44)<|sV (.ptr 256 0)<|sV (.d (aa.pd x42.1.aV))<|sV (.ptr 256 3)<|sL rfl<|bE h fun x45 hx45 h=>cR (.tup [rL x45.1,rI x45.2]) [] (pw hx45)<|sM rfl ?_
     refine sV (rL x45.1)<|sV (rI x45.2)<|sA rfl<|sA rfl ?_
     refine sN<|sO<|qS<|gS rfl rfl<|sM rfl<|sF h (fun h=>?_) fun h=>?_
     ·refine sN<|cT<|gS rfl rfl<|sM rfl<|sV .dH<|sV .dH<|sA rfl<|sN<|qR ?_
      cases oI h
      exact⟨nofun,rfl,rfl⟩
     refine sN<|cF<|qK<|gS rfl rfl<|sV .dH<|sN<|qS<|gS rfl rfl<|sM rfl<|sE (rI (x18.1.length:Int)) (dT _ _)<|sV (r0)<|sN<|bE h fun o57 ho57 h=>WC.block (WC.loop (WL.gv ho57 (fun s R' B'=>cI prog 0 (A R' B') (aC.at_ 66 0 25)=some (A [(1,rM ak.pd a1),(2,.ptr 32 0),(8,.ref 2432 0),(9,.ref 2576 0),(10,rL x3),(11,.ptr 176 0),(12,rL x18.1),(16,.ptr 256 0),(18,rL x45.1),(19,.ref 1840 0),(98,rL x18.1),(99,rI (x18.1.length:Int)),(100,rI s.1)] [(32,.var (aJ.rc a0)),(176,.var [.ref 560 0,.ref 561 0]),(256,.var (aj.rc x42.1)),(560,.arr 0 3 (x18.2.1.map (PD.int .i64))),(561,.arr 0 3 (x18.2.2.map (PD.int .i64))),(1840,.arr 0 3 (s.2.map (PD.int .i64))),(2432,.arr 0 142 (o40.2.1.map a7.pd)),(2576,.arr 0 3 (o40.2.2.map (PD.int .i64)))])) (fun o e R' B'=>e= .exit 4∧cI prog 0 (A R' B') (aC.at_ 66 0 30)=some (A [(1,rM ak.pd a1),(2,.ptr 32 0),(8,.ref 2432 0),(9,.ref 2576 0),(10,rL x3),(11,.ptr 176 0),(12,rL x18.1),(16,.ptr 256 0),(19,.ref 1840 0)] [(32,.var (aJ.rc a0)),(176,.var [.ref 560 0,.ref 561 0]),(256,.var (aj.rc x42.1)),(560,.arr 0 3 (x18.2.1.map (PD.int .i64))),(561,.arr 0 3 (x18.2.2.map (PD.int .i64))),(1840,.arr 0 3 (o.map (PD.int .i64))),(2432,.arr 0 142 (o40.2.1.map a7.pd)),(2576,.arr 0 3 (o40.2.2.map (PD.int .i64)))])) rfl ?_ ?_))
     ·rintro⟨s47,s48⟩ R' B' q50 hI h
      refine gS rfl hI<|sF h (fun h=>?_) fun h=>?_
      ·refine sN<|qS<|cT<|qK<|qS<|qB<|gS rfl rfl<|sM rfl<|bE h fun x52 hx52 h=>eG hx52 rfl<|sC rfl<|sA rfl<|sA rfl<|sN<|WC.dG rfl rfl ?_
       refine sM rfl<|sM rfl<|bE h fun x53 hx53 h=>eG hx53 rfl<|sC rfl<|sV (.ptr 32 12)<|sL rfl<|sF h (fun h=>?_) fun h=>?_
       ·refine sN<|sO<|cT<|WC.region rfl rfl<|sM rfl<|sM rfl<|sV (.d (.lst ([x52].map (PD.int .i64))))<|bE h fun x55 hx55 h=>aR hx55 (fun _=>rfl) rfl<|sA rfl<|sN<|WC.region rfl rfl<|sV (rI (rW (s47+(1:Int))))<|sM rfl<|sN ?_
        cases oI h
        exact⟨rfl,rfl⟩
       refine sN<|sO<|cF<|qK<|WC.region rfl rfl<|sV (rI (rW (s47+(1:Int))))<|sM rfl<|sN ?_
       cases oI h
       exact⟨rfl,rfl⟩
      refine sN<|qS<|cF<|qX ?_
      cases oI h
      exact⟨nofun,rfl,rfl⟩
     intro e R' B' he hq
     obtain⟨rfl,hI⟩:=hq
     refine qE<|gS rfl hI<|sM rfl<|WO.ud rfl rfl rfl rfl rfl rfl rfl rfl rfl<|sV (.ptr 32 13)<|sL rfl<|sF h (fun h=>?_) fun h=>?_
     ·refine sN<|cT<|gS rfl rfl<|sV (.ptr 256 0)<|sV (.d (aa.pd x42.1.aV))<|sV (.ptr 256 3)<|sL rfl<|sV (.agg (.dH::aa.rc x42.1.aV++[rI x42.1.aX]))<|sB (.ptr 352 0) 352 (.var [.dH,r0,r0,r0,r0])<|sS 352 (.var (.dH::aa.rc x42.1.aV++[rI x42.1.aX]))<|sN<|qS<|gS rfl rfl<|sM rfl<|WO.ud rfl rfl rfl rfl rfl rfl rfl rfl rfl ?_
      refine sV (r0)<|sN<|bE h fun o75 ho75 h=>WC.block (WC.loop (WL.gv ho75 (fun s R' B'=>cI prog 0 (A R' B') (aC.at_ 66 0 33)=some (A [(1,rM ak.pd a1),(2,.ptr 32 0),(8,.ref 2432 0),(9,.ref 2576 0),(10,rL x3),(11,.ptr 176 0),(22,.ptr 352 0),(127,.ref 1840 0),(128,rI (o57.length:Int)),(129,rI s.1)] [(32,.var (aJ.rc a0)),(176,.var [.ref 560 0,.ref 561 0]),(352,.var (.ref 2288 0::aa.rc x42.1.aV++[rI x42.1.aX])),(560,.arr 0 3 (s.2.1.map (PD.int .i64))),(561,.arr 0 3 (s.2.2.1.map (PD.int .i64))),(1840,.arr 0 3 (o57.map (PD.int .i64))),(2288,.arr 0 3 (s.2.2.2.map (PD.int .i64))),(2432,.arr 0 142 (o40.2.1.map a7.pd)),(2576,.arr 0 3 (o40.2.2.map (PD.int .i64)))])) (fun o e R' B'=>e= .exit 6∧cI prog 0 (A R' B') (aC.at_ 66 0 38)=some (A [(1,rM ak.pd a1),(2,.ptr 32 0),(8,.ref 2432 0),(9,.ref 2576 0),(10,rL x3),(11,.ptr 176 0),(22,.ptr 352 0)] [(32,.var (aJ.rc a0)),(176,.var [.ref 560 0,.ref 561 0]),(352,.var (.ref 2288 0::aa.rc x42.1.aV++[rI x42.1.aX])),(560,.arr 0 3 (o.1.map (PD.int .i64))),(561,.arr 0 3 (o.2.1.map (PD.int .i64))),(2288,.arr 0 3 (o.2.2.map (PD.int .i64))),(2432,.arr 0 142 (o40.2.1.map a7.pd)),(2576,.arr 0 3 (o40.2.2.map (PD.int .i64)))])) rfl ?_ ?_))
      ·rintro⟨s59,s60,s61,s62⟩ R' B' q66 hI h
       refine gS rfl hI<|sF h (fun h=>?_) fun h=>?_
       ·refine sN<|qS<|cT<|qK<|qS<|qB<|gS rfl rfl<|bE h fun x69 hx69 h=>WO.qy hx69 rfl rfl rfl rfl rfl rfl rfl rfl<|bE h fun x70 hx70 h=>WO.pO hx70 rfl rfl rfl rfl rfl rfl<|sA rfl<|sN<|gS rfl rfl<|sV (.agg [.ref 560 0,.ref 561 0]) ?_
        refine sM rfl<|bE h fun x71 hx71 h=>cR (.tup []) [(560,.arr 0 3 (x71.1.map (PD.int .i64))),(561,.arr 0 3 (x71.2.map (PD.int .i64)))] (od hx71)<|sN<|WC.kI rfl rfl<|sV (.ptr 352 0)<|sL rfl<|sM rfl<|sM rfl<|bE h fun x72 hx72 h=>eG hx72 rfl<|sC rfl<|sV (.d (.lst ([x72].map (PD.int .i64))))<|bE h fun x73 hx73 h=>aR hx73 (fun _=>rfl) rfl ?_
        refine sV (.ptr 352 0)<|sS 352 (.var (.ref 2288 1::aa.rc x42.1.aV++[rI x42.1.aX])) ?_
        refine sN<|sO<|WC.region rfl rfl<|sV (rI (rW (s59+(1:Int))))<|sM rfl<|sN ?_
        cases oI h
        exact⟨rfl,rfl⟩
       refine sN<|qS<|cF<|qX ?_
       cases oI h
       exact⟨nofun,rfl,rfl⟩
      intro e R' B' he hq
      obtain⟨rfl,hI⟩:=hq
      refine qE<|gS rfl hI<|sV (.ptr 352 0)<|sL rfl<|bE h fun x76 hx76 h=>cR (.tup []) [(2288,.arr 0 3 (x76.map (PD.int .i64)))] (pg hx76)<|sN<|gS rfl rfl<|sM rfl<|sV (.agg (.ref 2288 0::aa.rc x42.1.aV++[rI x42.1.aX]))<|sB (.d (.lst [a7.pd (a7.mk x76 x42.1.aV x42.1.aX)])) 2288 .dead<|bE h fun x77 hx77 h=>aR hx77 (fun _=>rfl) rfl<|sA rfl<|sN ?_
      refine qX<|qE ?_
      cases oI h
      exact⟨rfl,rfl⟩
     exact sN<|cF<|qK<|⟨(o40.2.1,o40.2.2),rfl,h⟩
    exact sN<|cF<|qK<|⟨(s5,s6),rfl,h⟩
   rintro⟨j19,j20⟩ R' B' hI h
   refine gS rfl hI<|sM rfl<|sM rfl<|sM rfl<|bE h fun x21 hx21 h=>eG hx21 rfl<|sC rfl<|bE h fun x22 hx22 h=>eG hx22 rfl<|sC rfl<|sV (.d (.lst ([x22].map (PD.int .i64))))<|bE h fun x23 hx23 h=>aR hx23 (fun _=>rfl) rfl<|sA rfl<|sN ?_
   refine WC.kI rfl rfl<|sV (.agg [.ref 560 0,.ref 561 0])<|sM rfl<|bE h fun x24 hx24 h=>eG hx24 rfl<|sC rfl<|bE h fun x25 hx25 h=>cR (.tup []) [(560,.arr 0 3 (x25.1.map (PD.int .i64))),(561,.arr 0 3 (x25.2.map (PD.int .i64)))] (od hx25) ?_
   refine sN<|sO ?_
   cases oI h
   exact⟨rfl,rfl⟩
  refine sN<|sO<|cF<|qX ?_
  cases oI h
  exact⟨nofun,rfl,rfl⟩
 intro e R' B' he hq
 rcases o79 with y80|r81
 ·obtain⟨rfl,hI⟩:=hq
  refine qE<|gS rfl hI<|sM rfl<|bE h fun x82 hx82 h=>cR (.tup []) [(2576,.arr 0 3 (x82.map (PD.int .i64)))] (pg hx82)<|sN<|gS rfl rfl<|sM rfl<|sM rfl<|sA rfl<|sA rfl<|sV (r0)<|sN<|qR ?_
  exact oI h▸qD
 obtain⟨rfl,hf⟩:=hq
 cases oI h
 exact hf
end Go.Dw.Ek
