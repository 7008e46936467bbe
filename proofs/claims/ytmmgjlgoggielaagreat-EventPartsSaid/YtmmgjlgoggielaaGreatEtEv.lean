
import Derived.Test.YtmmgjlgoggielaaGreatEtEvC

set_option maxRecDepth 100000
set_option maxHeartbeats 4000000
namespace Go.Dw.Et
open Go.Proofs Go.Proofs.Tryz Go.Dw
theorem jB{a0:(List UInt8)}{a1:(List UInt8)}{r:Int}(h:gf a0 a1=some r):EvP prog aB ext 240 [rS a0,rS a1] [] (rI r,[]):=by
 refine Ev.body rfl Tryz.func240 rfl (by kernel_rfl)<|gS rfl rfl<|sV (r0)<|sN<|qS<|qB<|gS rfl rfl<|sM rfl<|sM rfl<|sF h (fun h=>?_) fun h=>?_
 ·refine sA rfl<|sN<|cT<|gS rfl rfl<|sV (rI (-1))<|sN<|qR ?_
  exact oI h▸qD
 refine sA rfl<|sN<|cF<|gS rfl rfl<|sM rfl<|sM rfl<|sF h (fun h=>?_) fun h=>?_
 ·refine sA rfl<|sN<|cT<|gS rfl rfl<|sV (rI 1)<|sN<|qR ?_
  exact oI h▸qD
 refine sA rfl<|sN<|cF<|qK<|gS rfl rfl<|sV (r0)<|sN<|qR ?_
 exact oI h▸qD
theorem og{a0:aw}{a1:aw}{r:Int}(h:jR a0 a1=some r):EvP prog aB ext 154 [.d (aw.pd a0),.d (aw.pd a1)] [] (rI r,[]):=by
 refine Ev.body rfl Tryz.func154 rfl (by kernel_rfl)<|gS rfl rfl<|sB (.ptr 32 0) 32 (.var (aw.rc a0))<|sB (.ptr 48 0) 48 (.var (aw.rc a1))<|sV (r0)<|sN<|qS<|WC.cI rfl rfl<|sV (.ptr 32 0)<|sL rfl<|sV (.ptr 48 0)<|sL rfl<|bE h fun x1 hx1 h=>cD (jB hx1)<|sV (.ptr 32 1) ?_
 refine sL rfl<|sV (.ptr 48 1)<|sL rfl<|bE h fun x2 hx2 h=>cD (jB hx2)<|sV (.ptr 32 2)<|sL rfl<|sV (.ptr 48 2)<|sL rfl<|bE h fun x3 hx3 h=>cD (jB hx3)<|sV (.ptr 32 3)<|sL rfl<|sV (.ptr 48 3)<|sL rfl ?_
 refine bE h fun x4 hx4 h=>cD (jB hx4)<|sV (.d (A4_Int.pd (A4_Int.mk x1 x2 x3 x4)))<|sV (r0) ?_
 refine sN<|sO<|WC.block (WC.loop ?_)
 refine WL.round<|gS rfl rfl<|sT<|sN<|qS<|cT<|qK<|qS<|qB<|gS rfl rfl<|sV (rI x1)<|sA rfl<|sN<|gS rfl rfl<|sM rfl ?_
 refine sF h (fun h=>?_) fun h=>?_
 ·refine sN<|cT<|gS rfl rfl<|sM rfl<|sA rfl<|sN<|qR ?_
  exact oI h▸qD
 refine sN<|cF<|qK<|WC.region rfl rfl<|sV (rI 1)<|sM rfl<|sN<|WL.round<|gS rfl rfl<|sT<|sN<|qS<|cT<|qK<|qS ?_
 refine qB<|gS rfl rfl<|sV (rI x2)<|sA rfl<|sN<|gS rfl rfl<|sM rfl<|sF h (fun h=>?_) fun h=>?_
 ·refine sN<|cT<|gS rfl rfl<|sM rfl<|sA rfl<|sN<|qR ?_
  exact oI h▸qD
 refine sN<|cF<|qK<|WC.region rfl rfl<|sV (rI 2)<|sM rfl<|sN<|WL.round<|gS rfl rfl<|sT<|sN<|qS<|cT<|qK<|qS ?_
 refine qB<|gS rfl rfl<|sV (rI x3)<|sA rfl<|sN<|gS rfl rfl<|sM rfl<|sF h (fun h=>?_) fun h=>?_
 ·refine sN<|cT<|gS rfl rfl<|sM rfl<|sA rfl<|sN<|qR ?_
  exact oI h▸qD
 refine sN<|cF<|qK<|WC.region rfl rfl<|sV (rI 3)<|sM rfl<|sN<|WL.round<|gS rfl rfl<|sT<|sN<|qS<|cT<|qK<|qS ?_
 refine qB<|gS rfl rfl<|sV (rI x4)<|sA rfl<|sN<|gS rfl rfl<|sM rfl<|sF h (fun h=>?_) fun h=>?_
 ·refine sN<|cT<|gS rfl rfl<|sM rfl<|sA rfl<|sN<|qR ?_
  exact oI h▸qD
 refine sN<|cF<|qK<|WC.region rfl rfl<|sV (rI 4)<|sM rfl<|sN<|WL.round<|gS rfl rfl<|sU<|sN<|qS<|cF<|qX<|qE ?_
 refine gS rfl rfl<|sV (r0)<|sN<|qR ?_
 exact oI h▸qD
theorem event_sorted_ev{a0:(List ac)}{r:Bool}(h:mE a0=some r):EvP prog aB ext 82 [rM ac.pd a0] [] (rB r,[]):=by
 refine Ev.body rfl Tryz.func82 rfl (by kernel_rfl)<|gS rfl rfl<|sU<|sN<|qS<|gS rfl rfl<|sV (rI 1)<|sN<|bE h fun o9 ho9 h=>WC.block (WC.loop (WL.gE ho9 (fun s R' B'=>b8 prog 0 (A R' B') (aB.at_ 82 0 2)=some (A [(0,rM ac.pd a0),(3,rI s)] [])) (fun o e R' B'=>match o with| .inl y=>e= .exit 0∧b8 prog 0 (A R' B') (aB.at_ 82 0 6)=some (A [] [])| .inr r=>e= .ret∧finish prog (aB.own 82) Tryz.f82 0 (A R' B')=some (rB r,[])) rfl ?_ ?_))
 ·rintro s1 R' B' q2 hI h
  refine qS<|gS rfl hI<|sM rfl<|sM rfl<|sE (rI (a0.length:Int)) (fB _ _)<|sF h (fun h=>?_) fun h=>?_
  ·refine sN<|cT<|qK<|qS<|qB<|WC.cI rfl rfl<|sM rfl<|sM rfl<|sV (rI (rW (s1-(1:Int))))<|bE h fun x4 hx4 h=>eG hx4 rfl<|sV (.d (ac.pd x4))<|sM rfl<|sM rfl<|bE h fun x5 hx5 h=>?_
   refine eG hx5 rfl<|sV (.d (ac.pd x5))<|bE h fun x6 hx6 h=>cD (nC hx6)<|sF h (fun h=>?_) fun h=>?_
   ·refine sN<|sO<|cT<|gS rfl rfl<|sU<|sN<|qR ?_
    cases oI h
    exact⟨nofun,rfl,rfl⟩
   refine sN<|sO<|cF<|qK<|WC.region rfl rfl<|sM rfl<|sV (rI (rW (s1+(1:Int))))<|sA rfl<|sN ?_
   cases oI h
   exact⟨rfl,rfl⟩
  refine sN<|cF<|qX ?_
  cases oI h
  exact⟨nofun,rfl,rfl⟩
 intro e R' B' he hq
 rcases o9 with y10|r11
 ·obtain⟨rfl,hI⟩:=hq
  refine qE<|gS rfl hI<|sT<|sN<|qR ?_
  exact oI h▸qD
 obtain⟨rfl,hf⟩:=hq
 cases oI h
 exact hf
theorem event_Valid_ev{a0:(List az)}{r:Bool}(h:nv a0=some r):EvP prog aB ext 34 [rM az.pd a0] [] (rB r,[]):=by
 refine Ev.body rfl Tryz.func34 rfl (by kernel_rfl)<|gS rfl rfl<|sU<|sN<|gS rfl rfl<|sB (.ptr 176 0) 176 (.map 66 146 (([]:List (ac×bY)).map fun e=>(ac.pd e.1,bY.pd e.2)))<|sA rfl<|sN<|qS<|gS rfl rfl<|sM rfl<|sE (rI (a0.length:Int)) (fB _ _)<|sV (r0)<|sN<|bE h fun o29 ho29 h=>?_
 refine WC.block (WC.loop (WL.gE ho29 (fun s R' B'=>b8 prog 0 (A R' B') (aB.at_ 34 0 3)=some (A [(0,rM az.pd a0),(3,.ptr 176 0),(12,rM az.pd a0),(13,rI (a0.length:Int)),(14,rI s.1)] [(176,.map 66 146 (s.2.map fun e=>(ac.pd e.1,bY.pd e.2)))])) (fun o e R' B'=>match o with| .inl y=>e= .exit 0∧b8 prog 0 (A R' B') (aB.at_ 34 0 17)=some (A [] [])| .inr r=>e= .ret∧finish prog (aB.own 34) Tryz.f34 0 (A R' B')=some (rB r,[])) rfl ?_ ?_))
 ·rintro⟨s1,s2⟩ R' B' q3 hI h
  refine gS rfl hI<|sF h (fun h=>?_) fun h=>?_
  ·refine sN<|qS<|cT<|qK<|qS<|qB<|gS rfl rfl<|sM rfl<|bE h fun x5 hx5 h=>eG hx5 rfl<|sV (.d (az.pd x5))<|sB (.ptr 80 0) 80 (.var [rS [],rS [],rS [],rS [],r0,r0,r0,r0,r0,.dg,r0,r0,r0,r0,r0,r0,r0,r0,r0,r0,r0,r0,r0,r0,r0])<|sA rfl<|sH 80 (.var (az.rc x5))<|sN ?_
   refine gS rfl rfl<|sV (.ptr 80 9)<|sV (.ptr 80 9)<|sL rfl<|sA rfl<|sN<|WC.join (α:=Unit) (fun x R' B'=>b8 prog 0 (A R' B') (aB.at_ 34 0 8)=some (A [(0,rM az.pd a0),(3,.ptr 176 0),(6,rM ac.pd x5.ap.bo),(12,rM az.pd a0),(13,rI (a0.length:Int)),(14,rI s1)] [(176,.map 66 146 (s2.map fun e=>(ac.pd e.1,bY.pd e.2)))])) (fun x=>il x5 s1 s2=some q3) ?_ ?_
   ·refine WC.cI rfl rfl<|sM rfl<|sE (rI (x5.ap.bo.length:Int)) (fB _ _)<|sF h (fun h=>?_) fun h=>?_
    ·refine sM rfl<|k3<|sT<|sM rfl<|k3<|sK<|sK<|sT<|sM rfl<|sK<|sK ?_
     refine k3<|k3<|k3<|k3<|sT ?_
     refine sN<|sO<|cT<|gS rfl rfl<|sU<|sN<|qR ?_
     cases oI h
     exact⟨nofun,rfl,rfl⟩
    refine sM rfl<|sM rfl<|bE h fun x20 hx20 h=>cD (event_sorted_ev hx20)<|sV (rB (!x20))<|sF h (fun h=>?_) fun h=>?_
    ·refine sM rfl<|k3<|sK<|sK<|sT<|sM rfl<|k3<|k3<|sK ?_
     refine k3<|k3<|sK<|sT ?_
     refine sN<|sO<|cT<|gS rfl rfl<|sU<|sN<|qR ?_
     cases oI h
     exact⟨nofun,rfl,rfl⟩
    refine sM rfl<|sV (.ptr 80 0)<|sV (.d (ac.pd x5.bd))<|sM rfl<|bE h fun x22 hx22 h=>cD (qL hx22)<|WO.bin (qY x5.bd x22) rfl rfl rfl rfl rfl<|sF h (fun h=>?_) fun h=>?_
    ·refine sM rfl<|k3<|k3<|k3<|k3<|sK<|sK ?_
     refine sT ?_
     refine sN<|sO<|cT<|gS rfl rfl<|sU<|sN<|qR ?_
     cases oI h
     exact⟨nofun,rfl,rfl⟩
    refine sM rfl<|sM rfl<|sF h (fun h=>?_) fun h=>?_
    ·refine sM rfl<|sM rfl<|sM rfl<|sV (rI (rW (s1-(1:Int))))<|bE h fun x25 hx25 h=>eG hx25 rfl<|sV (.cptr [.str x25.bd.aC.aY,.str x25.bd.aC.aM,.str x25.bd.aC.aj,.str x25.bd.aC.a7,.int .i64 x25.bd.a8,.int .i64 x25.bd.aP,.int .i64 x25.bd.bh,.int .i64 x25.bd.aS,.int .i64 x25.bd.aT,.lst (x25.ap.bo.map ac.pd),.int .i64 x25.ap.aj.aV.fX,.int .i64 x25.ap.aj.aV.fY,.int .i64 x25.ap.aj.aV.fZ,.int .i64 x25.ap.aj.a8,.int .i64 x25.ap.aj.bj,.int .i64 x25.ap.aj.dm,.int .i64 x25.ap.aj.aX.aK.fX,.int .i64 x25.ap.aj.aX.aK.fY,.int .i64 x25.ap.aj.aX.aK.fZ,.int .i64 x25.ap.aj.aX.aG.fX,.int .i64 x25.ap.aj.aX.aG.fY,.int .i64 x25.ap.aj.aX.aG.fZ,.int .i64 x25.ap.bq.aK,.int .i64 x25.ap.bq.aG,.int .i64 x25.ap.eM])<|sV (.d (ac.pd x25.bd))<|sV (.ptr 80 0)<|sV (.d (ac.pd x5.bd))<|bE h fun x26 hx26 h=>cD (lp hx26)<|sV (rB (decide (x26>=(0:Int))))<|sV (rB (decide (x26>=(0:Int))))<|sF h (fun h=>?_) fun h=>?_
     ·refine sN<|sO<|cT<|gS rfl rfl<|sU<|sN<|qR ?_
      cases oI h
      exact⟨nofun,rfl,rfl⟩
     exact sN<|sO<|cF<|qK<|⟨(),rfl,h⟩
    refine sM rfl<|k3<|k3<|k3<|sK<|sU<|sU ?_
    exact sN<|sO<|cF<|qK<|⟨(),rfl,h⟩
   rintro⟨⟩ R' B' hI h
   refine gS rfl hI<|sM rfl<|sE (rI (x5.ap.bo.length:Int)) (fB _ _)<|sV (r0)<|sN<|bE h fun o15 ho15 h=>WC.block (WC.loop (WL.gE ho15 (fun s R' B'=>b8 prog 0 (A R' B') (aB.at_ 34 0 9)=some (A [(0,rM az.pd a0),(3,.ptr 176 0),(12,rM az.pd a0),(13,rI (a0.length:Int)),(14,rI s1),(53,rM ac.pd x5.ap.bo),(54,rI (x5.ap.bo.length:Int)),(55,rI s.1)] [(176,.map 66 146 (s.2.map fun e=>(ac.pd e.1,bY.pd e.2)))])) (fun o e R' B'=>match o with| .inl y=>e= .exit 2∧b8 prog 0 (A R' B') (aB.at_ 34 0 16)=some (A [(0,rM az.pd a0),(3,.ptr 176 0),(12,rM az.pd a0),(13,rI (a0.length:Int)),(14,rI y.1)] [(176,.map 66 146 (y.2.map fun e=>(ac.pd e.1,bY.pd e.2)))])| .inr r=>e= .ret∧finish prog (aB.own 34) Tryz.f34 0 (A R' B')=some (rB r,[])) rfl ?_ ?_))
   ·rintro⟨s6,s7⟩ R' B' q10 hI h
    refine gS rfl hI<|sF h (fun h=>?_) fun h=>?_
    ·refine sN<|qS<|cT<|qK<|qS<|qB<|gS rfl rfl<|bE h fun x12 hx12 h=>eG hx12 rfl<|sV (.d (ac.pd x12))<|sB (.ptr 128 0) 128 (.var zZ3)<|sH 128 (.var (ac.rc x12))<|sN<|qS<|gS rfl rfl ?_
     refine sM rfl<|sV (.d (ac.pd x12))<|WO.lookOk (gv:=bY.pd) (z:=(bY.mk )) keyT_66 rfl rfl rfl rfl rfl rfl rfl rfl<|sM rfl<|sV (.d (bY.pd (mGet rO x12 (bY.mk ) s7)))<|sV (rB (zk rO x12 s7))<|sB (.ptr 144 0) 144 (.var [])<|sS 144 (.var [])<|sA rfl<|sN<|gS rfl rfl<|sF h (fun h=>?_) fun h=>?_
     ·refine sN<|cT<|gS rfl rfl<|sU<|sN<|qR ?_
      cases oI h
      exact⟨nofun,rfl,rfl⟩
     refine sN<|cF<|qK<|WC.region rfl rfl<|sM rfl<|sV (.d (ac.pd x12))<|sV (.d (bY.pd (bY.mk )))<|WO.mput (gv:=bY.pd) (y:=(bY.mk )) keyT_66 rfl rfl rfl rfl rfl rfl rfl rfl rfl rfl<|sN<|WC.region rfl rfl<|sV (rI (rW (s6+(1:Int))))<|sM rfl<|sN ?_
     cases oI h
     exact⟨rfl,rfl⟩
    refine sN<|qS<|cF<|qX ?_
    cases oI h
    exact⟨nofun,rfl,rfl⟩
   intro e R' B' he hq
   rcases o15 with y16|r17
   ·obtain⟨rfl,hI⟩:=hq
    refine qE<|WC.region hI rfl<|sV (rI (rW (y16.1+(1:Int))))<|sM rfl<|sN ?_
    cases oI h
    exact⟨rfl,rfl⟩
   obtain⟨rfl,hf⟩:=hq
   cases oI h
   exact⟨nofun,rfl,hf⟩
  refine sN<|qS<|cF<|qX ?_
  cases oI h
  exact⟨nofun,rfl,rfl⟩
 intro e R' B' he hq
 rcases o29 with y30|r31
 ·obtain⟨rfl,hI⟩:=hq
  refine qE<|gS rfl hI<|sT<|sN<|qR ?_
  exact oI h▸qD
 obtain⟨rfl,hf⟩:=hq
 cases oI h
 exact hf
theorem oj{a0:ac}{a1:ac}{r:Int}(h:jS a0 a1=some r):EvP prog aB ext 81 [.d (ac.pd a0),.d (ac.pd a1)] [] (rI r,[]):=by
 refine Ev.body rfl Tryz.func81 rfl (by kernel_rfl)<|gS rfl rfl<|sB (.ptr 32 0) 32 (.var (ac.rc a0))<|sB (.ptr 48 0) 48 (.var (ac.rc a1))<|sV (r0)<|sN<|qS<|gS rfl rfl<|sV (.ptr 32 0)<|sV (.d (aw.pd a0.aC))<|sV (.ptr 48 0)<|sV (.d (aw.pd a1.aC))<|bE h fun x1 hx1 h=>cD (og hx1)<|sA rfl ?_
 refine sN<|gS rfl rfl<|sM rfl<|sF h (fun h=>?_) fun h=>?_
 ·refine sN<|cT<|gS rfl rfl<|sM rfl<|sA rfl<|sN<|qR ?_
  cases oI h
  exact qG
 refine sN<|cF<|qK<|qS<|gS rfl rfl<|sV (.ptr 32 4)<|sL rfl<|sV (.ptr 48 4)<|sL rfl<|sV (.d (bL.pd (bL.mk a0.a8 a1.a8)))<|sV (.ptr 32 5)<|sL rfl<|sV (.ptr 48 5)<|sL rfl<|sV (.d (bL.pd (bL.mk a0.aP a1.aP))) ?_
 refine sV (.ptr 32 6)<|sL rfl<|sV (.ptr 48 6)<|sL rfl<|sV (.d (bL.pd (bL.mk a0.bh a1.bh)))<|sV (.ptr 32 7)<|sL rfl<|sV (.ptr 48 7)<|sL rfl<|sV (.d (bL.pd (bL.mk a0.aS a1.aS)))<|sV (.ptr 32 8)<|sL rfl<|sV (.ptr 48 8)<|sL rfl<|sV (.d (bL.pd (bL.mk a0.aT a1.aT))) ?_
 refine sG (.d (dS.pd (dS.mk (bL.mk a0.a8 a1.a8) (bL.mk a0.aP a1.aP) (bL.mk a0.bh a1.bh) (bL.mk a0.aS a1.aS) (bL.mk a0.aT a1.aT))))<|sV (r0)<|sN<|WC.block (WC.loop ?_)
 refine WL.round<|WC.kB (R0:=[(41,.d (dS.pd (dS.mk (bL.mk a0.a8 a1.a8) (bL.mk a0.aP a1.aP) (bL.mk a0.bh a1.bh) (bL.mk a0.aS a1.aS) (bL.mk a0.aT a1.aT)))),(42,r0)]) (B0:=[]) rfl rfl<|sT<|sN<|qS<|cT<|qK<|qS<|qB<|gS rfl rfl<|sV (.d (bL.pd (bL.mk a0.a8 a1.a8)))<|sB (.ptr 112 0) 112 (.var [r0,r0])<|sS 112 (.var [rI a0.a8,rI a1.a8])<|sN<|qS ?_
 refine gS rfl rfl<|sV (.ptr 112 0)<|sL rfl<|sV (.ptr 112 1)<|sL rfl<|sF h (fun h=>?_) fun h=>?_
 ·refine sN<|cT<|gS rfl rfl<|sV (rI (-1))<|sN<|qR ?_
  exact oI h▸qD
 refine sN<|cF<|qK<|gS rfl rfl<|sV (.ptr 112 0)<|sL rfl<|sV (.ptr 112 1)<|sL rfl<|sF h (fun h=>?_) fun h=>?_
 ·refine sN<|cT<|gS rfl rfl<|sV (rI 1)<|sN<|qR ?_
  exact oI h▸qD
 refine sN<|cF<|qK<|WC.region rfl rfl<|sV (rI 1)<|sM rfl<|sN<|WL.round<|WC.kB (R0:=[(41,.d (dS.pd (dS.mk (bL.mk a0.a8 a1.a8) (bL.mk a0.aP a1.aP) (bL.mk a0.bh a1.bh) (bL.mk a0.aS a1.aS) (bL.mk a0.aT a1.aT)))),(42,rI 1)]) (B0:=[]) rfl rfl<|sT<|sN<|qS<|cT<|qK<|qS ?_
 refine qB<|gS rfl rfl<|sV (.d (bL.pd (bL.mk a0.aP a1.aP)))<|sB (.ptr 112 0) 112 (.var [r0,r0])<|sS 112 (.var [rI a0.aP,rI a1.aP])<|sN<|qS<|gS rfl rfl<|sV (.ptr 112 0)<|sL rfl<|sV (.ptr 112 1)<|sL rfl<|sF h (fun h=>?_) fun h=>?_
 ·refine sN<|cT<|gS rfl rfl<|sV (rI (-1))<|sN<|qR ?_
  exact oI h▸qD
 refine sN<|cF<|qK<|gS rfl rfl<|sV (.ptr 112 0)<|sL rfl<|sV (.ptr 112 1)<|sL rfl<|sF h (fun h=>?_) fun h=>?_
 ·refine sN<|cT<|gS rfl rfl<|sV (rI 1)<|sN<|qR ?_
  exact oI h▸qD
 refine sN<|cF<|qK<|WC.region rfl rfl<|sV (rI 2)<|sM rfl<|sN<|WL.round<|WC.kB (R0:=[(41,.d (dS.pd (dS.mk (bL.mk a0.a8 a1.a8) (bL.mk a0.aP a1.aP) (bL.mk a0.bh a1.bh) (bL.mk a0.aS a1.aS) (bL.mk a0.aT a1.aT)))),(42,rI 2)]) (B0:=[]) rfl rfl<|sT<|sN<|qS<|cT<|qK<|qS ?_
 refine qB<|gS rfl rfl<|sV (.d (bL.pd (bL.mk a0.bh a1.bh)))<|sB (.ptr 112 0) 112 (.var [r0,r0])<|sS 112 (.var [rI a0.bh,rI a1.bh])<|sN<|qS<|gS rfl rfl<|sV (.ptr 112 0)<|sL rfl<|sV (.ptr 112 1)<|sL rfl<|sF h (fun h=>?_) fun h=>?_
 ·refine sN<|cT<|gS rfl rfl<|sV (rI (-1))<|sN<|qR ?_
  exact oI h▸qD
 refine sN<|cF<|qK<|gS rfl rfl<|sV (.ptr 112 0)<|sL rfl<|sV (.ptr 112 1)<|sL rfl<|sF h (fun h=>?_) fun h=>?_
 ·refine sN<|cT<|gS rfl rfl<|sV (rI 1)<|sN<|qR ?_
  exact oI h▸qD
 refine sN<|cF<|qK<|WC.region rfl rfl<|sV (rI 3)<|sM rfl<|sN<|WL.round<|WC.kB (R0:=[(41,.d (dS.pd (dS.mk (bL.mk a0.a8 a1.a8) (bL.mk a0.aP a1.aP) (bL.mk a0.bh a1.bh) (bL.mk a0.aS a1.aS) (bL.mk a0.aT a1.aT)))),(42,rI 3)]) (B0:=[]) rfl rfl<|sT<|sN<|qS<|cT<|qK<|qS ?_
 refine qB<|gS rfl rfl<|sV (.d (bL.pd (bL.mk a0.aS a1.aS)))<|sB (.ptr 112 0) 112 (.var [r0,r0])<|sS 112 (.var [rI a0.aS,rI a1.aS])<|sN<|qS<|gS rfl rfl<|sV (.ptr 112 0)<|sL rfl<|sV (.ptr 112 1)<|sL rfl<|sF h (fun h=>?_) fun h=>?_
 ·refine sN<|cT<|gS rfl rfl<|sV (rI (-1))<|sN<|qR ?_
  exact oI h▸qD
 refine sN<|cF<|qK<|gS rfl rfl<|sV (.ptr 112 0)<|sL rfl<|sV (.ptr 112 1)<|sL rfl<|sF h (fun h=>?_) fun h=>?_
 ·refine sN<|cT<|gS rfl rfl<|sV (rI 1)<|sN<|qR ?_
  exact oI h▸qD
 refine sN<|cF<|qK<|WC.region rfl rfl<|sV (rI 4)<|sM rfl<|sN<|WL.round<|WC.kB (R0:=[(41,.d (dS.pd (dS.mk (bL.mk a0.a8 a1.a8) (bL.mk a0.aP a1.aP) (bL.mk a0.bh a1.bh) (bL.mk a0.aS a1.aS) (bL.mk a0.aT a1.aT)))),(42,rI 4)]) (B0:=[]) rfl rfl<|sT<|sN<|qS<|cT<|qK<|qS ?_
 refine qB<|gS rfl rfl<|sV (.d (bL.pd (bL.mk a0.aT a1.aT)))<|sB (.ptr 112 0) 112 (.var [r0,r0])<|sS 112 (.var [rI a0.aT,rI a1.aT])<|sN<|qS<|gS rfl rfl<|sV (.ptr 112 0)<|sL rfl<|sV (.ptr 112 1)<|sL rfl<|sF h (fun h=>?_) fun h=>?_
 ·refine sN<|cT<|gS rfl rfl<|sV (rI (-1))<|sN<|qR ?_
  exact oI h▸qD
 refine sN<|cF<|qK<|gS rfl rfl<|sV (.ptr 112 0)<|sL rfl<|sV (.ptr 112 1)<|sL rfl<|sF h (fun h=>?_) fun h=>?_
 ·refine sN<|cT<|gS rfl rfl<|sV (rI 1)<|sN<|qR ?_
  exact oI h▸qD
 refine sN<|cF<|qK<|WC.region rfl rfl<|sV (rI 5)<|sM rfl<|sN<|WL.round<|WC.kB (R0:=[(41,.d (dS.pd (dS.mk (bL.mk a0.a8 a1.a8) (bL.mk a0.aP a1.aP) (bL.mk a0.bh a1.bh) (bL.mk a0.aS a1.aS) (bL.mk a0.aT a1.aT)))),(42,rI 5)]) (B0:=[]) rfl rfl<|sU<|sN<|qS<|cF<|qX<|qE ?_
 refine gS rfl rfl<|sV (r0)<|sN<|qR ?_
 exact oI h▸qD
theorem qN{a0:(List ac)}{r:(List ac)}(h:ng a0=some r):EvP prog aB ext 33 [rM ac.pd a0] [] (rM ac.pd r,[]):=by
 refine Ev.body rfl Tryz.func33 rfl (by kernel_rfl)<|gS rfl rfl<|sV .dg<|sN<|gS rfl rfl<|sV .dg<|sN<|qS<|gS rfl rfl<|sV (r0)<|sN<|bE h fun o39 ho39 h=>WC.block (WC.loop (WL.gE ho39 (fun s R' B'=>b8 prog 0 (A R' B') (aB.at_ 33 0 3)=some (A [(0,rM ac.pd a0),(3,.ref 816 0),(4,rI s.1)] [(816,.arr 0 66 (s.2.map ac.pd))])) (fun o e R' B'=>e= .exit 0∧b8 prog 0 (A R' B') (aB.at_ 33 0 12)=some (A [(3,.ref 816 0)] [(816,.arr 0 66 (o.map ac.pd))])) rfl ?_ ?_))
 ·rintro⟨s1,s2⟩ R' B' q4 hI h
  refine qS<|gS rfl hI<|sM rfl<|sM rfl<|sE (rI (a0.length:Int)) (fB _ _)<|sF h (fun h=>?_) fun h=>?_
  ·refine sN<|cT<|qK<|qS<|qB<|gS rfl rfl<|sM rfl<|WO.uT rfl rfl rfl rfl rfl rfl rfl rfl rfl<|sA rfl<|sN<|qS<|bE h fun o19 ho19 h=>WC.block (WC.loop (WL.gE ho19 (fun s R' B'=>b8 prog 0 (A R' B') (aB.at_ 33 0 6)=some (A [(0,rM ac.pd a0),(3,.ref 816 0),(4,rI s1),(5,rI s)] [(816,.arr 0 66 (s2.map ac.pd))])) (fun o e R' B'=>e= .exit 2∧b8 prog 0 (A R' B') (aB.at_ 33 0 8)=some (A [(0,rM ac.pd a0),(3,.ref 816 0),(4,rI o.1),(5,rI o.2.1)] [(816,.arr 0 66 (o.2.2.map ac.pd))])) rfl ?_ ?_))
   ·rintro s6 R' B' q10 hI h
    refine qS<|WC.cI hI rfl<|sM rfl<|sF h (fun h=>?_) fun h=>?_
    ·refine sM rfl<|sM rfl<|sM rfl<|sV (rI (rW (s6-(1:Int))))<|bE h fun x13 hx13 h=>WO.p8 hx13 rfl rfl rfl rfl rfl rfl rfl rfl<|bE h fun x14 hx14 h=>WO.pJ hx14 rfl rfl rfl rfl rfl rfl<|sM rfl<|sM rfl<|bE h fun x15 hx15 h=>eG hx15 rfl<|sV (.d (ac.pd x15))<|bE h fun x16 hx16 h=>cD (oj hx16) ?_
     refine sV (rB (decide (x16>(0:Int))))<|sF h (fun h=>?_) fun h=>?_
     ·refine sN<|sO<|cT<|qK<|qB<|WC.region rfl rfl<|sM rfl<|sV (rI (rW (s6-(1:Int))))<|sA rfl<|sN ?_
      cases oI h
      exact⟨rfl,rfl⟩
     refine sN<|sO<|cF<|qX ?_
     cases oI h
     exact⟨nofun,rfl,rfl⟩
    refine sM rfl<|k3<|k3<|k3<|sK<|sK<|sU ?_
    refine sN<|sO<|cF<|qX ?_
    cases oI h
    exact⟨nofun,rfl,rfl⟩
   intro e R' B' he hq
   obtain⟨rfl,hI⟩:=hq
   refine qE<|WC.join (α:=Unit) (fun x R' B'=>b8 prog 0 (A R' B') (aB.at_ 33 0 9)=some (A [(0,rM ac.pd a0),(3,.ref 816 0),(4,rI o19.1),(5,rI o19.2.1)] [(816,.arr 0 66 (o19.2.2.map ac.pd))])) (fun x=>gC a0 o19=some q4) ?_ ?_
   ·refine WC.cI hI rfl<|sM rfl<|sF h (fun h=>?_) fun h=>?_
    ·refine sM rfl<|sM rfl<|sM rfl<|sV (rI (rW (o19.2.1-(1:Int))))<|bE h fun x34 hx34 h=>WO.p8 hx34 rfl rfl rfl rfl rfl rfl rfl rfl<|bE h fun x35 hx35 h=>WO.pJ hx35 rfl rfl rfl rfl rfl rfl<|sM rfl<|sM rfl<|bE h fun x36 hx36 h=>eG hx36 rfl<|sV (.d (ac.pd x36))<|WO.bin (oF x35 x36) rfl rfl rfl rfl rfl<|sF h (fun h=>?_) fun h=>?_
     ·refine sN<|sO<|cT<|qX<|qE<|WC.region rfl rfl<|sM rfl<|sV (rI (rW (o19.1+(1:Int))))<|sA rfl<|sN ?_
      cases oI h
      exact⟨rfl,rfl⟩
     exact sN<|sO<|cF<|qK<|⟨(),rfl,h⟩
    refine sM rfl<|k3<|k3<|k3<|sK<|sU ?_
    exact sN<|sO<|cF<|qK<|⟨(),rfl,h⟩
   rintro⟨⟩ R' B' hI h
   refine gS rfl hI<|sM rfl<|sM rfl<|sM rfl<|bE h fun x20 hx20 h=>eG hx20 rfl<|sV (.d (ac.pd x20))<|sG (.d (.lst ([x20].map ac.pd)))<|bE h fun x21 hx21 h=>aR hx21 (fun _=>rfl) rfl<|sA rfl<|sN<|WC.cI rfl rfl<|sM rfl<|sM rfl ?_
   refine sV (rI (rW (o19.2.1+(1:Int))))<|bE h fun x22 hx22 h=>WO.subR hx22 rfl rfl rfl rfl rfl rfl rfl rfl rfl rfl rfl rfl<|sM rfl<|sM rfl<|bE h fun x23 hx23 h=>WO.subR hx23 rfl rfl rfl rfl rfl rfl rfl rfl rfl rfl rfl rfl<|bE h fun x24 hx24 h=>bE h fun x25 hx25 h=>WO.copyG rfl rfl rfl rfl rfl rfl rfl rfl (AS hx24 rfl) (src_view hx25 rfl) rfl rfl (fun _=>rfl) ?_
   refine sN<|sO<|WC.region rfl rfl<|sM rfl<|sM rfl<|sM rfl<|sM rfl<|bE h fun x27 hx27 h=>eG hx27 rfl<|sV (.d (ac.pd x27))<|bE h fun x29 hx29 h=>WO.p8 hx29 rfl rfl rfl rfl rfl rfl rfl rfl<|bE h fun x30 hx30 h=>WO.ss (g:=ac.pd) (sz:=9) (p:=ac.pd x27) hx30 (by intro _;kernel_rfl) (by intro _;kernel_rfl) rfl rfl rfl rfl rfl rfl rfl rfl rfl<|sN<|WC.region rfl rfl ?_
   refine sM rfl<|sV (rI (rW (o19.1+(1:Int))))<|sA rfl<|sN ?_
   cases oI h
   exact⟨rfl,rfl⟩
  refine sN<|cF<|qX ?_
  cases oI h
  exact⟨nofun,rfl,rfl⟩
 intro e R' B' he hq
 obtain⟨rfl,hI⟩:=hq
 refine qE<|gS rfl hI<|sM rfl<|sA rfl<|sN<|qR ?_
 exact oI h▸qD
theorem qu{a0:(List Int)}{r:Bool}(h:lx a0=some r):EvP prog aB ext 8 [rL a0] [] (rB r,[]):=by
 refine Ev.body rfl Tryz.func8 rfl (by kernel_rfl)<|gS rfl rfl<|sU<|sN<|gS rfl rfl<|sM rfl<|bE h fun x1 hx1 h=>cR (.ptr 352 0) [(352,.var (ae.rc x1))] (lX hx1)<|sA rfl<|sN<|gS rfl rfl<|sM rfl<|bE h fun x2 hx2 h=>cR (.d (ak.pd x2.1)) [(352,.var (ae.rc x2.2))] (ig hx2)<|sM rfl ?_
 refine bE h fun x3 hx3 h=>cR (.d (aq.pd x3.1)) [(352,.var (ae.rc x3.2))] (kL hx3)<|sB (.ptr 64 0) 64 (.var zZ0)<|sB (.ptr 80 0) 80 (.var [.dg])<|sH 64 (.var (ak.rc x2.1))<|sS 80 (.var [rM ar.pd x3.1.aI])<|sN<|gS rfl rfl<|sM rfl<|sV (.d (ak.pd x2.1))<|sV (.d (.agg [.lst (x3.1.aI.map ar.pd)]))<|bE h fun x4 hx4 h=>cR (rM ac.pd x4.1) [(352,.var (ae.rc x4.2))] (ou hx4)<|sA rfl<|sN ?_
 refine gS rfl rfl<|sV (.d (ak.pd x2.1))<|sV (.d (.agg [.lst (x3.1.aI.map ar.pd)]))<|sM rfl<|bE h fun x5 hx5 h=>cR (.tup [rM az.pd x5.1,rM ac.pd x5.2.1,rI x5.2.2]) [] (fb hx5)<|sM rfl<|sV (rM az.pd x5.1)<|sV (rM ac.pd x5.2.1)<|sV (rI x5.2.2)<|sA rfl<|sA rfl<|sA rfl<|sN<|qS ?_
 refine gS rfl rfl<|sM rfl<|sF h (fun h=>?_) fun h=>?_
 ·refine sM rfl<|k3<|sT<|sN<|cT<|gS rfl rfl<|sM rfl<|sF h (fun h=>?_) fun h=>?_
  ·refine sM rfl<|bE h fun x8 hx8 h=>cD (gy hx8)<|sV (rB x8)<|sA rfl<|sN<|qR ?_
   cases oI h
   exact qG
  refine sM rfl<|sK<|sU<|sA rfl<|sN<|qR ?_
  cases oI h
  exact qG
 refine sM rfl<|sM rfl<|bE h fun x9 hx9 h=>cD (event_Valid_ev hx9)<|sV (rB (!x9))<|sF h (fun h=>?_) fun h=>?_
 ·refine sN<|cT<|gS rfl rfl<|sM rfl<|sF h (fun h=>?_) fun h=>?_
  ·refine sM rfl<|bE h fun x12 hx12 h=>cD (gy hx12)<|sV (rB x12)<|sA rfl<|sN<|qR ?_
   cases oI h
   exact qG
  refine sM rfl<|sK<|sU<|sA rfl<|sN<|qR ?_
  cases oI h
  exact qG
 refine sN<|cF<|qK<|qS<|gS rfl rfl<|sM rfl<|bE h fun x13 hx13 h=>cD (qN hx13)<|sE (rI (x13.length:Int)) (fB _ _)<|sV (r0)<|sN<|bE h fun o56 ho56 h=>WC.block (WC.loop (WL.gE ho56 (fun s R' B'=>b8 prog 0 (A R' B') (aB.at_ 8 0 8)=some (A [(4,.ptr 64 0),(5,.ptr 80 0),(7,rM az.pd x5.1),(8,rM ac.pd x5.2.1),(52,rM ac.pd x13),(53,rI (x13.length:Int)),(54,rI s)] [(64,.var (ak.rc x2.1)),(80,.var [rM ar.pd x3.1.aI])])) (fun o e R' B'=>match o with| .inl y=>e= .exit 0∧b8 prog 0 (A R' B') (aB.at_ 8 0 33)=some (A [] [])| .inr r=>e= .ret∧finish prog (aB.own 8) Tryz.f8 0 (A R' B')=some (rB r,[])) rfl ?_ ?_))
 ·rintro s14 R' B' q15 hI h
  refine gS rfl hI<|sF h (fun h=>?_) fun h=>?_
  ·refine sN<|qS<|cT<|qK<|qS<|qB<|gS rfl rfl<|bE h fun x17 hx17 h=>eG hx17 rfl<|sV (.d (ac.pd x17))<|sB (.ptr 176 0) 176 (.var zZ3)<|sH 176 (.var (ac.rc x17))<|sN<|gS rfl rfl<|sV (r0) ?_
   refine sN<|qS<|gS rfl rfl<|sM rfl<|sE (rI (x5.1.length:Int)) (fB _ _)<|sV (r0)<|sN<|bE h fun o39 ho39 h=>WC.block (WC.loop (WL.gE ho39 (fun s R' B'=>b8 prog 0 (A R' B') (aB.at_ 8 0 12)=some (A [(4,.ptr 64 0),(5,.ptr 80 0),(7,rM az.pd x5.1),(8,rM ac.pd x5.2.1),(11,.ptr 176 0),(12,rI s.1),(52,rM ac.pd x13),(53,rI (x13.length:Int)),(54,rI s.2.1),(58,rM az.pd x5.1),(59,rI (x5.1.length:Int)),(60,rI s.2.2)] [(64,.var (ak.rc x2.1)),(80,.var [rM ar.pd x3.1.aI]),(176,.var (ac.rc x17))])) (fun o e R' B'=>match o with| .inl y=>e= .exit 2∧b8 prog 0 (A R' B') (aB.at_ 8 0 23)=some (A [(4,.ptr 64 0),(5,.ptr 80 0),(7,rM az.pd x5.1),(8,rM ac.pd x5.2.1),(11,.ptr 176 0),(12,rI y.1),(52,rM ac.pd x13),(53,rI (x13.length:Int)),(54,rI y.2)] [(64,.var (ak.rc x2.1)),(80,.var [rM ar.pd x3.1.aI]),(176,.var (ac.rc x17))])| .inr r=>e= .ret∧finish prog (aB.own 8) Tryz.f8 0 (A R' B')=some (rB r,[])) rfl ?_ ?_))
   ·rintro⟨s18,s19,s20⟩ R' B' q23 hI h
    refine gS rfl hI<|sF h (fun h=>?_) fun h=>?_
    ·refine sN<|qS<|cT<|qK<|qS<|qB<|gS rfl rfl<|bE h fun x25 hx25 h=>eG hx25 rfl<|sV (.d (az.pd x25))<|sB (.ptr 224 0) 224 (.var [rS [],rS [],rS [],rS [],r0,r0,r0,r0,r0,.dg,r0,r0,r0,r0,r0,r0,r0,r0,r0,r0,r0,r0,r0,r0,r0])<|sH 224 (.var (az.rc x25))<|sN<|qS<|gS rfl rfl ?_
     refine sV (.ptr 224 9)<|sV (.ptr 224 9)<|sL rfl<|sE (rI (x25.ap.bo.length:Int)) (fB _ _)<|sV (.ptr 64 0)<|sV (.ptr 64 13)<|sL rfl<|sF h (fun h=>?_) fun h=>?_
     ·refine sN<|cT<|gS rfl rfl<|sU<|sN<|qR ?_
      cases oI h
      exact⟨nofun,rfl,rfl⟩
     refine sN<|cF<|qK<|gS rfl rfl<|sV (.ptr 224 9)<|sV (.ptr 224 9)<|sL rfl<|sE (rI (x25.ap.bo.length:Int)) (fB _ _)<|sV (r0)<|sN<|bE h fun o37 ho37 h=>WC.block (WC.loop (WL.gE ho37 (fun s R' B'=>b8 prog 0 (A R' B') (aB.at_ 8 0 17)=some (A [(4,.ptr 64 0),(5,.ptr 80 0),(7,rM az.pd x5.1),(8,rM ac.pd x5.2.1),(11,.ptr 176 0),(12,rI s.1),(52,rM ac.pd x13),(53,rI (x13.length:Int)),(54,rI s19),(58,rM az.pd x5.1),(59,rI (x5.1.length:Int)),(60,rI s20),(74,rM ac.pd x25.ap.bo),(75,rI (x25.ap.bo.length:Int)),(76,rI s.2)] [(64,.var (ak.rc x2.1)),(80,.var [rM ar.pd x3.1.aI]),(176,.var (ac.rc x17))])) (fun o e R' B'=>e= .exit 4∧b8 prog 0 (A R' B') (aB.at_ 8 0 22)=some (A [(4,.ptr 64 0),(5,.ptr 80 0),(7,rM az.pd x5.1),(8,rM ac.pd x5.2.1),(11,.ptr 176 0),(12,rI o.1),(52,rM ac.pd x13),(53,rI (x13.length:Int)),(54,rI o.2.1),(58,rM az.pd x5.1),(59,rI (x5.1.length:Int)),(60,rI o.2.2)] [(64,.var (ak.rc x2.1)),(80,.var [rM ar.pd x3.1.aI]),(176,.var (ac.rc x17))])) rfl ?_ ?_))
     ·rintro⟨s27,s28⟩ R' B' q32 hI h
      refine gS rfl hI<|sF h (fun h=>?_) fun h=>?_
      ·refine sN<|qS<|cT<|qK<|qS<|qB<|gS rfl rfl<|bE h fun x34 hx34 h=>eG hx34 rfl<|sV (.d (ac.pd x34))<|sB (.ptr 256 0) 256 (.var zZ3)<|sH 256 (.var (ac.rc x34))<|sN<|gS rfl rfl<|sV (.d (ac.pd x34)) ?_
       refine sV (.d (ac.pd x17))<|nX h (fun hb35 h=>?_) (fun hb35 h=>?_)
       ·refine WO.vW (oF x34 x17) hb35 rfl rfl rfl rfl rfl<|sN<|cT<|WC.region rfl rfl<|sM rfl<|sV (rI (rW (s27+(1:Int))))<|sA rfl<|sN<|WC.region rfl rfl<|sV (rI (rW (s28+(1:Int))))<|sM rfl<|sN ?_
        cases oI h
        exact⟨rfl,rfl⟩
       refine WO.vW (oF x34 x17) hb35 rfl rfl rfl rfl rfl<|sN<|cF<|qK<|WC.region rfl rfl<|sV (rI (rW (s28+(1:Int))))<|sM rfl<|sN ?_
       cases oI h
       exact⟨rfl,rfl⟩
      refine sN<|qS<|cF<|qX ?_
      cases oI h
      exact⟨nofun,rfl,rfl⟩
     intro e R' B' he hq
     obtain⟨rfl,hI⟩:=hq
     refine qE<|WC.region hI rfl<|sV (rI (rW (o37.2.2+(1:Int))))<|sM rfl<|sN ?_
     cases oI h
     exact⟨rfl,rfl⟩
    refine sN<|qS<|cF<|qX ?_
    cases oI h
    exact⟨nofun,rfl,rfl⟩
   intro e R' B' he hq
   rcases o39 with y40|r41
   ·obtain⟨rfl,hI⟩:=hq
    refine qE<|qS<|gS rfl hI<|sM rfl<|sE (rI (x5.2.1.length:Int)) (fB _ _)<|sV (r0)<|sN<|bE h fun o50 ho50 h=>WC.block (WC.loop (WL.gE ho50 (fun s R' B'=>b8 prog 0 (A R' B') (aB.at_ 8 0 24)=some (A [(4,.ptr 64 0),(5,.ptr 80 0),(7,rM az.pd x5.1),(8,rM ac.pd x5.2.1),(11,.ptr 176 0),(12,rI s.1),(52,rM ac.pd x13),(53,rI (x13.length:Int)),(54,rI y40.2),(87,rM ac.pd x5.2.1),(88,rI (x5.2.1.length:Int)),(89,rI s.2)] [(64,.var (ak.rc x2.1)),(80,.var [rM ar.pd x3.1.aI]),(176,.var (ac.rc x17))])) (fun o e R' B'=>e= .exit 6∧b8 prog 0 (A R' B') (aB.at_ 8 0 29)=some (A [(4,.ptr 64 0),(5,.ptr 80 0),(7,rM az.pd x5.1),(8,rM ac.pd x5.2.1),(11,.ptr 176 0),(12,rI o),(52,rM ac.pd x13),(53,rI (x13.length:Int)),(54,rI y40.2)] [(64,.var (ak.rc x2.1)),(80,.var [rM ar.pd x3.1.aI]),(176,.var (ac.rc x17))])) rfl ?_ ?_))
    ·rintro⟨s42,s43⟩ R' B' q45 hI h
     refine gS rfl hI<|sF h (fun h=>?_) fun h=>?_
     ·refine sN<|qS<|cT<|qK<|qS<|qB<|gS rfl rfl<|bE h fun x47 hx47 h=>eG hx47 rfl<|sV (.d (ac.pd x47))<|sB (.ptr 288 0) 288 (.var zZ3)<|sH 288 (.var (ac.rc x47))<|sN<|gS rfl rfl<|sV (.d (ac.pd x47)) ?_
      refine sV (.d (ac.pd x17))<|nX h (fun hb48 h=>?_) (fun hb48 h=>?_)
      ·refine WO.vW (oF x47 x17) hb48 rfl rfl rfl rfl rfl<|sN<|cT<|WC.region rfl rfl<|sM rfl<|sV (rI (rW (s42+(1:Int))))<|sA rfl<|sN<|WC.region rfl rfl<|sV (rI (rW (s43+(1:Int))))<|sM rfl<|sN ?_
       cases oI h
       exact⟨rfl,rfl⟩
      refine WO.vW (oF x47 x17) hb48 rfl rfl rfl rfl rfl<|sN<|cF<|qK<|WC.region rfl rfl<|sV (rI (rW (s43+(1:Int))))<|sM rfl<|sN ?_
      cases oI h
      exact⟨rfl,rfl⟩
     refine sN<|qS<|cF<|qX ?_
     cases oI h
     exact⟨nofun,rfl,rfl⟩
    intro e R' B' he hq
    obtain⟨rfl,hI⟩:=hq
    refine qE<|gS rfl hI<|sV (.d (ak.pd x2.1))<|sV (.d (.agg [.lst (x3.1.aI.map ar.pd)]))<|sV (.d (ac.pd x17))<|bE h fun x51 hx51 h=>cR (.tup [.d (al.pd x51.1),rB x51.2]) [] (nj hx51)<|sM rfl<|sV (.d (al.pd x51.1))<|sV (rB x51.2)<|sB (.ptr 304 0) 304 (.var zZ5)<|sH 304 (.var (al.rc x51.1))<|sA rfl<|sN<|gS rfl rfl ?_
    refine sM rfl<|sM rfl<|sV (rB (o50==(1:Int)))<|sF h (fun h=>?_) fun h=>?_
    ·refine sM rfl<|k3<|k3<|sT<|sN<|cT<|gS rfl rfl<|sU<|sN<|qR ?_
     cases oI h
     exact⟨nofun,rfl,rfl⟩
    refine sM rfl<|sM rfl<|sF h (fun h=>?_) fun h=>?_
    ·refine sM rfl<|sM rfl<|sV (rB (decide (o50>(0:Int))))<|sV (rB (decide (o50>(0:Int))))<|sF h (fun h=>?_) fun h=>?_
     ·refine sN<|cT<|gS rfl rfl<|sU<|sN<|qR ?_
      cases oI h
      exact⟨nofun,rfl,rfl⟩
     refine sN<|cF<|qK<|WC.region rfl rfl<|sV (rI (rW (y40.2+(1:Int))))<|sM rfl<|sN ?_
     cases oI h
     exact⟨rfl,rfl⟩
    refine sM rfl<|sK<|sK<|sU<|sU<|sN<|cF<|qK<|WC.region rfl rfl<|sV (rI (rW (y40.2+(1:Int))))<|sM rfl<|sN ?_
    cases oI h
    exact⟨rfl,rfl⟩
   obtain⟨rfl,hf⟩:=hq
   cases oI h
   exact⟨nofun,rfl,hf⟩
  refine sN<|qS<|cF<|qX ?_
  cases oI h
  exact⟨nofun,rfl,rfl⟩
 intro e R' B' he hq
 rcases o56 with y57|r58
 ·obtain⟨rfl,hI⟩:=hq
  refine qE<|gS rfl hI<|bE h fun x59 hx59 h=>cD (gy hx59)<|sA rfl<|sN<|qR ?_
  exact oI h▸qD
 obtain⟨rfl,hf⟩:=hq
 cases oI h
 exact hf
end Go.Dw.Et
