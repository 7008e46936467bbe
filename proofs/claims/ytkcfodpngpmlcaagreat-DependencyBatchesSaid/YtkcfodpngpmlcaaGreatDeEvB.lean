
import Derived.Test.YtkcfodpngpmlcaaGreatDeEvA

set_option maxRecDepth 100000
set_option maxHeartbeats 4000000
namespace Go.Dw.De
open Go.Proofs Go.Proofs.Tryz Go.Dw
theorem uO {a0 : aq} {r : Bool} (h : cm a0 = some r) : EvP prog aw ext 205 [.d (aq.pd a0)] [] (rB r, []) := by
 refine Ev.body rfl Tryz.func205 rfl (by kernel_rfl)<|gS rfl rfl<|sB (.ptr 16 0) 16 (.var (aq.rc a0))<|sU<|sN<|gS rfl rfl<|sV (.ptr 16 7)<|sL rfl<|sE (rI (a0.bc.length : Int)) (b8 _ _)<|sF h (fun h => ?_) fun h => ?_
 ·refine sM rfl<|sV (.ptr 16 8)<|sL rfl<|sV (rB (a0.aX == (0 : Int)))<|sF h (fun h => ?_) fun h => ?_
  ·refine sM rfl<|sV (.ptr 16 9)<|sL rfl<|sV (rB (a0.bi == (0 : Int)))<|sV (rB (a0.bi == (0 : Int)))<|sA rfl<|sN<|qS<|gS rfl rfl<|sV (.ptr 16 0)<|sL rfl<|sN<|qB<|gS rfl rfl<|sF h (fun h => ?_) fun h => ?_
   ·refine sA rfl<|sN<|cT<|gS rfl rfl<|sF h (fun h => ?_) fun h => ?_
    ·refine sM rfl<|sV (.ptr 16 1)<|sV (.d (aV.pd a0.aU))<|sV (.ptr 16 1)<|sV (.ptr 16 1)<|sL rfl<|sV (.d (aV.pd (aV.mk a0.aU.a0 0 0)))<|WO.bin (eZ a0.aU (aV.mk a0.aU.a0 0 0)) rfl rfl rfl rfl rfl<|sF h (fun h => ?_) fun h => ?_
     ·refine sM rfl<|sV (.ptr 16 4)<|sV (.d (aV.pd a0.aS))<|sV (.ptr 16 4)<|sV (.ptr 16 4)<|sL rfl<|sV (.d (aV.pd (aV.mk a0.aS.a0 0 0)))<|WO.bin (eZ a0.aS (aV.mk a0.aS.a0 0 0)) rfl rfl rfl rfl rfl<|sF h (fun h => ?_) fun h => ?_
      ·refine sM rfl<|sV (.ptr 16 1)<|sV (.ptr 16 1)<|sL rfl<|bE h fun x7 hx7 h => cD (cU hx7)<|sF h (fun h => ?_) fun h => ?_
       ·refine sM rfl<|sV (.ptr 16 4)<|sV (.ptr 16 4)<|sL rfl<|bE h fun x9 hx9 h => cD (cU hx9)<|sV (rB x9)<|sA rfl<|sN<|qR ?_
        cases oI h
        exact qG
       refine sM rfl<|k3<|sK<|sU<|sA rfl<|sN<|qR ?_
       cases oI h
       exact qG
      refine sM rfl<|k3<|sK<|sU<|sM rfl<|k3<|sK<|sU<|sA rfl<|sN<|qR ?_
      cases oI h
      exact qG
     refine sM rfl<|k3<|k3<|sK<|sU<|sM rfl<|k3<|sK<|sU ?_
     refine sM rfl<|k3<|sK<|sU<|sA rfl<|sN<|qR ?_
     cases oI h
     exact qG
    refine sM rfl<|k3<|k3<|sK<|sU<|sM rfl<|k3<|sK<|sK ?_
    refine sK<|sK<|sU<|sM rfl<|k3<|sK<|sU<|sM rfl<|k3<|sK<|sU ?_
    refine sA rfl<|sN<|qR ?_
    cases oI h
    exact qG
   refine sA rfl<|sN<|cF<|gS rfl rfl<|sF h (fun h => ?_) fun h => ?_
   ·refine sA rfl<|sN<|cT<|WC.eC (R0 := [(1, .cptr [.int .i64 a0.br, .int .i64 a0.aU.a0, .int .i64 a0.aU.a1, .int .i64 a0.aU.a2, .int .i64 a0.aS.a0, .int .i64 a0.aS.a1, .int .i64 a0.aS.a2, .lst (a0.bc.map (PD.int .i64)), .int .i64 a0.aX, .int .i64 a0.bi]), (3, rB (a0.bi == (0 : Int)))]) (B0 := []) rfl rfl<|sF h (fun h => ?_) fun h => ?_
    ·refine sM rfl<|sV (.cptr [.int .i64 a0.aU.a0, .int .i64 a0.aU.a1, .int .i64 a0.aU.a2, .int .i64 a0.aS.a0, .int .i64 a0.aS.a1, .int .i64 a0.aS.a2, .lst (a0.bc.map (PD.int .i64)), .int .i64 a0.aX, .int .i64 a0.bi])<|sV (.d (.lst ([a0.aU.a0, a0.aU.a1, a0.aU.a2].map (PD.int .i64))))<|bE h fun x12 hx12 h => cD (ja hx12)<|sF h (fun h => ?_) fun h => ?_
     ·refine sM rfl<|sV (.cptr [.int .i64 a0.aS.a0, .int .i64 a0.aS.a1, .int .i64 a0.aS.a2, .lst (a0.bc.map (PD.int .i64)), .int .i64 a0.aX, .int .i64 a0.bi])<|sV (.d (.lst ([a0.aS.a0, a0.aS.a1, a0.aS.a2].map (PD.int .i64))))<|bE h fun x14 hx14 h => cD (ja hx14)<|sF h (fun h => ?_) fun h => ?_
      ·refine sM rfl<|sV (.cptr [.int .i64 a0.aS.a0, .int .i64 a0.aS.a1, .int .i64 a0.aS.a2, .lst (a0.bc.map (PD.int .i64)), .int .i64 a0.aX, .int .i64 a0.bi])<|sV (.cptr [.int .i64 a0.aS.a0, .int .i64 a0.aS.a1, .int .i64 a0.aS.a2, .lst (a0.bc.map (PD.int .i64)), .int .i64 a0.aX, .int .i64 a0.bi])<|sC rfl<|sV (rB (a0.aS.a0 != (0 : Int)))<|sV (rB (a0.aS.a0 != (0 : Int)))<|sA rfl<|sN<|qR ?_
       exact oI h▸qD
      refine sM rfl<|k3<|sK<|sU<|sA rfl<|sN<|qR ?_
      exact oI h▸qD
     refine sM rfl<|k3<|sU<|sM rfl<|k3<|sK<|sU<|sA rfl<|sN<|qR ?_
     exact oI h▸qD
    refine sM rfl<|k3<|sU<|sM rfl<|k3<|sU<|sM rfl<|k3<|sK ?_
    refine sU<|sA rfl<|sN<|qR ?_
    exact oI h▸qD
   refine sA rfl<|sN<|cF<|gS rfl rfl<|sF h (fun h => ?_) fun h => ?_
   ·refine sA rfl<|sN<|cT<|gS rfl rfl<|sV (.ptr 16 1)<|sV (.d (aV.pd a0.aU))<|sV (.d (aV.pd (aV.mk 0 0 0)))<|cY h (fun hb17 h => ?_) (fun hb17 h => ?_)
    ·refine WO.gu (eZ a0.aU (aV.mk 0 0 0)) hb17 rfl rfl rfl rfl rfl<|sM rfl<|sV (.ptr 16 4)<|sV (.d (aV.pd a0.aS))<|sV (.d (aV.pd (aV.mk 0 0 0)))<|WO.bin (eZ a0.aS (aV.mk 0 0 0)) rfl rfl rfl rfl rfl<|sF h (fun h => ?_) fun h => ?_
     ·refine sM rfl<|sV (.ptr 16 7)<|sL rfl<|sE (rI (a0.bc.length : Int)) (b8 _ _)<|bE h fun x19 hx19 h => cD (cU hx19)<|sF h (fun h => ?_) fun h => ?_
      ·refine sM rfl<|sV (.ptr 16 7)<|sL rfl<|bE h fun x21 hx21 h => cD (ja hx21)<|sF h (fun h => ?_) fun h => ?_
       ·refine sM rfl<|sV (.ptr 16 7)<|sL rfl<|bE h fun x23 hx23 h => cD (rf hx23)<|sV (rB (x23 != (0 : Int)))<|sF h (fun h => ?_) fun h => ?_
        ·refine sM rfl<|sV (.ptr 16 8)<|sL rfl<|bE h fun x25 hx25 h => cD (cU hx25)<|sF h (fun h => ?_) fun h => ?_
         ·refine sM rfl<|sV (.ptr 16 9)<|sL rfl<|bE h fun x27 hx27 h => cD (cU hx27)<|sV (rB x27)<|sA rfl<|sN<|qR ?_
          cases oI h
          exact qG
         refine sM rfl<|k3<|sU<|sA rfl<|sN<|qR ?_
         cases oI h
         exact qG
        refine sM rfl<|k3<|sU<|sM rfl<|k3<|sU<|sA rfl<|sN<|qR ?_
        cases oI h
        exact qG
       refine sM rfl<|k3<|sK<|sU<|sM rfl<|k3<|sU<|sM rfl<|sK<|sK<|sK ?_
       refine sU<|sA rfl<|sN<|qR ?_
       cases oI h
       exact qG
      refine sM rfl<|k3<|sU<|sM rfl<|k3<|sK<|sU<|sM rfl<|sK<|sK<|sK ?_
      refine sU<|sM rfl<|k3<|sU<|sA rfl<|sN<|qR ?_
      cases oI h
      exact qG
     refine sM rfl<|k3<|sK<|sU<|sM rfl<|k3<|sU<|sM rfl<|sK<|sK<|sK ?_
     refine sK<|sU<|sM rfl<|k3<|sU<|sM rfl<|k3<|sU<|sA rfl<|sN<|qR ?_
     cases oI h
     exact qG
    refine WO.gu (eZ a0.aU (aV.mk 0 0 0)) hb17 rfl rfl rfl rfl rfl<|sM rfl<|k3<|sK<|sU<|sM rfl<|k3<|sK<|sU<|sM rfl<|sK ?_
    refine sK<|sK<|sU<|sM rfl<|k3<|sK<|sU<|sM rfl<|k3<|sU<|sM rfl ?_
    refine k3<|sU<|sA rfl<|sN<|qR ?_
    cases oI h
    exact qG
   refine sA rfl<|sN<|cF<|qK<|gS rfl rfl<|sU<|sN<|qR ?_
   cases oI h
   exact qG
  refine sM rfl<|k3<|sU<|sA rfl<|sN<|qS<|gS rfl rfl<|sV (.ptr 16 0)<|sL rfl<|sN<|qB<|gS rfl rfl<|sF h (fun h => ?_) fun h => ?_
  ·refine sA rfl<|sN<|cT<|gS rfl rfl<|sM rfl<|sM rfl<|k3<|k3<|sK<|sU<|sM rfl ?_
   refine k3<|k3<|sK<|sU<|sM rfl<|k3<|sK<|sU<|sM rfl ?_
   refine k3<|sK<|sU<|sA rfl<|sN<|qR ?_
   cases oI h
   exact qG
  refine sA rfl<|sN<|cF<|gS rfl rfl<|sF h (fun h => ?_) fun h => ?_
  ·refine sA rfl<|sN<|cT<|WC.eC (R0 := [(1, .cptr [.int .i64 a0.br, .int .i64 a0.aU.a0, .int .i64 a0.aU.a1, .int .i64 a0.aU.a2, .int .i64 a0.aS.a0, .int .i64 a0.aS.a1, .int .i64 a0.aS.a2, .lst (a0.bc.map (PD.int .i64)), .int .i64 a0.aX, .int .i64 a0.bi]), (3, rB false)]) (B0 := []) rfl rfl<|sM rfl<|sM rfl<|k3<|sU<|sM rfl<|k3<|sU ?_
   refine sM rfl<|k3<|sK<|sU<|sA rfl<|sN<|qR ?_
   exact oI h▸qD
  refine sA rfl<|sN<|cF<|gS rfl rfl<|sF h (fun h => ?_) fun h => ?_
  ·refine sA rfl<|sN<|cT<|gS rfl rfl<|sV (.ptr 16 1)<|sV (.d (aV.pd a0.aU))<|sV (.d (aV.pd (aV.mk 0 0 0)))<|cY h (fun hb31 h => ?_) (fun hb31 h => ?_)
   ·refine WO.gu (eZ a0.aU (aV.mk 0 0 0)) hb31 rfl rfl rfl rfl rfl<|sM rfl<|sV (.ptr 16 4)<|sV (.d (aV.pd a0.aS))<|sV (.d (aV.pd (aV.mk 0 0 0)))<|WO.bin (eZ a0.aS (aV.mk 0 0 0)) rfl rfl rfl rfl rfl<|sF h (fun h => ?_) fun h => ?_
    ·refine sM rfl<|sV (.ptr 16 7)<|sL rfl<|sE (rI (a0.bc.length : Int)) (b8 _ _)<|bE h fun x33 hx33 h => cD (cU hx33)<|sF h (fun h => ?_) fun h => ?_
     ·refine sM rfl<|sV (.ptr 16 7)<|sL rfl<|bE h fun x35 hx35 h => cD (ja hx35)<|sF h (fun h => ?_) fun h => ?_
      ·refine sM rfl<|sV (.ptr 16 7)<|sL rfl<|bE h fun x37 hx37 h => cD (rf hx37)<|sV (rB (x37 != (0 : Int)))<|sF h (fun h => ?_) fun h => ?_
       ·refine sM rfl<|sV (.ptr 16 8)<|sL rfl<|bE h fun x39 hx39 h => cD (cU hx39)<|sF h (fun h => ?_) fun h => ?_
        ·refine sM rfl<|sV (.ptr 16 9)<|sL rfl<|bE h fun x41 hx41 h => cD (cU hx41)<|sV (rB x41)<|sA rfl<|sN<|qR ?_
         cases oI h
         exact qG
        refine sM rfl<|k3<|sU<|sA rfl<|sN<|qR ?_
        cases oI h
        exact qG
       refine sM rfl<|k3<|sU<|sM rfl<|k3<|sU<|sA rfl<|sN<|qR ?_
       cases oI h
       exact qG
      refine sM rfl<|k3<|sK<|sU<|sM rfl<|k3<|sU<|sM rfl<|sK<|sK<|sK ?_
      refine sU<|sA rfl<|sN<|qR ?_
      cases oI h
      exact qG
     refine sM rfl<|k3<|sU<|sM rfl<|k3<|sK<|sU<|sM rfl<|sK<|sK<|sK ?_
     refine sU<|sM rfl<|k3<|sU<|sA rfl<|sN<|qR ?_
     cases oI h
     exact qG
    refine sM rfl<|k3<|sK<|sU<|sM rfl<|k3<|sU<|sM rfl<|sK<|sK<|sK ?_
    refine sK<|sU<|sM rfl<|k3<|sU<|sM rfl<|k3<|sU<|sA rfl<|sN<|qR ?_
    cases oI h
    exact qG
   refine WO.gu (eZ a0.aU (aV.mk 0 0 0)) hb31 rfl rfl rfl rfl rfl<|sM rfl<|k3<|sK<|sU<|sM rfl<|k3<|sK<|sU<|sM rfl<|sK ?_
   refine sK<|sK<|sU<|sM rfl<|k3<|sK<|sU<|sM rfl<|k3<|sU<|sM rfl ?_
   refine k3<|sU<|sA rfl<|sN<|qR ?_
   cases oI h
   exact qG
  refine sA rfl<|sN<|cF<|qK<|gS rfl rfl<|sU<|sN<|qR ?_
  cases oI h
  exact qG
 refine sM rfl<|k3<|sU<|sM rfl<|k3<|sU<|sA rfl<|sN<|qS<|gS rfl rfl<|sV (.ptr 16 0) ?_
 refine sL rfl<|sN<|qB<|gS rfl rfl<|sF h (fun h => ?_) fun h => ?_
 ·refine sA rfl<|sN<|cT<|gS rfl rfl<|sM rfl<|sM rfl<|k3<|k3<|sK<|sU<|sM rfl ?_
  refine k3<|k3<|sK<|sU<|sM rfl<|k3<|sK<|sU<|sM rfl ?_
  refine k3<|sK<|sU<|sA rfl<|sN<|qR ?_
  cases oI h
  exact qG
 refine sA rfl<|sN<|cF<|gS rfl rfl<|sF h (fun h => ?_) fun h => ?_
 ·refine sA rfl<|sN<|cT<|WC.eC (R0 := [(1, .cptr [.int .i64 a0.br, .int .i64 a0.aU.a0, .int .i64 a0.aU.a1, .int .i64 a0.aU.a2, .int .i64 a0.aS.a0, .int .i64 a0.aS.a1, .int .i64 a0.aS.a2, .lst (a0.bc.map (PD.int .i64)), .int .i64 a0.aX, .int .i64 a0.bi]), (3, rB false)]) (B0 := []) rfl rfl<|sM rfl<|sM rfl<|k3<|sU<|sM rfl<|k3<|sU ?_
  refine sM rfl<|k3<|sK<|sU<|sA rfl<|sN<|qR ?_
  exact oI h▸qD
 refine sA rfl<|sN<|cF<|gS rfl rfl<|sF h (fun h => ?_) fun h => ?_
 ·refine sA rfl<|sN<|cT<|gS rfl rfl<|sV (.ptr 16 1)<|sV (.d (aV.pd a0.aU))<|sV (.d (aV.pd (aV.mk 0 0 0)))<|cY h (fun hb45 h => ?_) (fun hb45 h => ?_)
  ·refine WO.gu (eZ a0.aU (aV.mk 0 0 0)) hb45 rfl rfl rfl rfl rfl<|sM rfl<|sV (.ptr 16 4)<|sV (.d (aV.pd a0.aS))<|sV (.d (aV.pd (aV.mk 0 0 0)))<|WO.bin (eZ a0.aS (aV.mk 0 0 0)) rfl rfl rfl rfl rfl<|sF h (fun h => ?_) fun h => ?_
   ·refine sM rfl<|sV (.ptr 16 7)<|sL rfl<|sE (rI (a0.bc.length : Int)) (b8 _ _)<|bE h fun x47 hx47 h => cD (cU hx47)<|sF h (fun h => ?_) fun h => ?_
    ·refine sM rfl<|sV (.ptr 16 7)<|sL rfl<|bE h fun x49 hx49 h => cD (ja hx49)<|sF h (fun h => ?_) fun h => ?_
     ·refine sM rfl<|sV (.ptr 16 7)<|sL rfl<|bE h fun x51 hx51 h => cD (rf hx51)<|sV (rB (x51 != (0 : Int)))<|sF h (fun h => ?_) fun h => ?_
      ·refine sM rfl<|sV (.ptr 16 8)<|sL rfl<|bE h fun x53 hx53 h => cD (cU hx53)<|sF h (fun h => ?_) fun h => ?_
       ·refine sM rfl<|sV (.ptr 16 9)<|sL rfl<|bE h fun x55 hx55 h => cD (cU hx55)<|sV (rB x55)<|sA rfl<|sN<|qR ?_
        cases oI h
        exact qG
       refine sM rfl<|k3<|sU<|sA rfl<|sN<|qR ?_
       cases oI h
       exact qG
      refine sM rfl<|k3<|sU<|sM rfl<|k3<|sU<|sA rfl<|sN<|qR ?_
      cases oI h
      exact qG
     refine sM rfl<|k3<|sK<|sU<|sM rfl<|k3<|sU<|sM rfl<|sK<|sK<|sK ?_
     refine sU<|sA rfl<|sN<|qR ?_
     cases oI h
     exact qG
    refine sM rfl<|k3<|sU<|sM rfl<|k3<|sK<|sU<|sM rfl<|sK<|sK<|sK ?_
    refine sU<|sM rfl<|k3<|sU<|sA rfl<|sN<|qR ?_
    cases oI h
    exact qG
   refine sM rfl<|k3<|sK<|sU<|sM rfl<|k3<|sU<|sM rfl<|sK<|sK<|sK ?_
   refine sK<|sU<|sM rfl<|k3<|sU<|sM rfl<|k3<|sU<|sA rfl<|sN<|qR ?_
   cases oI h
   exact qG
  refine WO.gu (eZ a0.aU (aV.mk 0 0 0)) hb45 rfl rfl rfl rfl rfl<|sM rfl<|k3<|sK<|sU<|sM rfl<|k3<|sK<|sU<|sM rfl<|sK ?_
  refine sK<|sK<|sU<|sM rfl<|k3<|sK<|sU<|sM rfl<|k3<|sU<|sM rfl ?_
  refine k3<|sU<|sA rfl<|sN<|qR ?_
  cases oI h
  exact qG
 refine sA rfl<|sN<|cF<|qK<|gS rfl rfl<|sU<|sN<|qR ?_
 cases oI h
 exact qG
theorem oo {a0 : aq} {r : Bool} (h : eM a0 = some r) : EvP prog aw ext 204 [.d (aq.pd a0)] [] (rB r, []) := by
 refine Ev.body rfl Tryz.func204 rfl (by kernel_rfl)<|gS rfl rfl<|sB (.ptr 16 0) 16 (.var (aq.rc a0))<|sU<|sN<|gS rfl rfl<|sV (.d (aq.pd a0))<|bE h fun x1 hx1 h => cD (uO hx1)<|sV (rB (!x1))<|sA rfl<|sN<|qR ?_
 cases oI h
 exact qG
theorem pM {a0 : (List aq)} {r : Int} (h : cx a0 = some r) : EvP prog aw ext 219 [.d (.lst (a0.map aq.pd)), .d (.raw (.func (.func 204) #[] #[]))] [] (rI r, []) := by
 refine Ev.body rfl Tryz.func219 rfl (by kernel_rfl)<|gS rfl rfl<|sV (r0)<|sN<|qS<|gS rfl rfl<|sM rfl<|sE (rI (a0.length : Int)) (b8 _ _)<|sV (r0)<|sN<|bE h fun o8 ho8 h => WC.block (WC.loop (WL.cv ho8 (fun s R' B' => bg prog 0 (A R' B') (aw.at_ 219 0 2) = some (A [(0, .d (.lst (a0.map aq.pd))), (1, .d (.raw (.func (.func 204) #[] #[]))), (7, rI (a0.length : Int)), (8, rI s)] [])) (fun o e R' B' => match o with | .inl y => e = .exit 0 ∧ bg prog 0 (A R' B') (aw.at_ 219 0 7) = some (A [] []) | .inr r => e = .ret ∧ finish prog (aw.own 219) Tryz.f219 0 (A R' B') = some (rI r, [])) rfl ?_ ?_))
 ·rintro s1 R' B' q2 hI h
  refine gS rfl hI<|sF h (fun h => ?_) fun h => ?_
  ·refine sN<|qS<|cT<|qK<|qS<|qB<|gS rfl rfl<|sM rfl<|sA rfl<|sN<|gS rfl rfl<|sM rfl<|sM rfl<|sM rfl<|bE h fun x4 hx4 h => ?_
   refine eG hx4 rfl<|sV (.d (aq.pd x4))<|bE h fun x5 hx5 h => cY h (fun hb6 h => ?_) (fun hb6 h => ?_)
   ·refine WO.fj (v := rB true) (u := []) rfl rfl (fun _ => rfl) rfl rfl rfl rfl rfl (oo hx5) rfl rfl (congrArg (fun b => RV.d (.bool b)) hb6) rfl<|sN<|cT<|gS rfl rfl<|sM rfl<|sA rfl<|sN<|qR ?_
    cases oI h
    exact ⟨nofun, rfl, rfl⟩
   refine WO.fj (v := rB false) (u := []) rfl rfl (fun _ => rfl) rfl rfl rfl rfl rfl (oo hx5) rfl rfl (congrArg (fun b => RV.d (.bool b)) hb6) rfl<|sN<|cF<|qK<|WC.region rfl rfl<|sV (rI (rW (s1 + (1 : Int))))<|sM rfl<|sN ?_
   cases oI h
   exact ⟨rfl, rfl⟩
  refine sN<|qS<|cF<|qX ?_
  cases oI h
  exact ⟨nofun, rfl, rfl⟩
 intro e R' B' he hq
 rcases o8 with y9 | r10
 ·obtain ⟨rfl, hI⟩ := hq
  refine qE<|gS rfl hI<|sV (rI (-1))<|sN<|qR ?_
  exact oI h▸qD
 obtain ⟨rfl, hf⟩ := hq
 cases oI h
 exact hf
theorem nJ {a0 : (List aq)} {r : Bool} (h : bA a0 = some r) : EvP prog aw ext 203 [.d (.lst (a0.map aq.pd)), .d (.raw (.func (.func 204) #[] #[]))] [] (rB r, []) := by
 refine Ev.body rfl Tryz.func203 rfl (by kernel_rfl)<|gS rfl rfl<|sU<|sN<|gS rfl rfl<|sM rfl<|sM rfl<|bE h fun x1 hx1 h => cD (pM hx1)<|sV (rB (decide (x1 ≥ (0 : Int))))<|sA rfl<|sN<|qR ?_
 exact oI h▸qD
theorem xN {a0 : (List aq)} {r : Int} (h : eT a0 = some r) : EvP prog aw ext 206 [.d (.lst (a0.map aq.pd))] [] (rI r, []) := by
 refine Ev.body rfl Tryz.func206 rfl (by kernel_rfl)<|gS rfl rfl<|sV (r0)<|sN<|gS rfl rfl<|sV (rI 1)<|sN<|qS<|gS rfl rfl<|sM rfl<|sE (rI (a0.length : Int)) (b8 _ _)<|sV (r0)<|sN<|bE h fun o10 ho10 h => WC.block (WC.loop (WL.cv ho10 (fun s R' B' => bg prog 0 (A R' B') (aw.at_ 206 0 3) = some (A [(3, rI s.1), (6, .d (.lst (a0.map aq.pd))), (7, rI (a0.length : Int)), (8, rI s.2)] [])) (fun o e R' B' => match o with | .inl y => e = .exit 0 ∧ bg prog 0 (A R' B') (aw.at_ 206 0 10) = some (A [(3, rI y)] []) | .inr r => e = .ret ∧ finish prog (aw.own 206) Tryz.f206 0 (A R' B') = some (rI r, [])) rfl ?_ ?_))
 ·rintro ⟨s1, s2⟩ R' B' q4 hI h
  refine gS rfl hI<|sF h (fun h => ?_) fun h => ?_
  ·refine sN<|qS<|cT<|qK<|qS<|qB<|gS rfl rfl<|bE h fun x6 hx6 h => eG hx6 rfl<|sV (.d (aq.pd x6))<|sB (.ptr 80 0) 80 (.var [r0, r0, r0, r0, r0, r0, r0, .cu, r0, r0])<|sH 80 (.var (aq.rc x6))<|sN<|qS<|gS rfl rfl ?_
   refine sV (.ptr 80 0)<|sL rfl<|sF h (fun h => ?_) fun h => ?_
   ·refine sN<|cT<|qX<|qE<|WC.region rfl rfl<|sV (rI (rW (s2 + (1 : Int))))<|sM rfl<|sN ?_
    cases oI h
    exact ⟨rfl, rfl⟩
   refine sN<|cF<|qK<|gS rfl rfl<|sM rfl<|sV (.ptr 80 8)<|sL rfl<|sV (rI (rW (s1 * x6.aX)))<|sA rfl<|sN<|gS rfl rfl<|sM rfl<|sF h (fun h => ?_) fun h => ?_
   ·refine sN<|cT<|gS rfl rfl<|sV (r0)<|sN<|qR ?_
    cases oI h
    exact ⟨nofun, rfl, rfl⟩
   refine sN<|cF<|qK<|WC.region rfl rfl<|sV (rI (rW (s2 + (1 : Int))))<|sM rfl<|sN ?_
   cases oI h
   exact ⟨rfl, rfl⟩
  refine sN<|qS<|cF<|qX ?_
  cases oI h
  exact ⟨nofun, rfl, rfl⟩
 intro e R' B' he hq
 rcases o10 with y11 | r12
 ·obtain ⟨rfl, hI⟩ := hq
  refine qE<|gS rfl hI<|sM rfl<|sA rfl<|sN<|qR ?_
  exact oI h▸qD
 obtain ⟨rfl, hf⟩ := hq
 cases oI h
 exact hf
theorem yL {a0 : aB} {r : Bool} (h : fN a0 = some r) : EvP prog aw ext 177 [.d (aB.pd a0)] [] (rB r, []) := by
 refine Ev.body rfl Tryz.func177 rfl (by kernel_rfl)<|gS rfl rfl<|sB (.ptr 16 0) 16 (.var [.d (.lst (a0.aL.map aq.pd))])<|sU<|sN<|qS<|gS rfl rfl<|sV (.ptr 16 0)<|sL rfl<|sE (rI (a0.aL.length : Int)) (b8 _ _)<|sF h (fun h => ?_) fun h => ?_
 ·refine sM rfl<|k3<|sT<|sN<|cT<|gS rfl rfl<|sU<|sN<|qR ?_
  exact oI h▸qD
 refine sM rfl<|sV (.ptr 16 0)<|sL rfl<|bE h fun x2 hx2 h => cD (nJ hx2)<|sF h (fun h => ?_) fun h => ?_
 ·refine sN<|cT<|gS rfl rfl<|sU<|sN<|qR ?_
  exact oI h▸qD
 refine sN<|cF<|qK<|gS rfl rfl<|sV (.ptr 16 0)<|sL rfl<|bE h fun x4 hx4 h => cD (xN hx4)<|sV (rB (decide (x4 > (0 : Int))))<|sA rfl<|sN<|qR ?_
 exact oI h▸qD
theorem mS {a0 : Int} {a1 : Int} {a2 : Int} {r : Bool} (h : et a0 a1 a2 = some r) : EvP prog aw ext 135 [rI a0, rI a1, rI a2] [] (rB r, []) := by
 refine Ev.body rfl Tryz.func135 rfl (by kernel_rfl)<|gS rfl rfl<|sU<|sN<|gS rfl rfl<|sM rfl<|sM rfl<|sF h (fun h => ?_) fun h => ?_
 ·refine sM rfl<|sM rfl<|sM rfl<|sV (rB (decide (a0 ≤ a2)))<|sV (rB (decide (a0 ≤ a2)))<|sA rfl<|sN<|qR ?_
  exact oI h▸qD
 refine sM rfl<|k3<|sU<|sA rfl<|sN<|qR ?_
 exact oI h▸qD
theorem tT {a0 : ai} {r : Bool} (h : cL a0 = some r) : EvP prog aw ext 134 [.d (ai.pd a0)] [] (rB r, []) := by
 refine Ev.body rfl Tryz.func134 rfl (by kernel_rfl)<|gS rfl rfl<|sB (.ptr 16 0) 16 (.var (ai.rc a0))<|sU<|sN<|gS rfl rfl<|sV (.ptr 16 4)<|sV (.d (ap.pd a0.aF))<|sB (.ptr 48 0) 48 (.var [r0, r0, r0])<|sS 48 (.var [rI a0.aF.fX, rI a0.aF.fY, rI a0.aF.fZ])<|sN<|gS rfl rfl<|sV (.ptr 16 0)<|sL rfl<|sF h (fun h => ?_) fun h => ?_
 ·refine sM rfl<|sV (.ptr 16 0)<|sL rfl<|sV (.ptr 16 1)<|sL rfl<|sV (rB (decide (a0.aJ < a0.fTo)))<|sF h (fun h => ?_) fun h => ?_
  ·refine sM rfl<|sV (.ptr 16 1)<|sL rfl<|sV (rB (decide (a0.fTo ≤ (9007199254740992 : Int))))<|sF h (fun h => ?_) fun h => ?_
   ·refine sM rfl<|sV (.ptr 16 2)<|sV (.d (aT.pd a0.bI))<|bE h fun x4 hx4 h => cD (rate_Valid_ev hx4)<|sF h (fun h => ?_) fun h => ?_
    ·refine sM rfl<|sV (.ptr 16 7)<|sV (.d (aB.pd a0.aQ))<|bE h fun x6 hx6 h => cD (yL hx6)<|sF h (fun h => ?_) fun h => ?_
     ·refine sM rfl<|sV (.ptr 48 0)<|sL rfl<|bE h fun x8 hx8 h => cD (mS hx8)<|sF h (fun h => ?_) fun h => ?_
      ·refine sM rfl<|sV (.ptr 48 1)<|sL rfl<|bE h fun x10 hx10 h => cD (mS hx10)<|sF h (fun h => ?_) fun h => ?_
       ·refine sM rfl<|sV (.ptr 48 2)<|sL rfl<|bE h fun x12 hx12 h => cD (mS hx12)<|sV (rB x12)<|sA rfl<|sN<|qR ?_
        exact oI h▸qD
       refine sM rfl<|k3<|sU<|sA rfl<|sN<|qR ?_
       exact oI h▸qD
      refine sM rfl<|k3<|sU<|sM rfl<|k3<|sU<|sA rfl<|sN<|qR ?_
      exact oI h▸qD
     refine sM rfl<|k3<|sU<|sM rfl<|k3<|sU<|sM rfl<|k3<|sU ?_
     refine sA rfl<|sN<|qR ?_
     exact oI h▸qD
    refine sM rfl<|k3<|sU<|sM rfl<|k3<|sU<|sM rfl<|k3<|sU ?_
    refine sM rfl<|k3<|sU<|sA rfl<|sN<|qR ?_
    exact oI h▸qD
   refine sM rfl<|k3<|sU<|sM rfl<|k3<|sU<|sM rfl<|k3<|sU ?_
   refine sM rfl<|k3<|sU<|sM rfl<|k3<|sU<|sA rfl<|sN<|qR ?_
   exact oI h▸qD
  refine sM rfl<|k3<|sU<|sM rfl<|k3<|sU<|sM rfl<|k3<|sU ?_
  refine sM rfl<|k3<|sU<|sM rfl<|k3<|sU<|sM rfl<|k3<|sU ?_
  refine sA rfl<|sN<|qR ?_
  exact oI h▸qD
 refine sM rfl<|k3<|sK<|sK<|sU<|sM rfl<|k3<|sU<|sM rfl<|sK<|sK ?_
 refine sK<|sU<|sM rfl<|k3<|sU<|sM rfl<|k3<|sU<|sM rfl<|sK<|sK ?_
 refine sK<|sU<|sM rfl<|k3<|sU<|sA rfl<|sN<|qR ?_
 exact oI h▸qD
theorem w4 {a0 : (List ai)} {r : Bool} (h : dY a0 = some r) : EvP prog aw ext 99 [.d (.lst (a0.map ai.pd))] [] (rB r, []) := by
 refine Ev.body rfl Tryz.func99 rfl (by kernel_rfl)<|gS rfl rfl<|sU<|sN<|qS<|gS rfl rfl<|sM rfl<|sE (rI (a0.length : Int)) (b8 _ _)<|sV (r0)<|sN<|bE h fun o11 ho11 h => WC.block (WC.loop (WL.cv ho11 (fun s R' B' => bg prog 0 (A R' B') (aw.at_ 99 0 2) = some (A [(0, .d (.lst (a0.map ai.pd))), (5, .d (.lst (a0.map ai.pd))), (6, rI (a0.length : Int)), (7, rI s)] [])) (fun o e R' B' => match o with | .inl y => e = .exit 0 ∧ bg prog 0 (A R' B') (aw.at_ 99 0 7) = some (A [(0, .d (.lst (a0.map ai.pd)))] []) | .inr r => e = .ret ∧ finish prog (aw.own 99) Tryz.f99 0 (A R' B') = some (rB r, [])) rfl ?_ ?_))
 ·rintro s1 R' B' q2 hI h
  refine gS rfl hI<|sF h (fun h => ?_) fun h => ?_
  ·refine sN<|qS<|cT<|qK<|qS<|qB<|gS rfl rfl<|sM rfl<|bE h fun x4 hx4 h => eG hx4 rfl<|sV (.d (ai.pd x4))<|sB (.ptr 64 0) 64 (.var zZ2)<|sA rfl<|sH 64 (.var (ai.rc x4))<|sN ?_
   refine WC.bX rfl rfl<|sV (.d (ai.pd x4))<|bE h fun x5 hx5 h => cD (tT hx5)<|sF h (fun h => ?_) fun h => ?_
   ·refine sM rfl<|k3<|k3<|k3<|k3<|sK<|sT ?_
    refine sN<|sO<|cT<|gS rfl rfl<|sU<|sN<|qR ?_
    cases oI h
    exact ⟨nofun, rfl, rfl⟩
   refine sM rfl<|sM rfl<|sF h (fun h => ?_) fun h => ?_
   ·refine sM rfl<|sV (.ptr 64 0)<|sL rfl<|sM rfl<|sM rfl<|sV (rI (rW (s1 - (1 : Int))))<|bE h fun x8 hx8 h => eG hx8 rfl<|sV (.cptr [.int .i64 x8.fTo, .int .i64 x8.bI.aU, .int .i64 x8.bI.aS, .int .i64 x8.aF.fX, .int .i64 x8.aF.fY, .int .i64 x8.aF.fZ, .lst (x8.aQ.aL.map aq.pd)])<|sC rfl<|sV (rB (decide (x4.aJ < x8.fTo)))<|sV (rB (decide (x4.aJ < x8.fTo)))<|sF h (fun h => ?_) fun h => ?_
    ·refine sN<|sO<|cT<|gS rfl rfl<|sU<|sN<|qR ?_
     cases oI h
     exact ⟨nofun, rfl, rfl⟩
    refine sN<|sO<|cF<|qK<|WC.region rfl rfl<|sV (rI (rW (s1 + (1 : Int))))<|sM rfl<|sN ?_
    cases oI h
    exact ⟨rfl, rfl⟩
   refine sM rfl<|k3<|k3<|k3<|sU<|sU ?_
   refine sN<|sO<|cF<|qK<|WC.region rfl rfl<|sV (rI (rW (s1 + (1 : Int))))<|sM rfl<|sN ?_
   cases oI h
   exact ⟨rfl, rfl⟩
  refine sN<|qS<|cF<|qX ?_
  cases oI h
  exact ⟨nofun, rfl, rfl⟩
 intro e R' B' he hq
 rcases o11 with y12 | r13
 ·obtain ⟨rfl, hI⟩ := hq
  refine qE<|gS rfl hI<|sM rfl<|sE (rI (a0.length : Int)) (b8 _ _)<|bE h fun x14 hx14 h => cD (mS hx14)<|sA rfl<|sN<|qR ?_
  exact oI h▸qD
 obtain ⟨rfl, hf⟩ := hq
 cases oI h
 exact hf
theorem dQ {a0 : ac} {r : Bool} (h : bv a0 = some r) : EvP prog aw ext 55 [.d (ac.pd a0)] [] (rB r, []) := by
 refine Ev.body rfl Tryz.func55 rfl (by kernel_rfl)<|gS rfl rfl<|sB (.ptr 16 0) 16 (.var [.d (.lst (a0.al.map ae.pd))])<|sU<|sN<|qS<|gS rfl rfl<|sV (.ptr 16 0)<|sL rfl<|sE (rI (a0.al.length : Int)) (b8 _ _)<|sV (r0)<|sN<|bE h fun o14 ho14 h => WC.block (WC.loop (WL.cv ho14 (fun s R' B' => bg prog 0 (A R' B') (aw.at_ 55 0 2) = some (A [(1, .ptr 16 0), (6, .d (.lst (a0.al.map ae.pd))), (7, rI (a0.al.length : Int)), (8, rI s)] [(16, .var [.d (.lst (a0.al.map ae.pd))])])) (fun o e R' B' => match o with | .inl y => e = .exit 0 ∧ bg prog 0 (A R' B') (aw.at_ 55 0 7) = some (A [(1, .ptr 16 0)] [(16, .var [.d (.lst (a0.al.map ae.pd))])]) | .inr r => e = .ret ∧ finish prog (aw.own 55) Tryz.f55 0 (A R' B') = some (rB r, [])) rfl ?_ ?_))
 ·rintro s1 R' B' q2 hI h
  refine gS rfl hI<|sF h (fun h => ?_) fun h => ?_
  ·refine sN<|qS<|cT<|qK<|qS<|qB<|gS rfl rfl<|sM rfl<|bE h fun x4 hx4 h => eG hx4 rfl<|sV (.d (ae.pd x4))<|sB (.ptr 64 0) 64 (.var zZ3)<|sA rfl<|sS 64 (.var (ae.rc x4))<|sN ?_
   refine WC.bX rfl rfl<|sV (.ptr 64 0)<|sV (.d (ag.pd x4.ak))<|bE h fun x5 hx5 h => cD (rp hx5)<|sF h (fun h => ?_) fun h => ?_
   ·refine sM rfl<|k3<|sK<|sT<|sM rfl<|k3<|k3<|sK<|sK ?_
    refine k3<|k3<|sK<|sT ?_
    refine sN<|sO<|cT<|gS rfl rfl<|sU<|sN<|qR ?_
    cases oI h
    exact ⟨nofun, rfl, rfl⟩
   refine sM rfl<|sV (.ptr 64 4)<|sL rfl<|bE h fun x7 hx7 h => cD (w4 hx7)<|sV (rB (!x7))<|sF h (fun h => ?_) fun h => ?_
   ·refine sM rfl<|k3<|k3<|k3<|k3<|sK<|sK ?_
    refine sK<|sT ?_
    refine sN<|sO<|cT<|gS rfl rfl<|sU<|sN<|qR ?_
    cases oI h
    exact ⟨nofun, rfl, rfl⟩
   refine sM rfl<|sM rfl<|sF h (fun h => ?_) fun h => ?_
   ·refine sM rfl<|sV (.ptr 16 0)<|sL rfl<|sM rfl<|sV (rI (rW (s1 - (1 : Int))))<|bE h fun x10 hx10 h => eG hx10 rfl<|sV (.cptr [.str x10.ak.aC, .str x10.ak.aA, .str x10.ak.av, .str x10.ak.aD, .lst (x10.aM.map ai.pd)])<|sV (.d (ag.pd x10.ak))<|sV (.ptr 64 0)<|sV (.d (ag.pd x4.ak))<|bE h fun x11 hx11 h => cD (tv hx11)<|sV (rB (decide (x11 ≥ (0 : Int))))<|sV (rB (decide (x11 ≥ (0 : Int)))) ?_
    refine sF h (fun h => ?_) fun h => ?_
    ·refine sN<|sO<|cT<|gS rfl rfl<|sU<|sN<|qR ?_
     cases oI h
     exact ⟨nofun, rfl, rfl⟩
    refine sN<|sO<|cF<|qK<|WC.region rfl rfl<|sV (rI (rW (s1 + (1 : Int))))<|sM rfl<|sN ?_
    cases oI h
    exact ⟨rfl, rfl⟩
   refine sM rfl<|k3<|k3<|k3<|sK<|sK<|sU<|sU ?_
   refine sN<|sO<|cF<|qK<|WC.region rfl rfl<|sV (rI (rW (s1 + (1 : Int))))<|sM rfl<|sN ?_
   cases oI h
   exact ⟨rfl, rfl⟩
  refine sN<|qS<|cF<|qX ?_
  cases oI h
  exact ⟨nofun, rfl, rfl⟩
 intro e R' B' he hq
 rcases o14 with y15 | r16
 ·obtain ⟨rfl, hI⟩ := hq
  refine qE<|gS rfl hI<|sV (.ptr 16 0)<|sL rfl<|sE (rI (a0.al.length : Int)) (b8 _ _)<|sV (rB (decide ((a0.al.length : Int) ≤ (128 : Int))))<|sA rfl<|sN<|qR ?_
  exact oI h▸qD
 obtain ⟨rfl, hf⟩ := hq
 cases oI h
 exact hf
theorem ur {a0 : ai} {r : ai} (h : eK a0 = some r) : EvP prog aw ext 140 [.d (ai.pd a0)] [] (.d (ai.pd r), []) := by
 refine Ev.body rfl Tryz.func140 rfl (by kernel_rfl)<|gS rfl rfl<|sB (.ptr 16 0) 16 (.var (ai.rc a0))<|sB (.ptr 32 0) 32 (.var zZ2)<|sN<|gS rfl rfl<|sV (.ptr 16 7)<|sV (.ptr 16 7)<|sL rfl<|bE h fun x1 hx1 h => cR (.ref 112 0) [(112, .arr 0 137 (x1.map aq.pd))] (clone_181 hx1)<|sV (.ptr 16 7)<|sV (.ptr 16 7)<|sS 16 (.var [rI a0.aJ, rI a0.fTo, rI a0.bI.aU, rI a0.bI.aS, rI a0.aF.fX, rI a0.aF.fY, rI a0.aF.fZ, .ref 112 0])<|sN ?_
 refine qS<|gS rfl rfl<|sV (.ptr 16 7)<|sV (.ptr 16 7)<|sL rfl<|WO.kb rfl rfl rfl rfl rfl rfl rfl rfl rfl<|sV (r0)<|sN<|bE h fun o16 ho16 h => WC.block (WC.loop (WL.cv ho16 (fun s R' B' => bg prog 0 (A R' B') (aw.at_ 140 0 3) = some (A [(1, .ptr 16 0), (2, .ptr 32 0), (13, rI (x1.length : Int)), (14, rI s.1)] [(16, .var [rI a0.aJ, rI a0.fTo, rI a0.bI.aU, rI a0.bI.aS, rI a0.aF.fX, rI a0.aF.fY, rI a0.aF.fZ, .ref 112 0]), (32, .var zZ2), (112, .arr 0 137 (s.2.map aq.pd))])) (fun o e R' B' => e = .exit 0 ∧ bg prog 0 (A R' B') (aw.at_ 140 0 7) = some (A [(1, .ptr 16 0), (2, .ptr 32 0)] [(16, .var [rI a0.aJ, rI a0.fTo, rI a0.bI.aU, rI a0.bI.aS, rI a0.aF.fX, rI a0.aF.fY, rI a0.aF.fZ, .ref 112 0]), (32, .var zZ2), (112, .arr 0 137 (o.map aq.pd))])) rfl ?_ ?_))
 ·rintro ⟨s2, s3⟩ R' B' q5 hI h
  refine gS rfl hI<|sF h (fun h => ?_) fun h => ?_
  ·refine sN<|qS<|cT<|qK<|qS<|qB<|gS rfl rfl<|sM rfl<|sA rfl<|sN<|WC.eP rfl rfl<|sV (.ptr 16 7)<|sV (.ptr 16 7)<|sL rfl<|sM rfl ?_
   refine sV (.ptr 16 7)<|sV (.ptr 16 7)<|sL rfl<|sM rfl<|bE h fun x8 hx8 h => WO.eE hx8 rfl rfl rfl rfl rfl rfl rfl rfl<|sV (.elt 112 0 (s2).toNat 7)<|bE h fun x9 hx9 h => WO.eD hx9 rfl rfl rfl rfl rfl rfl<|bE h fun x10 hx10 h => cR (.ref 448 0) [(448, .arr 0 3 (x10.map (PD.int .i64)))] (clone_182 hx10)<|bE h fun x12 hx12 h => WO.eE hx12 rfl rfl rfl rfl rfl rfl rfl rfl<|sV (.elt 112 0 (s2).toNat 7)<|bE h fun x13 hx13 h => ?_
   refine WO.ko (g := aq.pd) (u := [(448, .dead)]) (sz := 1) hx13 (fun _ => rfl) (fun _ => Nat.le_of_ble_eq_true rfl) rfl rfl rfl rfl rfl rfl rfl rfl rfl rfl rfl ?_
   refine sN<|sO<|WC.region rfl rfl<|sV (rI (rW (s2 + (1 : Int))))<|sM rfl<|sN ?_
   cases oI h
   exact ⟨rfl, rfl⟩
  refine sN<|qS<|cF<|qX ?_
  cases oI h
  exact ⟨nofun, rfl, rfl⟩
 intro e R' B' he hq
 obtain ⟨rfl, hI⟩ := hq
 refine qE<|gS rfl hI<|sV (.agg [rI a0.aJ, rI a0.fTo, rI a0.bI.aU, rI a0.bI.aS, rI a0.aF.fX, rI a0.aF.fY, rI a0.aF.fZ, .ref 112 0])<|sH 32 (.var [rI a0.aJ, rI a0.fTo, rI a0.bI.aU, rI a0.bI.aS, rI a0.aF.fX, rI a0.aF.fY, rI a0.aF.fZ, .ref 112 0])<|sN<|qR ?_
 cases oI h
 exact qG
theorem w2 {a0 : ae} {r : ae} (h : gO a0 = some r) : EvP prog aw ext 109 [.d (ae.pd a0)] [] (.d (ae.pd r), []) := by
 refine Ev.body rfl Tryz.func109 rfl (by kernel_rfl)<|gS rfl rfl<|sB (.ptr 16 0) 16 (.var (ae.rc a0))<|sB (.ptr 32 0) 32 (.var zZ3)<|sN<|gS rfl rfl<|sV (.ptr 16 4)<|sL rfl<|bE h fun x1 hx1 h => cR (.ref 112 0) [(112, .arr 0 96 (x1.map ai.pd))] (clone_139 hx1)<|sV (.ptr 16 4)<|sS 16 (.var [rS a0.ak.aC, rS a0.ak.aA, rS a0.ak.av, rS a0.ak.aD, .ref 112 0])<|sN<|qS<|gS rfl rfl ?_
 refine sV (.ptr 16 4)<|sL rfl<|WO.kb rfl rfl rfl rfl rfl rfl rfl rfl rfl<|sV (r0)<|sN<|bE h fun o15 ho15 h => WC.block (WC.loop (WL.cv ho15 (fun s R' B' => bg prog 0 (A R' B') (aw.at_ 109 0 3) = some (A [(1, .ptr 16 0), (2, .ptr 32 0), (10, .ref 112 0), (11, rI (x1.length : Int)), (12, rI s.1)] [(16, .var [rS a0.ak.aC, rS a0.ak.aA, rS a0.ak.av, rS a0.ak.aD, .ref 112 0]), (32, .var zZ3), (112, .arr 0 96 (s.2.map ai.pd))])) (fun o e R' B' => e = .exit 0 ∧ bg prog 0 (A R' B') (aw.at_ 109 0 7) = some (A [(1, .ptr 16 0), (2, .ptr 32 0)] [(16, .var [rS a0.ak.aC, rS a0.ak.aA, rS a0.ak.av, rS a0.ak.aD, .ref 112 0]), (32, .var zZ3), (112, .arr 0 96 (o.map ai.pd))])) rfl ?_ ?_))
 ·rintro ⟨s2, s3⟩ R' B' q5 hI h
  refine gS rfl hI<|sF h (fun h => ?_) fun h => ?_
  ·refine sN<|qS<|cT<|qK<|qS<|qB<|gS rfl rfl<|sM rfl<|bE h fun x8 hx8 h => WO.eE hx8 rfl rfl rfl rfl rfl rfl rfl rfl<|bE h fun x9 hx9 h => WO.eD hx9 rfl rfl rfl rfl rfl rfl<|sB (.ptr 64 0) 64 (.var zZ2)<|sA rfl<|sH 64 (.var (ai.rc x9)) ?_
   refine sN<|WC.eP rfl rfl<|sV (.ptr 16 4)<|sL rfl<|sM rfl<|sV (.d (ai.pd x9))<|bE h fun x10 hx10 h => cD (ur hx10)<|bE h fun x12 hx12 h => WO.eE hx12 rfl rfl rfl rfl rfl rfl rfl rfl<|bE h fun x13 hx13 h => WO.jP (g := ai.pd) (sz := 8) (p := ai.pd x10) hx13 (by intro _; kernel_rfl) (by intro _; kernel_rfl) rfl rfl rfl rfl rfl rfl rfl rfl rfl ?_
   refine sN<|sO<|WC.region rfl rfl<|sV (rI (rW (s2 + (1 : Int))))<|sM rfl<|sN ?_
   cases oI h
   exact ⟨rfl, rfl⟩
  refine sN<|qS<|cF<|qX ?_
  cases oI h
  exact ⟨nofun, rfl, rfl⟩
 intro e R' B' he hq
 obtain ⟨rfl, hI⟩ := hq
 refine qE<|gS rfl hI<|sV (.agg [rS a0.ak.aC, rS a0.ak.aA, rS a0.ak.av, rS a0.ak.aD, .ref 112 0])<|sS 32 (.var [rS a0.ak.aC, rS a0.ak.aA, rS a0.ak.av, rS a0.ak.aD, .ref 112 0])<|sN<|qR ?_
 exact oI h▸qD
theorem n5 {a0 : ac} {a1 : ag} {r : ae × Bool} (h : ep a0 a1 = some r) : EvP prog aw ext 65 [.d (ac.pd a0), .d (ag.pd a1)] [] (.tup [.d (ae.pd r.1), rB r.2], []) := by
 refine Ev.body rfl Tryz.func65 rfl (by kernel_rfl)<|gS rfl rfl<|sB (.ptr 32 0) 32 (.var [.d (.lst (a0.al.map ae.pd))])<|sB (.ptr 48 0) 48 (.var [rS a1.aC, rS a1.aA, rS a1.av, rS a1.aD])<|sB (.ptr 64 0) 64 (.var zZ3)<|sU<|sN<|qS<|gS rfl rfl<|sV (.ptr 32 0)<|sL rfl<|sE (rI (a0.al.length : Int)) (b8 _ _)<|sV (r0)<|sN<|bE h fun o8 ho8 h => ?_
 refine WC.block (WC.loop (WL.cv ho8 (fun s R' B' => bg prog 0 (A R' B') (aw.at_ 65 0 2) = some (A [(3, .ptr 48 0), (4, .ptr 64 0), (9, .d (.lst (a0.al.map ae.pd))), (10, rI (a0.al.length : Int)), (11, rI s)] [(48, .var [rS a1.aC, rS a1.aA, rS a1.av, rS a1.aD]), (64, .var zZ3)])) (fun o e R' B' => match o with | .inl y => e = .exit 0 ∧ bg prog 0 (A R' B') (aw.at_ 65 0 7) = some (A [(4, .ptr 64 0)] [(64, .var zZ3)]) | .inr r => e = .ret ∧ finish prog (aw.own 65) Tryz.f65 0 (A R' B') = some (.tup [.d (ae.pd r.1), rB r.2], [])) rfl ?_ ?_))
 ·rintro s1 R' B' q2 hI h
  refine gS rfl hI<|sF h (fun h => ?_) fun h => ?_
  ·refine sN<|qS<|cT<|qK<|qS<|qB<|gS rfl rfl<|bE h fun x4 hx4 h => eG hx4 rfl<|sV (.d (.agg [.str x4.ak.aC, .str x4.ak.aA, .str x4.ak.av, .str x4.ak.aD, .lst (x4.aM.map ai.pd)]))<|sB (.ptr 112 0) 112 (.var zZ3)<|sS 112 (.var (ae.rc x4))<|sN<|gS rfl rfl<|sV (.ptr 112 0) ?_
   refine sV (.d (ag.pd x4.ak))<|sV (.d (ag.pd a1))<|cY h (fun hb5 h => ?_) (fun hb5 h => ?_)
   ·refine WO.gu (rP x4.ak a1) hb5 rfl rfl rfl rfl rfl<|sN<|cT<|gS rfl rfl<|sV (.d (.agg [.str x4.ak.aC, .str x4.ak.aA, .str x4.ak.av, .str x4.ak.aD, .lst (x4.aM.map ai.pd)]))<|bE h fun x6 hx6 h => cD (w2 hx6)<|sS 64 (.var (ae.rc x6))<|sT<|sN<|qR ?_
    cases oI h
    exact ⟨nofun, rfl, rfl⟩
   refine WO.gu (rP x4.ak a1) hb5 rfl rfl rfl rfl rfl<|sN<|cF<|qK<|WC.region rfl rfl<|sV (rI (rW (s1 + (1 : Int))))<|sM rfl<|sN ?_
   cases oI h
   exact ⟨rfl, rfl⟩
  refine sN<|qS<|cF<|qX ?_
  cases oI h
  exact ⟨nofun, rfl, rfl⟩
 intro e R' B' he hq
 rcases o8 with y9 | r10
 ·obtain ⟨rfl, hI⟩ := hq
  refine qE<|gS rfl hI<|sV (.agg zZ3)<|sS 64 (.var zZ3)<|sU<|sN<|qR ?_
  exact oI h▸qD
 obtain ⟨rfl, hf⟩ := hq
 cases oI h
 exact hf
theorem xa {a0 : (List Int)} {a1 : (List Int)} {r : Bool} (h : gR a0 a1 = some r) : EvP prog aw ext 105 [.d (.lst (a0.map (PD.int .i64))), .d (.lst (a1.map (PD.int .i64)))] [] (rB r, []) := by
 refine Ev.body rfl Tryz.func105 rfl (by kernel_rfl)<|gS rfl rfl<|sU<|sN<|qS<|gS rfl rfl<|sM rfl<|sE (rI (a0.length : Int)) (b8 _ _)<|sM rfl<|sE (rI (a1.length : Int)) (b8 _ _)<|sF h (fun h => ?_) fun h => ?_
 ·refine sN<|cT<|gS rfl rfl<|sU<|sN<|qR ?_
  exact oI h▸qD
 refine sN<|cF<|qK<|qS<|gS rfl rfl<|sM rfl<|sE (rI (a0.length : Int)) (b8 _ _)<|sV (r0)<|sN<|bE h fun o9 ho9 h => WC.block (WC.loop (WL.cv ho9 (fun s R' B' => bg prog 0 (A R' B') (aw.at_ 105 0 4) = some (A [(0, .d (.lst (a0.map (PD.int .i64)))), (1, .d (.lst (a1.map (PD.int .i64)))), (12, rI (a0.length : Int)), (13, rI s)] [])) (fun o e R' B' => match o with | .inl y => e = .exit 0 ∧ bg prog 0 (A R' B') (aw.at_ 105 0 9) = some (A [] []) | .inr r => e = .ret ∧ finish prog (aw.own 105) Tryz.f105 0 (A R' B') = some (rB r, [])) rfl ?_ ?_))
 ·rintro s2 R' B' q3 hI h
  refine gS rfl hI<|sF h (fun h => ?_) fun h => ?_
  ·refine sN<|qS<|cT<|qK<|qS<|qB<|gS rfl rfl<|sM rfl<|sA rfl<|sN<|WC.bX rfl rfl<|sM rfl<|sM rfl<|bE h fun x5 hx5 h => eG hx5 rfl ?_
   refine sC rfl<|sM rfl<|sM rfl<|bE h fun x6 hx6 h => eG hx6 rfl<|sC rfl<|sF h (fun h => ?_) fun h => ?_
   ·refine sN<|sO<|cT<|gS rfl rfl<|sU<|sN<|qR ?_
    cases oI h
    exact ⟨nofun, rfl, rfl⟩
   refine sN<|sO<|cF<|qK<|WC.region rfl rfl<|sV (rI (rW (s2 + (1 : Int))))<|sM rfl<|sN ?_
   cases oI h
   exact ⟨rfl, rfl⟩
  refine sN<|qS<|cF<|qX ?_
  cases oI h
  exact ⟨nofun, rfl, rfl⟩
 intro e R' B' he hq
 rcases o9 with y10 | r11
 ·obtain ⟨rfl, hI⟩ := hq
  refine qE<|gS rfl hI<|sT<|sN<|qR ?_
  exact oI h▸qD
 obtain ⟨rfl, hf⟩ := hq
 cases oI h
 exact hf
theorem vH {a0 : aq} {a1 : aq} {r : Bool} (h : fg a0 a1 = some r) : EvP prog aw ext 104 [.d (aq.pd a0), .d (aq.pd a1)] [] (rB r, []) := by
 refine Ev.body rfl Tryz.func104 rfl (by kernel_rfl)<|gS rfl rfl<|sB (.ptr 32 0) 32 (.var (aq.rc a0))<|sB (.ptr 48 0) 48 (.var (aq.rc a1))<|sU<|sN<|gS rfl rfl<|sV (.ptr 32 0)<|sL rfl<|sV (.ptr 48 0)<|sL rfl<|sF h (fun h => ?_) fun h => ?_
 ·refine sM rfl<|sV (.ptr 32 1)<|sV (.d (aV.pd a0.aU))<|sV (.ptr 48 1)<|sV (.d (aV.pd a1.aU))<|WO.bin (eZ a0.aU a1.aU) rfl rfl rfl rfl rfl<|sF h (fun h => ?_) fun h => ?_
  ·refine sM rfl<|sV (.ptr 32 4)<|sV (.d (aV.pd a0.aS))<|sV (.ptr 48 4)<|sV (.d (aV.pd a1.aS))<|WO.bin (eZ a0.aS a1.aS) rfl rfl rfl rfl rfl<|sF h (fun h => ?_) fun h => ?_
   ·refine sM rfl<|sV (.ptr 32 7)<|sL rfl<|sV (.ptr 48 7)<|sL rfl<|bE h fun x4 hx4 h => cD (xa hx4)<|sF h (fun h => ?_) fun h => ?_
    ·refine sM rfl<|sV (.ptr 32 8)<|sL rfl<|sV (.ptr 48 8)<|sL rfl<|sV (rB (a0.aX == a1.aX))<|sF h (fun h => ?_) fun h => ?_
     ·refine sM rfl<|sV (.ptr 32 9)<|sL rfl<|sV (.ptr 48 9)<|sL rfl<|sV (rB (a0.bi == a1.bi))<|sV (rB (a0.bi == a1.bi))<|sA rfl<|sN<|qR ?_
      cases oI h
      exact qG
     refine sM rfl<|k3<|sK<|sK<|sU<|sA rfl<|sN<|qR ?_
     cases oI h
     exact qG
    refine sM rfl<|k3<|sK<|sK<|sU<|sM rfl<|k3<|sK<|sK<|sU<|sA rfl ?_
    refine sN<|qR ?_
    cases oI h
    exact qG
   refine sM rfl<|k3<|sK<|sK<|sU<|sM rfl<|k3<|sK<|sK<|sU<|sM rfl ?_
   refine k3<|sK<|sK<|sU<|sA rfl<|sN<|qR ?_
   cases oI h
   exact qG
  refine sM rfl<|k3<|sK<|sK<|sU<|sM rfl<|k3<|sK<|sK<|sU<|sM rfl ?_
  refine k3<|sK<|sK<|sU<|sM rfl<|k3<|sK<|sK<|sU<|sA rfl<|sN ?_
  refine qR ?_
  cases oI h
  exact qG
 refine sM rfl<|k3<|sK<|sK<|sU<|sM rfl<|k3<|sK<|sK<|sU<|sM rfl ?_
 refine k3<|sK<|sK<|sU<|sM rfl<|k3<|sK<|sK<|sU<|sM rfl<|sK ?_
 refine k3<|sK<|sU<|sA rfl<|sN<|qR ?_
 cases oI h
 exact qG
theorem pI {a0 : (List aq)} {a1 : (List aq)} {r : Bool} (h : df a0 a1 = some r) : EvP prog aw ext 103 [.d (.lst (a0.map aq.pd)), .d (.lst (a1.map aq.pd)), .d (.raw (.func (.func 104) #[] #[]))] [] (rB r, []) := by
 refine Ev.body rfl Tryz.func103 rfl (by kernel_rfl)<|gS rfl rfl<|sU<|sN<|qS<|gS rfl rfl<|sM rfl<|sE (rI (a0.length : Int)) (b8 _ _)<|sM rfl<|sE (rI (a1.length : Int)) (b8 _ _)<|sF h (fun h => ?_) fun h => ?_
 ·refine sN<|cT<|gS rfl rfl<|sU<|sN<|qR ?_
  exact oI h▸qD
 refine sN<|cF<|qK<|qS<|gS rfl rfl<|sM rfl<|sE (rI (a0.length : Int)) (b8 _ _)<|sV (r0)<|sN<|bE h fun o10 ho10 h => WC.block (WC.loop (WL.cv ho10 (fun s R' B' => bg prog 0 (A R' B') (aw.at_ 103 0 4) = some (A [(1, .d (.lst (a1.map aq.pd))), (2, .d (.raw (.func (.func 104) #[] #[]))), (15, .d (.lst (a0.map aq.pd))), (16, rI (a0.length : Int)), (17, rI s)] [])) (fun o e R' B' => match o with | .inl y => e = .exit 0 ∧ bg prog 0 (A R' B') (aw.at_ 103 0 10) = some (A [] []) | .inr r => e = .ret ∧ finish prog (aw.own 103) Tryz.f103 0 (A R' B') = some (rB r, [])) rfl ?_ ?_))
 ·rintro s2 R' B' q3 hI h
  refine gS rfl hI<|sF h (fun h => ?_) fun h => ?_
  ·refine sN<|qS<|cT<|qK<|qS<|qB<|gS rfl rfl<|sM rfl<|bE h fun x5 hx5 h => eG hx5 rfl<|sV (.d (aq.pd x5))<|sB (.ptr 128 0) 128 (.var [r0, r0, r0, r0, r0, r0, r0, .cu, r0, r0])<|sA rfl<|sH 128 (.var (aq.rc x5))<|sN ?_
   refine gS rfl rfl<|sM rfl<|sM rfl<|bE h fun x6 hx6 h => eG hx6 rfl<|sV (.d (aq.pd x6))<|sB (.ptr 144 0) 144 (.var [r0, r0, r0, r0, r0, r0, r0, .cu, r0, r0])<|sH 144 (.var (aq.rc x6))<|sN<|gS rfl rfl<|sM rfl<|sV (.d (aq.pd x5))<|sV (.d (aq.pd x6))<|bE h fun x7 hx7 h => cD (vH hx7) ?_
   refine sF h (fun h => ?_) fun h => ?_
   ·refine sN<|cT<|gS rfl rfl<|sU<|sN<|qR ?_
    cases oI h
    exact ⟨nofun, rfl, rfl⟩
   refine sN<|cF<|qK<|WC.region rfl rfl<|sV (rI (rW (s2 + (1 : Int))))<|sM rfl<|sN ?_
   cases oI h
   exact ⟨rfl, rfl⟩
  refine sN<|qS<|cF<|qX ?_
  cases oI h
  exact ⟨nofun, rfl, rfl⟩
 intro e R' B' he hq
 rcases o10 with y11 | r12
 ·obtain ⟨rfl, hI⟩ := hq
  refine qE<|gS rfl hI<|sT<|sN<|qR ?_
  exact oI h▸qD
 obtain ⟨rfl, hf⟩ := hq
 cases oI h
 exact hf
theorem ub {a0 : aB} {a1 : aB} {r : Bool} (h : jq a0 a1 = some r) : EvP prog aw ext 61 [.d (aB.pd a0), .d (aB.pd a1)] [] (rB r, []) := by
 refine Ev.body rfl Tryz.func61 rfl (by kernel_rfl)<|gS rfl rfl<|sB (.ptr 32 0) 32 (.var [.d (.lst (a0.aL.map aq.pd))])<|sB (.ptr 48 0) 48 (.var [.d (.lst (a1.aL.map aq.pd))])<|sU<|sN<|gS rfl rfl<|sV (.ptr 32 0)<|sL rfl<|sV (.ptr 48 0)<|sL rfl<|bE h fun x1 hx1 h => cD (pI hx1)<|sA rfl<|sN ?_
 refine qR ?_
 exact oI h▸qD
theorem inventory_at_ev {a0 : ae} {a1 : Int} {r : ai × Bool} (h : lO a0 a1 = some r) : EvP prog aw ext 102 [.d (ae.pd a0), rI a1] [] (.tup [.d (ai.pd r.1), rB r.2], []) := by
 refine Ev.body rfl Tryz.func102 rfl (by kernel_rfl)<|gS rfl rfl<|sB (.ptr 32 0) 32 (.var (ae.rc a0))<|sB (.ptr 64 0) 64 (.var zZ2)<|sU<|sN<|qS<|gS rfl rfl<|sV (.ptr 32 4)<|sL rfl<|sE (rI (a0.aM.length : Int)) (b8 _ _)<|sV (r0)<|sN<|bE h fun o8 ho8 h => WC.block (WC.loop (WL.cv ho8 (fun s R' B' => bg prog 0 (A R' B') (aw.at_ 102 0 2) = some (A [(1, rI a1), (4, .ptr 64 0), (9, .d (.lst (a0.aM.map ai.pd))), (10, rI (a0.aM.length : Int)), (11, rI s)] [(64, .var zZ2)])) (fun o e R' B' => match o with | .inl y => e = .exit 0 ∧ bg prog 0 (A R' B') (aw.at_ 102 0 7) = some (A [(4, .ptr 64 0)] [(64, .var zZ2)]) | .inr r => e = .ret ∧ finish prog (aw.own 102) Tryz.f102 0 (A R' B') = some (.tup [.d (ai.pd r.1), rB r.2], [])) rfl ?_ ?_))
 ·rintro s1 R' B' q2 hI h
  refine gS rfl hI<|sF h (fun h => ?_) fun h => ?_
  ·refine sN<|qS<|cT<|qK<|qS<|qB<|gS rfl rfl<|bE h fun x4 hx4 h => eG hx4 rfl<|sV (.d (ai.pd x4))<|sB (.ptr 112 0) 112 (.var zZ2)<|sH 112 (.var (ai.rc x4))<|sN<|gS rfl rfl<|sV (.ptr 112 0) ?_
   refine sL rfl<|sM rfl<|sF h (fun h => ?_) fun h => ?_
   ·refine sM rfl<|sM rfl<|sV (.ptr 112 1)<|sL rfl<|sV (rB (decide (a1 < x4.fTo)))<|sF h (fun h => ?_) fun h => ?_
    ·refine sN<|cT<|gS rfl rfl<|sV (.d (ai.pd x4))<|sH 64 (.var (ai.rc x4))<|sT<|sN<|qR ?_
     cases oI h
     exact ⟨nofun, rfl, rfl⟩
    refine sN<|cF<|qK<|WC.region rfl rfl<|sV (rI (rW (s1 + (1 : Int))))<|sM rfl<|sN ?_
    cases oI h
    exact ⟨rfl, rfl⟩
   refine sM rfl<|k3<|sK<|sU<|sN<|cF<|qK<|WC.region rfl rfl<|sV (rI (rW (s1 + (1 : Int))))<|sM rfl<|sN ?_
   cases oI h
   exact ⟨rfl, rfl⟩
  refine sN<|qS<|cF<|qX ?_
  cases oI h
  exact ⟨nofun, rfl, rfl⟩
 intro e R' B' he hq
 rcases o8 with y9 | r10
 ·obtain ⟨rfl, hI⟩ := hq
  refine qE<|gS rfl hI<|sG (.agg zZ2)<|sH 64 (.var zZ2)<|sU<|sN<|qR ?_
  cases oI h
  exact qG
 obtain ⟨rfl, hf⟩ := hq
 cases oI h
 exact hf
theorem qO {a0 : ac} {a1 : ag} {a2 : Int} {r : ai × Int} (h : fu a0 a1 a2 = some r) : EvP prog aw ext 60 [.d (ac.pd a0), .d (ag.pd a1), rI a2] [] (.tup [.d (ai.pd r.1), rI r.2], []) := by
 refine Ev.body rfl Tryz.func60 rfl (by kernel_rfl)<|gS rfl rfl<|sB (.ptr 48 0) 48 (.var [.d (.lst (a0.al.map ae.pd))])<|sB (.ptr 64 0) 64 (.var [rS a1.aC, rS a1.aA, rS a1.av, rS a1.aD])<|sB (.ptr 96 0) 96 (.var zZ2)<|sV (r0)<|sN<|qS<|gS rfl rfl<|sV (.d (ac.pd a0))<|bE h fun x1 hx1 h => cD (dQ hx1)<|sF h (fun h => ?_) fun h => ?_
 ·refine sN<|cT<|gS rfl rfl<|sG (.agg zZ2)<|sH 96 (.var zZ2)<|sV (rI 1)<|sN<|qR ?_
  cases oI h
  exact qG
 refine sN<|cF<|qK<|gS rfl rfl<|sV (.d (ac.pd a0))<|sV (.d (ag.pd a1))<|bE h fun x3 hx3 h => cR (.tup [.d (ae.pd x3.1), rB x3.2]) [] (n5 hx3)<|sM rfl<|sV (.d (ae.pd x3.1))<|sV (rB x3.2)<|sB (.ptr 128 0) 128 (.var zZ3)<|sS 128 (.var (ae.rc x3.1))<|sA rfl<|sN ?_
 refine gS rfl rfl<|sV (.d (.agg [.str x3.1.ak.aC, .str x3.1.ak.aA, .str x3.1.ak.av, .str x3.1.ak.aD, .lst (x3.1.aM.map ai.pd)]))<|sM rfl<|bE h fun x4 hx4 h => cR (.tup [.d (ai.pd x4.1), rB x4.2]) [] (inventory_at_ev hx4)<|sM rfl<|sV (.d (ai.pd x4.1))<|sV (rB x4.2)<|sB (.ptr 160 0) 160 (.var zZ2)<|sH 160 (.var (ai.rc x4.1))<|sA rfl<|sN<|qS<|gS rfl rfl<|sM rfl ?_
 refine sF h (fun h => ?_) fun h => ?_
 ·refine sN<|cT<|gS rfl rfl<|sG (.agg zZ2)<|sH 96 (.var zZ2)<|sV (rI 6)<|sN<|qR ?_
  cases oI h
  exact qG
 refine sN<|cF<|qK<|gS rfl rfl<|sV (.d (.agg [.int .i64 x4.1.aJ, .int .i64 x4.1.fTo, .int .i64 x4.1.bI.aU, .int .i64 x4.1.bI.aS, .int .i64 x4.1.aF.fX, .int .i64 x4.1.aF.fY, .int .i64 x4.1.aF.fZ, .lst (x4.1.aQ.aL.map aq.pd)]))<|sH 96 (.var (ai.rc x4.1))<|sV (r0)<|sN<|qR ?_
 cases oI h
 exact qG
theorem e9 {a0 : ac} {a1 : ac} {a2 : aa} {r : Bool} (h : bT a0 a1 a2 = some r) : EvP prog aw ext 28 [.d (ac.pd a0), .d (ac.pd a1), .d (aa.pd a2)] [] (rB r, []) := by
 refine Ev.body rfl Tryz.func28 rfl (by kernel_rfl)<|gS rfl rfl<|sB (.ptr 48 0) 48 (.var [.d (.lst (a0.al.map ae.pd))])<|sB (.ptr 64 0) 64 (.var [.d (.lst (a1.al.map ae.pd))])<|sB (.ptr 80 0) 80 (.var (aa.rc a2))<|sU<|sN<|gS rfl rfl<|sV (.d (ac.pd a0))<|sV (.ptr 80 0)<|sV (.d (ag.pd a2.ak))<|sV (.ptr 80 4)<|sL rfl<|bE h fun x1 hx1 h => cR (.tup [.d (ai.pd x1.1), rI x1.2]) [] (qO hx1) ?_
 refine sM rfl<|sV (.d (ai.pd x1.1))<|sV (rI x1.2)<|sB (.ptr 112 0) 112 (.var zZ2)<|sH 112 (.var (ai.rc x1.1))<|sA rfl<|sN<|gS rfl rfl<|sV (.d (ac.pd a1))<|sV (.ptr 80 0)<|sV (.d (ag.pd a2.ak))<|sV (.ptr 80 4)<|sL rfl<|bE h fun x2 hx2 h => cR (.tup [.d (ai.pd x2.1), rI x2.2]) [] (qO hx2) ?_
 refine sM rfl<|sV (.d (ai.pd x2.1))<|sV (rI x2.2)<|sB (.ptr 144 0) 144 (.var zZ2)<|sH 144 (.var (ai.rc x2.1))<|sA rfl<|sN<|qS<|gS rfl rfl<|sM rfl<|sF h (fun h => ?_) fun h => ?_
 ·refine sM rfl<|sK<|sK<|sT<|sN<|cT<|gS rfl rfl<|sM rfl<|sV (rB (x1.2 == (0 : Int)))<|sM rfl<|sV (rB (x2.2 == (0 : Int)))<|sV (rB (!((x1.2 == (0 : Int)) == (x2.2 == (0 : Int)))))<|sA rfl<|sN<|qR ?_
  cases oI h
  exact qG
 refine sM rfl<|sM rfl<|sV (rB (x2.2 != (0 : Int)))<|sF h (fun h => ?_) fun h => ?_
 ·refine sN<|cT<|gS rfl rfl<|sM rfl<|sV (rB (x1.2 == (0 : Int)))<|sM rfl<|sV (rB (x2.2 == (0 : Int)))<|sV (rB (!((x1.2 == (0 : Int)) == (x2.2 == (0 : Int)))))<|sA rfl<|sN<|qR ?_
  cases oI h
  exact qG
 refine sN<|cF<|qK<|gS rfl rfl<|sV (.ptr 112 4)<|sV (.d (ap.pd x1.1.aF))<|sV (.ptr 144 4)<|sV (.d (ap.pd x2.1.aF))<|cY h (fun hb5 h => ?_) (fun hb5 h => ?_)
 ·refine WO.gu (eqN_28 x1.1.aF x2.1.aF) hb5 rfl rfl rfl rfl rfl<|sM rfl<|k3<|k3<|sT<|sA rfl<|sN<|qR ?_
  cases oI h
  exact qG
 refine WO.gu (eqN_28 x1.1.aF x2.1.aF) hb5 rfl rfl rfl rfl rfl<|sM rfl<|sV (.ptr 112 7)<|sV (.d (.agg [.lst (x1.1.aQ.aL.map aq.pd)]))<|sV (.ptr 144 7)<|sV (.d (.agg [.lst (x2.1.aQ.aL.map aq.pd)]))<|bE h fun x6 hx6 h => cD (ub hx6)<|sV (rB (!x6))<|sV (rB (!x6))<|sA rfl<|sN<|qR ?_
 cases oI h
 exact qG
theorem ve {a1 : (List aa)} {a2 : (List aa)} {d0 : ah} {r : (List aa) × ah} (h : jV a1 a2 d0 = some r) : EvP prog aw ext 18 [.ptr 0 0, .d (.lst (a1.map aa.pd)), .d (.lst (a2.map aa.pd))] [.var [.d (.lst (d0.fL.map (PD.int .i64))), rI d0.fAt]] (.d (.lst (r.1.map aa.pd)), [.var [.d (.lst (r.2.fL.map (PD.int .i64))), rI r.2.fAt]]) := by
 refine Ev.body rfl Tryz.func18 rfl (by kernel_rfl)<|gS rfl rfl<|sV .cu<|sN<|gS rfl rfl<|sV .cu<|sN<|qS<|gS rfl rfl<|sM rfl<|sE (rI (a1.length : Int)) (b8 _ _)<|sV (r0)<|sN<|bE h fun o15 ho15 h => WC.block (WC.loop (WL.cv ho15 (fun s R' B' => bg prog 1 (A R' B') (aw.at_ 18 1 3) = some (A [(0, .ptr 0 0), (1, .d (.lst (a1.map aa.pd))), (2, .d (.lst (a2.map aa.pd))), (7, .ref 368 0), (10, rI (a1.length : Int)), (11, rI s.1)] [(0, .var [.d (.lst (s.2.1.map (PD.int .i64))), rI s.2.2.1]), (368, .arr 0 52 (s.2.2.2.map aa.pd))])) (fun o e R' B' => e = .exit 0 ∧ bg prog 1 (A R' B') (aw.at_ 18 1 8) = some (A [(0, .ptr 0 0), (2, .d (.lst (a2.map aa.pd))), (7, .ref 368 0)] [(0, .var [.d (.lst (o.1.map (PD.int .i64))), rI o.2.1]), (368, .arr 0 52 (o.2.2.map aa.pd))])) rfl ?_ ?_))
 ·rintro ⟨s1, s2, s3, s4⟩ R' B' q8 hI h
  refine gS rfl hI<|sF h (fun h => ?_) fun h => ?_
  ·refine sN<|qS<|cT<|qK<|qS<|qB<|gS rfl rfl<|sM rfl<|sA rfl<|sN<|gS rfl rfl<|sM rfl<|bE h fun x10 hx10 h => cR (rI x10.1) [(0, .var [.d (.lst (x10.2.fL.map (PD.int .i64))), rI x10.2.fAt])] (bj hx10)<|sF h (fun h => ?_) fun h => ?_
   ·refine sN<|cT<|WC.region rfl rfl<|sM rfl<|sM rfl<|sM rfl<|bE h fun x12 hx12 h => eG hx12 rfl<|sV (.d (aa.pd x12))<|sG (.d (.lst ([x12].map aa.pd)))<|bE h fun x13 hx13 h => aR hx13 (fun _ => rfl) rfl<|sA rfl<|sN<|WC.region rfl rfl ?_
    refine sV (rI (rW (s1 + (1 : Int))))<|sM rfl<|sN ?_
    cases oI h
    exact ⟨rfl, rfl⟩
   refine sN<|cF<|qK<|WC.region rfl rfl<|sV (rI (rW (s1 + (1 : Int))))<|sM rfl<|sN ?_
   cases oI h
   exact ⟨rfl, rfl⟩
  refine sN<|qS<|cF<|qX ?_
  cases oI h
  exact ⟨nofun, rfl, rfl⟩
 intro e R' B' he hq
 obtain ⟨rfl, hI⟩ := hq
 refine qE<|qS<|gS rfl hI<|sM rfl<|bE h fun x16 hx16 h => cR (rI x16.1) [(0, .var [.d (.lst (x16.2.fL.map (PD.int .i64))), rI x16.2.fAt])] (bj hx16)<|sF h (fun h => ?_) fun h => ?_
 ·refine sM rfl<|sM rfl<|sE (rI (a2.length : Int)) (b8 _ _)<|sV (rB (decide ((a2.length : Int) > (0 : Int))))<|sF h (fun h => ?_) fun h => ?_
  ·refine sN<|cT<|WC.region rfl rfl<|sM rfl<|sM rfl<|sM rfl<|sM rfl<|sE (rI (a2.length : Int)) (b8 _ _)<|bE h fun x19 hx19 h => cR (rI x19.1) [(0, .var [.d (.lst (x19.2.fL.map (PD.int .i64))), rI x19.2.fAt])] (bj hx19)<|bE h fun x20 hx20 h => eG hx20 rfl<|sV (.d (aa.pd x20))<|sG (.d (.lst ([x20].map aa.pd)))<|bE h fun x21 hx21 h => ?_
   refine aR hx21 (fun _ => rfl) rfl<|sA rfl<|sN<|gS rfl rfl<|sM rfl<|sA rfl<|sN<|qR ?_
   exact oI h▸qD
  refine sN<|cF<|qK<|gS rfl rfl<|sM rfl<|sA rfl<|sN<|qR ?_
  exact oI h▸qD
 refine sM rfl<|k3<|sU<|sN<|cF<|qK<|gS rfl rfl<|sM rfl<|sA rfl<|sN<|qR ?_
 exact oI h▸qD
theorem mF {a0 : aa} {d1 : Int} {d2 : ac} {d3 : ac} {d4 : (List (aa × Int))} {r : Bool} (h : fa a0 d1 d2 d3 d4 = some r) : EvP prog aw ext 56 [.d (aa.pd a0), .ptr 0 0, .ptr 1 0, .ptr 2 0, .ptr 3 0] [.var [.ptr 4 0], .var [rI d1], .var [.d (.lst (d2.al.map ae.pd))], .var [.d (.lst (d3.al.map ae.pd))], .map 52 3 (d4.map fun e => (aa.pd e.1, (PD.int .i64) e.2))] (rB r, [.var [.ptr 4 0], .var [rI d1], .var [.d (.lst (d2.al.map ae.pd))], .var [.d (.lst (d3.al.map ae.pd))], .map 52 3 (d4.map fun e => (aa.pd e.1, (PD.int .i64) e.2))]) := by
 refine Ev.body rfl Tryz.func56 rfl (by kernel_rfl)<|gS rfl rfl<|sB (.ptr 80 0) 80 (.var (aa.rc a0))<|sU<|sN<|WC.bX rfl rfl<|sL rfl<|sV (.d (aa.pd a0))<|WO.look (gv := (PD.int .i64)) (z := (0 : Int)) keyT_52 rfl rfl rfl rfl rfl rfl rfl rfl<|sL rfl<|sF h (fun h => ?_) fun h => ?_
 ·refine sM rfl<|k3<|sK<|sT<|sA rfl ?_
  refine sN<|sO<|qR ?_
  cases oI h
  exact qG
 refine sM rfl<|sV (.d (ac.pd d2))<|sV (.d (ac.pd d3))<|sV (.d (aa.pd a0))<|bE h fun x2 hx2 h => cD (e9 hx2)<|sV (rB x2)<|sA rfl ?_
 refine sN<|sO<|qR ?_
 cases oI h
 exact qG
theorem pK {a0 : (List aa)} {d1 : Int} {d2 : ac} {d3 : ac} {d4 : (List (aa × Int))} {r : Int} (h : dg a0 d1 d2 d3 d4 = some r) : EvP prog aw ext 100 [.d (.lst (a0.map aa.pd)), .clo 56 [.ptr 0 0, .ptr 1 0, .ptr 2 0, .ptr 3 0]] [.var [.ptr 4 0], .var [rI d1], .var [.d (.lst (d2.al.map ae.pd))], .var [.d (.lst (d3.al.map ae.pd))], .map 52 3 (d4.map fun e => (aa.pd e.1, (PD.int .i64) e.2))] (rI r, [.var [.ptr 4 0], .var [rI d1], .var [.d (.lst (d2.al.map ae.pd))], .var [.d (.lst (d3.al.map ae.pd))], .map 52 3 (d4.map fun e => (aa.pd e.1, (PD.int .i64) e.2))]) := by
 refine Ev.body rfl Tryz.func100 rfl (by kernel_rfl)<|gS rfl rfl<|sV (r0)<|sN<|qS<|gS rfl rfl<|sM rfl<|sE (rI (a0.length : Int)) (b8 _ _)<|sV (r0)<|sN<|bE h fun o8 ho8 h => WC.block (WC.loop (WL.cv ho8 (fun s R' B' => bg prog 5 (A R' B') (aw.at_ 100 5 2) = some (A [(0, .d (.lst (a0.map aa.pd))), (1, .clo 56 [.ptr 0 0, .ptr 1 0, .ptr 2 0, .ptr 3 0]), (7, rI (a0.length : Int)), (8, rI s)] [(0, .var [.ptr 4 0]), (1, .var [rI d1]), (2, .var [.d (.lst (d2.al.map ae.pd))]), (3, .var [.d (.lst (d3.al.map ae.pd))]), (4, .map 52 3 (d4.map fun e => (aa.pd e.1, (PD.int .i64) e.2)))])) (fun o e R' B' => match o with | .inl y => e = .exit 0 ∧ bg prog 5 (A R' B') (aw.at_ 100 5 7) = some (A [] [(0, .var [.ptr 4 0]), (1, .var [rI d1]), (2, .var [.d (.lst (d2.al.map ae.pd))]), (3, .var [.d (.lst (d3.al.map ae.pd))]), (4, .map 52 3 (d4.map fun e => (aa.pd e.1, (PD.int .i64) e.2)))]) | .inr r => e = .ret ∧ finish prog (aw.own 100) Tryz.f100 5 (A R' B') = some (rI r, [.var [.ptr 4 0], .var [rI d1], .var [.d (.lst (d2.al.map ae.pd))], .var [.d (.lst (d3.al.map ae.pd))], .map 52 3 (d4.map fun e => (aa.pd e.1, (PD.int .i64) e.2))])) rfl ?_ ?_))
 ·rintro s1 R' B' q2 hI h
  refine gS rfl hI<|sF h (fun h => ?_) fun h => ?_
  ·refine sN<|qS<|cT<|qK<|qS<|qB<|gS rfl rfl<|sM rfl<|sA rfl<|sN<|gS rfl rfl<|sM rfl<|sM rfl<|sM rfl<|bE h fun x4 hx4 h => ?_
   refine eG hx4 rfl<|sV (.d (aa.pd x4))<|bE h fun x5 hx5 h => cY h (fun hb6 h => ?_) (fun hb6 h => ?_)
   ·refine WO.fj (v := rB true) (u := [(0, .var [.ptr 4 0]), (1, .var [rI d1]), (2, .var [.d (.lst (d2.al.map ae.pd))]), (3, .var [.d (.lst (d3.al.map ae.pd))]), (4, .map 52 3 (d4.map fun e => (aa.pd e.1, (PD.int .i64) e.2)))]) rfl rfl (fun _ => rfl) rfl rfl rfl rfl rfl (mF hx5) rfl rfl (congrArg (fun b => RV.d (.bool b)) hb6) rfl<|sN<|cT<|gS rfl rfl<|sM rfl<|sA rfl<|sN<|qR ?_
    cases oI h
    exact ⟨nofun, rfl, rfl⟩
   refine WO.fj (v := rB false) (u := [(0, .var [.ptr 4 0]), (1, .var [rI d1]), (2, .var [.d (.lst (d2.al.map ae.pd))]), (3, .var [.d (.lst (d3.al.map ae.pd))]), (4, .map 52 3 (d4.map fun e => (aa.pd e.1, (PD.int .i64) e.2)))]) rfl rfl (fun _ => rfl) rfl rfl rfl rfl rfl (mF hx5) rfl rfl (congrArg (fun b => RV.d (.bool b)) hb6) rfl<|sN<|cF<|qK<|WC.region rfl rfl<|sV (rI (rW (s1 + (1 : Int))))<|sM rfl<|sN ?_
   cases oI h
   exact ⟨rfl, rfl⟩
  refine sN<|qS<|cF<|qX ?_
  cases oI h
  exact ⟨nofun, rfl, rfl⟩
 intro e R' B' he hq
 rcases o8 with y9 | r10
 ·obtain ⟨rfl, hI⟩ := hq
  refine qE<|gS rfl hI<|sV (rI (-1))<|sN<|qR ?_
  exact oI h▸qD
 obtain ⟨rfl, hf⟩ := hq
 cases oI h
 exact hf
theorem nH {a0 : (List aa)} {d1 : Int} {d2 : ac} {d3 : ac} {d4 : (List (aa × Int))} {r : Bool} (h : ca a0 d1 d2 d3 d4 = some r) : EvP prog aw ext 57 [.d (.lst (a0.map aa.pd)), .clo 56 [.ptr 0 0, .ptr 1 0, .ptr 2 0, .ptr 3 0]] [.var [.ptr 4 0], .var [rI d1], .var [.d (.lst (d2.al.map ae.pd))], .var [.d (.lst (d3.al.map ae.pd))], .map 52 3 (d4.map fun e => (aa.pd e.1, (PD.int .i64) e.2))] (rB r, [.var [.ptr 4 0], .var [rI d1], .var [.d (.lst (d2.al.map ae.pd))], .var [.d (.lst (d3.al.map ae.pd))], .map 52 3 (d4.map fun e => (aa.pd e.1, (PD.int .i64) e.2))]) := by
 refine Ev.body rfl Tryz.func57 rfl (by kernel_rfl)<|gS rfl rfl<|sU<|sN<|gS rfl rfl<|sM rfl<|sM rfl<|bE h fun x1 hx1 h => cR (rI x1) [(0, .var [.ptr 4 0]), (1, .var [rI d1]), (2, .var [.d (.lst (d2.al.map ae.pd))]), (3, .var [.d (.lst (d3.al.map ae.pd))]), (4, .map 52 3 (d4.map fun e => (aa.pd e.1, (PD.int .i64) e.2)))] (pK hx1)<|sV (rB (decide (x1 ≥ (0 : Int))))<|sA rfl<|sN<|qR ?_
 exact oI h▸qD
theorem l9 {a0 : Int} {a1 : (List aa)} {a2 : (List aa)} {a3 : ac} {a4 : ac} {r : (List Int) × Int} (h : cp a0 a1 a2 a3 a4 = some r) : EvP prog aw ext 25 [rI a0, .d (.lst (a1.map aa.pd)), .d (.lst (a2.map aa.pd)), .d (ac.pd a3), .d (ac.pd a4)] [] (.tup [.d (.lst (r.1.map (PD.int .i64))), rI r.2], []) := by
 refine Ev.body rfl Tryz.func25 rfl (by kernel_rfl)<|gS rfl rfl<|sB (.ptr 128 0) 128 (.var [.d (.lst (a3.al.map ae.pd))])<|sB (.ptr 144 0) 144 (.var [.d (.lst (a4.al.map ae.pd))])<|sV .cu<|sV (r0)<|sN<|qS<|qB<|gS rfl rfl<|sM rfl<|sF h (fun h => ?_) fun h => ?_
 ·refine sM rfl<|sK<|sK<|sT<|sA rfl<|sN<|cT<|gS rfl rfl<|sV .cu<|sV (rI 2)<|sN<|qR ?_
  exact oI h▸qD
 refine sM rfl<|sM rfl<|sV (rB (decide (a0 > (1099511627776 : Int))))<|sF h (fun h => ?_) fun h => ?_
 ·refine sA rfl<|sN<|cT<|gS rfl rfl<|sV .cu<|sV (rI 2)<|sN<|qR ?_
  exact oI h▸qD
 refine sA rfl<|sN<|cF<|gS rfl rfl<|sM rfl<|bE h fun x3 hx3 h => cD (ma hx3)<|sF h (fun h => ?_) fun h => ?_
 ·refine sM rfl<|k3<|sT<|sM rfl<|k3<|sT<|sM rfl<|k3<|sT ?_
  refine sA rfl<|sN<|cT<|gS rfl rfl<|sV .cu<|sV (rI 1)<|sN<|qR ?_
  exact oI h▸qD
 refine sM rfl<|sM rfl<|bE h fun x5 hx5 h => cD (ma hx5)<|sV (rB (!x5))<|sF h (fun h => ?_) fun h => ?_
 ·refine sM rfl<|k3<|sT<|sM rfl<|k3<|sT<|sA rfl<|sN<|cT<|gS rfl rfl<|sV .cu ?_
  refine sV (rI 1)<|sN<|qR ?_
  exact oI h▸qD
 refine sM rfl<|sV (.d (ac.pd a3))<|bE h fun x7 hx7 h => cD (dQ hx7)<|sV (rB (!x7))<|sF h (fun h => ?_) fun h => ?_
 ·refine sM rfl<|k3<|sT<|sA rfl<|sN<|cT<|gS rfl rfl<|sV .cu<|sV (rI 1)<|sN<|qR ?_
  exact oI h▸qD
 refine sM rfl<|sV (.d (ac.pd a4))<|bE h fun x9 hx9 h => cD (dQ hx9)<|sV (rB (!x9))<|sF h (fun h => ?_) fun h => ?_
 ·refine sA rfl<|sN<|cT<|gS rfl rfl<|sV .cu<|sV (rI 1)<|sN<|qR ?_
  exact oI h▸qD
 refine sA rfl<|sN<|cF<|qK<|gS rfl rfl<|sM rfl<|sM rfl<|bE h fun x11 hx11 h => cD (kF hx11)<|sA rfl<|sN<|gS rfl rfl<|sB (.ptr 832 0) 832 (.map 52 3 (([] : List (aa × Int)).map fun e => (aa.pd e.1, (PD.int .i64) e.2)))<|sB (.ptr 208 0) 208 (.var [.d (.raw (.map none))])<|sS 208 (.var [.ptr 832 0]) ?_
 refine sN<|qS<|gS rfl rfl<|sM rfl<|sE (rI (x11.length : Int)) (b8 _ _)<|sV (r0)<|sN<|bE h fun o28 ho28 h => WC.block (WC.loop (WL.cv ho28 (fun s R' B' => bg prog 0 (A R' B') (aw.at_ 25 0 8) = some (A [(0, rI a0), (2, .d (.lst (a2.map aa.pd))), (8, .ptr 128 0), (9, .ptr 144 0), (12, .d (.lst (x11.map (fun l => PD.lst (l.map aa.pd))))), (13, .ptr 208 0), (53, .d (.lst (x11.map (fun l => PD.lst (l.map aa.pd))))), (54, rI (x11.length : Int)), (55, rI s.1)] [(128, .var [.d (.lst (a3.al.map ae.pd))]), (144, .var [.d (.lst (a4.al.map ae.pd))]), (208, .var [.ptr 832 0]), (832, .map 52 3 (s.2.map fun e => (aa.pd e.1, (PD.int .i64) e.2)))])) (fun o e R' B' => e = .exit 1 ∧ bg prog 0 (A R' B') (aw.at_ 25 0 16) = some (A [(0, rI a0), (2, .d (.lst (a2.map aa.pd))), (8, .ptr 128 0), (9, .ptr 144 0), (12, .d (.lst (x11.map (fun l => PD.lst (l.map aa.pd))))), (13, .ptr 208 0)] [(128, .var [.d (.lst (a3.al.map ae.pd))]), (144, .var [.d (.lst (a4.al.map ae.pd))]), (208, .var [.ptr 832 0]), (832, .map 52 3 (o.map fun e => (aa.pd e.1, (PD.int .i64) e.2)))])) rfl ?_ ?_))
 ·rintro ⟨s12, s13⟩ R' B' q15 hI h
  refine gS rfl hI<|sF h (fun h => ?_) fun h => ?_
  ·refine sN<|qS<|cT<|qK<|qS<|qB<|gS rfl rfl<|sM rfl<|bE h fun x17 hx17 h => eG hx17 rfl<|sC rfl<|sA rfl<|sA rfl<|sN<|gS rfl rfl ?_
   refine sM rfl<|sE (rI (x17.length : Int)) (b8 _ _)<|sV (r0)<|sN<|bE h fun o26 ho26 h => WC.block (WC.loop (WL.cv ho26 (fun s R' B' => bg prog 0 (A R' B') (aw.at_ 25 0 11) = some (A [(0, rI a0), (2, .d (.lst (a2.map aa.pd))), (8, .ptr 128 0), (9, .ptr 144 0), (12, .d (.lst (x11.map (fun l => PD.lst (l.map aa.pd))))), (13, .ptr 208 0), (14, rI s12), (53, .d (.lst (x11.map (fun l => PD.lst (l.map aa.pd))))), (54, rI (x11.length : Int)), (55, rI s12), (60, .d (.lst (x17.map aa.pd))), (61, rI (x17.length : Int)), (62, rI s.1)] [(128, .var [.d (.lst (a3.al.map ae.pd))]), (144, .var [.d (.lst (a4.al.map ae.pd))]), (208, .var [.ptr 832 0]), (832, .map 52 3 (s.2.map fun e => (aa.pd e.1, (PD.int .i64) e.2)))])) (fun o e R' B' => e = .exit 3 ∧ bg prog 0 (A R' B') (aw.at_ 25 0 15) = some (A [(0, rI a0), (2, .d (.lst (a2.map aa.pd))), (8, .ptr 128 0), (9, .ptr 144 0), (12, .d (.lst (x11.map (fun l => PD.lst (l.map aa.pd))))), (13, .ptr 208 0), (53, .d (.lst (x11.map (fun l => PD.lst (l.map aa.pd))))), (54, rI (x11.length : Int)), (55, rI o.1)] [(128, .var [.d (.lst (a3.al.map ae.pd))]), (144, .var [.d (.lst (a4.al.map ae.pd))]), (208, .var [.ptr 832 0]), (832, .map 52 3 (o.2.map fun e => (aa.pd e.1, (PD.int .i64) e.2)))])) rfl ?_ ?_))
   ·rintro ⟨s18, s19⟩ R' B' q22 hI h
    refine gS rfl hI<|sF h (fun h => ?_) fun h => ?_
    ·refine sN<|qS<|cT<|qK<|qS<|qB<|gS rfl rfl<|bE h fun x24 hx24 h => eG hx24 rfl<|sV (.d (aa.pd x24))<|sB (.ptr 272 0) 272 (.var zZ1)<|sH 272 (.var (aa.rc x24))<|sN<|WC.region rfl rfl<|sL rfl ?_
     refine sV (.d (aa.pd x24))<|sM rfl<|sV (rI (rW (s12 + (1 : Int))))<|WO.mput (gv := (PD.int .i64)) (y := (rW (s12 + (1 : Int)))) keyT_52 rfl rfl rfl rfl rfl rfl rfl rfl rfl rfl<|sN<|WC.region rfl rfl<|sV (rI (rW (s18 + (1 : Int))))<|sM rfl<|sN ?_
     cases oI h
     exact ⟨rfl, rfl⟩
    refine sN<|qS<|cF<|qX ?_
    cases oI h
    exact ⟨nofun, rfl, rfl⟩
   intro e R' B' he hq
   obtain ⟨rfl, hI⟩ := hq
   refine qE<|WC.region hI rfl<|sV (rI (rW (o26.1 + (1 : Int))))<|sM rfl<|sN ?_
   cases oI h
   exact ⟨rfl, rfl⟩
  refine sN<|qS<|cF<|qX ?_
  cases oI h
  exact ⟨nofun, rfl, rfl⟩
 intro e R' B' he hq
 obtain ⟨rfl, hI⟩ := hq
 refine qE<|gS rfl hI<|sV .cu<|sN<|qS<|gS rfl rfl<|sM rfl<|sM rfl<|bE h fun x29 hx29 h => cD (kF hx29)<|sE (rI (x29.length : Int)) (b8 _ _)<|sV (r0)<|sN<|bE h fun o46 ho46 h => WC.block (WC.loop (WL.cv ho46 (fun s R' B' => bg prog 0 (A R' B') (aw.at_ 25 0 18) = some (A [(8, .ptr 128 0), (9, .ptr 144 0), (12, .d (.lst (x11.map (fun l => PD.lst (l.map aa.pd))))), (13, .ptr 208 0), (18, .ref 1728 0), (74, .d (.lst (x29.map (fun l => PD.lst (l.map aa.pd))))), (75, rI (x29.length : Int)), (76, rI s.1)] [(128, .var [.d (.lst (a3.al.map ae.pd))]), (144, .var [.d (.lst (a4.al.map ae.pd))]), (208, .var [.ptr 832 0]), (832, .map 52 3 (o28.map fun e => (aa.pd e.1, (PD.int .i64) e.2))), (1728, .arr 0 3 (s.2.map (PD.int .i64)))])) (fun o e R' B' => e = .exit 5 ∧ bg prog 0 (A R' B') (aw.at_ 25 0 25) = some (A [(18, .ref 1728 0)] [(1728, .arr 0 3 (o.map (PD.int .i64)))])) rfl ?_ ?_))
 ·rintro ⟨s30, s31⟩ R' B' q33 hI h
  refine gS rfl hI<|sF h (fun h => ?_) fun h => ?_
  ·refine sN<|qS<|cT<|qK<|qS<|qB<|gS rfl rfl<|sM rfl<|bE h fun x35 hx35 h => eG hx35 rfl<|sC rfl<|sA rfl<|sA rfl<|sN<|WC.bX rfl rfl ?_
   refine sL rfl<|sM rfl<|bE h fun x36 hx36 h => eG hx36 rfl<|sV (.d (aa.pd x36))<|WO.look (gv := (PD.int .i64)) (z := (0 : Int)) keyT_52 rfl rfl rfl rfl rfl rfl rfl rfl<|sB (.ptr 336 0) 336 (.var [r0])<|sS 336 (.var [rI (gl oM x36 (0 : Int) o28)]) ?_
   refine sN<|sO<|gS rfl rfl<|sV (.clo 56 [.ptr 208 0, .ptr 336 0, .ptr 128 0, .ptr 144 0])<|sA rfl<|sN<|gS rfl rfl<|sL rfl<|sF h (fun h => ?_) fun h => ?_
   ·refine sM rfl<|k3<|k3<|k3<|sT<|sM rfl<|sK<|sK<|sK ?_
    refine sT<|sN<|cT<|WC.region rfl rfl<|sM rfl<|sM rfl<|sV (.d (.lst ([s30].map (PD.int .i64))))<|bE h fun x38 hx38 h => aR hx38 (fun _ => rfl) rfl<|sA rfl<|sN<|WC.region rfl rfl<|sV (rI (rW (s30 + (1 : Int))))<|sM rfl<|sN ?_
    cases oI h
    exact ⟨rfl, rfl⟩
   refine sM rfl<|sM rfl<|sL rfl<|sV (rI (rW ((gl oM x36 (0 : Int) o28) - (1 : Int))))<|bE h fun x39 hx39 h => eG hx39 rfl<|sC rfl<|sE (rI (x39.length : Int)) (b8 _ _)<|sM rfl<|sE (rI (x35.length : Int)) (b8 _ _)<|sV (rB ((x39.length : Int) != (x35.length : Int)))<|sF h (fun h => ?_) fun h => ?_
   ·refine sM rfl<|k3<|sT<|sN<|cT<|WC.region rfl rfl<|sM rfl<|sM rfl<|sV (.d (.lst ([s30].map (PD.int .i64))))<|bE h fun x41 hx41 h => aR hx41 (fun _ => rfl) rfl<|sA rfl<|sN ?_
    refine WC.region rfl rfl<|sV (rI (rW (s30 + (1 : Int))))<|sM rfl<|sN ?_
    cases oI h
    exact ⟨rfl, rfl⟩
   refine sM rfl<|sM rfl<|sM rfl<|bE h fun x42 hx42 h => cR (rB x42) [(208, .var [.ptr 832 0]), (336, .var [rI (gl oM x36 (0 : Int) o28)]), (128, .var [.d (.lst (a3.al.map ae.pd))]), (144, .var [.d (.lst (a4.al.map ae.pd))]), (832, .map 52 3 (o28.map fun e => (aa.pd e.1, (PD.int .i64) e.2)))] (nH hx42)<|sF h (fun h => ?_) fun h => ?_
   ·refine sN<|cT<|WC.region rfl rfl<|sM rfl<|sM rfl<|sV (.d (.lst ([s30].map (PD.int .i64))))<|bE h fun x44 hx44 h => aR hx44 (fun _ => rfl) rfl<|sA rfl<|sN<|WC.region rfl rfl<|sV (rI (rW (s30 + (1 : Int))))<|sM rfl<|sN ?_
    cases oI h
    exact ⟨rfl, rfl⟩
   refine sN<|cF<|qK<|WC.region rfl rfl<|sV (rI (rW (s30 + (1 : Int))))<|sM rfl<|sN ?_
   cases oI h
   exact ⟨rfl, rfl⟩
  refine sN<|qS<|cF<|qX ?_
  cases oI h
  exact ⟨nofun, rfl, rfl⟩
 intro e R' B' he hq
 obtain ⟨rfl, hI⟩ := hq
 refine qE<|gS rfl hI<|sM rfl<|sA rfl<|sV (r0)<|sN<|qR ?_
 exact oI h▸qD
theorem vB {a0 : aB} {r : Bool} (h : fe a0 = some r) : EvP prog aw ext 47 [.d (aB.pd a0)] [] (rB r, []) := by
 refine Ev.body rfl Tryz.func47 rfl (by kernel_rfl)<|gS rfl rfl<|sB (.ptr 16 0) 16 (.var [.d (.lst (a0.aL.map aq.pd))])<|sU<|sN<|qS<|gS rfl rfl<|sV (.ptr 16 0)<|sL rfl<|sE (rI (a0.aL.length : Int)) (b8 _ _)<|sV (r0)<|sN<|bE h fun o7 ho7 h => WC.block (WC.loop (WL.cv ho7 (fun s R' B' => bg prog 0 (A R' B') (aw.at_ 47 0 2) = some (A [(1, .ptr 16 0), (6, rI (a0.aL.length : Int)), (7, rI s)] [(16, .var [.d (.lst (a0.aL.map aq.pd))])])) (fun o e R' B' => match o with | .inl y => e = .exit 0 ∧ bg prog 0 (A R' B') (aw.at_ 47 0 7) = some (A [(1, .ptr 16 0)] [(16, .var [.d (.lst (a0.aL.map aq.pd))])]) | .inr r => e = .ret ∧ finish prog (aw.own 47) Tryz.f47 0 (A R' B') = some (rB r, [])) rfl ?_ ?_))
 ·rintro s1 R' B' q2 hI h
  refine gS rfl hI<|sF h (fun h => ?_) fun h => ?_
  ·refine sN<|qS<|cT<|qK<|qS<|qB<|gS rfl rfl<|sM rfl<|sA rfl<|sN<|gS rfl rfl<|sV (.ptr 16 0)<|sL rfl<|sM rfl<|bE h fun x4 hx4 h => ?_
   refine eG hx4 rfl<|sV (.cptr [.lst (x4.bc.map (PD.int .i64)), .int .i64 x4.aX, .int .i64 x4.bi])<|sC rfl<|sE (rI (x4.bc.length : Int)) (b8 _ _)<|sF h (fun h => ?_) fun h => ?_
   ·refine sN<|cT<|gS rfl rfl<|sU<|sN<|qR ?_
    cases oI h
    exact ⟨nofun, rfl, rfl⟩
   refine sN<|cF<|qK<|WC.region rfl rfl<|sV (rI (rW (s1 + (1 : Int))))<|sM rfl<|sN ?_
   cases oI h
   exact ⟨rfl, rfl⟩
  refine sN<|qS<|cF<|qX ?_
  cases oI h
  exact ⟨nofun, rfl, rfl⟩
 intro e R' B' he hq
 rcases o7 with y8 | r9
 ·obtain ⟨rfl, hI⟩ := hq
  refine qE<|gS rfl hI<|sV (.ptr 16 0)<|sL rfl<|sE (rI (a0.aL.length : Int)) (b8 _ _)<|sV (rB (decide ((a0.aL.length : Int) ≤ (12 : Int))))<|sA rfl<|sN<|qR ?_
  exact oI h▸qD
 obtain ⟨rfl, hf⟩ := hq
 cases oI h
 exact hf
theorem uz {a0 : ac} {r : Bool} (h : eL a0 = some r) : EvP prog aw ext 17 [.d (ac.pd a0)] [] (rB r, []) := by
 refine Ev.body rfl Tryz.func17 rfl (by kernel_rfl)<|gS rfl rfl<|sB (.ptr 16 0) 16 (.var [.d (.lst (a0.al.map ae.pd))])<|sU<|sN<|qS<|gS rfl rfl<|sV (.ptr 16 0)<|sL rfl<|sE (rI (a0.al.length : Int)) (b8 _ _)<|sV (r0)<|sN<|bE h fun o20 ho20 h => WC.block (WC.loop (WL.cv ho20 (fun s R' B' => bg prog 0 (A R' B') (aw.at_ 17 0 2) = some (A [(1, .ptr 16 0), (7, rI (a0.al.length : Int)), (8, rI s)] [(16, .var [.d (.lst (a0.al.map ae.pd))])])) (fun o e R' B' => match o with | .inl y => e = .exit 0 ∧ bg prog 0 (A R' B') (aw.at_ 17 0 13) = some (A [(1, .ptr 16 0)] [(16, .var [.d (.lst (a0.al.map ae.pd))])]) | .inr r => e = .ret ∧ finish prog (aw.own 17) Tryz.f17 0 (A R' B') = some (rB r, [])) rfl ?_ ?_))
 ·rintro s1 R' B' q2 hI h
  refine gS rfl hI<|sF h (fun h => ?_) fun h => ?_
  ·refine sN<|qS<|cT<|qK<|qS<|qB<|gS rfl rfl<|sM rfl<|sA rfl<|sN<|qS<|gS rfl rfl<|sV (.ptr 16 0)<|sL rfl<|sM rfl ?_
   refine bE h fun x4 hx4 h => eG hx4 rfl<|sV (.cptr [.lst (x4.aM.map ai.pd)])<|sC rfl<|sE (rI (x4.aM.length : Int)) (b8 _ _)<|sF h (fun h => ?_) fun h => ?_
   ·refine sN<|cT<|gS rfl rfl<|sU<|sN<|qR ?_
    cases oI h
    exact ⟨nofun, rfl, rfl⟩
   refine sN<|cF<|qK<|gS rfl rfl<|sV (.ptr 16 0)<|sL rfl<|sM rfl<|bE h fun x6 hx6 h => eG hx6 rfl<|sV (.cptr [.lst (x6.aM.map ai.pd)])<|sC rfl<|sE (rI (x6.aM.length : Int)) (b8 _ _)<|sV (r0)<|sN<|bE h fun o16 ho16 h => ?_
   refine WC.block (WC.loop (WL.cv ho16 (fun s R' B' => bg prog 0 (A R' B') (aw.at_ 17 0 7) = some (A [(1, .ptr 16 0), (3, rI s1), (7, rI (a0.al.length : Int)), (8, rI s1), (25, rI (x6.aM.length : Int)), (26, rI s)] [(16, .var [.d (.lst (a0.al.map ae.pd))])])) (fun o e R' B' => match o with | .inl y => e = .exit 2 ∧ bg prog 0 (A R' B') (aw.at_ 17 0 12) = some (A [(1, .ptr 16 0), (7, rI (a0.al.length : Int)), (8, rI y)] [(16, .var [.d (.lst (a0.al.map ae.pd))])]) | .inr r => e = .ret ∧ finish prog (aw.own 17) Tryz.f17 0 (A R' B') = some (rB r, [])) rfl ?_ ?_))
   ·rintro s7 R' B' q9 hI h
    refine gS rfl hI<|sF h (fun h => ?_) fun h => ?_
    ·refine sN<|qS<|cT<|qK<|qS<|qB<|gS rfl rfl<|sM rfl<|sA rfl<|sN<|gS rfl rfl<|sV (.ptr 16 0)<|sL rfl<|sM rfl<|bE h fun x11 hx11 h => ?_
     refine eG hx11 rfl<|sV (.cptr [.lst (x11.aM.map ai.pd)])<|sC rfl<|sM rfl<|bE h fun x12 hx12 h => eG hx12 rfl<|sV (.cptr [.lst (x12.aQ.aL.map aq.pd)])<|sV (.d (aB.pd x12.aQ))<|bE h fun x13 hx13 h => cD (vB hx13)<|sF h (fun h => ?_) fun h => ?_
     ·refine sN<|cT<|gS rfl rfl<|sU<|sN<|qR ?_
      cases oI h
      exact ⟨nofun, rfl, rfl⟩
     refine sN<|cF<|qK<|WC.region rfl rfl<|sV (rI (rW (s7 + (1 : Int))))<|sM rfl<|sN ?_
     cases oI h
     exact ⟨rfl, rfl⟩
    refine sN<|qS<|cF<|qX ?_
    cases oI h
    exact ⟨nofun, rfl, rfl⟩
   intro e R' B' he hq
   rcases o16 with y17 | r18
   ·obtain ⟨rfl, hI⟩ := hq
    refine qE<|WC.region hI rfl<|sV (rI (rW (y17 + (1 : Int))))<|sM rfl<|sN ?_
    cases oI h
    exact ⟨rfl, rfl⟩
   obtain ⟨rfl, hf⟩ := hq
   cases oI h
   exact ⟨nofun, rfl, hf⟩
  refine sN<|qS<|cF<|qX ?_
  cases oI h
  exact ⟨nofun, rfl, rfl⟩
 intro e R' B' he hq
 rcases o20 with y21 | r22
 ·obtain ⟨rfl, hI⟩ := hq
  refine qE<|gS rfl hI<|sV (.ptr 16 0)<|sL rfl<|sE (rI (a0.al.length : Int)) (b8 _ _)<|sV (rB (decide ((a0.al.length : Int) ≤ (10 : Int))))<|sA rfl<|sN<|qR ?_
  exact oI h▸qD
 obtain ⟨rfl, hf⟩ := hq
 cases oI h
 exact hf
theorem Src_BentPick_ev {a1 : aa} {d0 : ah} {r : aa × ah} (h : lG a1 d0 = some r) : EvP prog aw ext 20 [.ptr 0 0, .d (aa.pd a1)] [.var [.d (.lst (d0.fL.map (PD.int .i64))), rI d0.fAt]] (.d (aa.pd r.1), [.var [.d (.lst (r.2.fL.map (PD.int .i64))), rI r.2.fAt]]) := by
 refine Ev.body rfl Tryz.func20 rfl (by kernel_rfl)<|gS rfl rfl<|sB (.ptr 48 0) 48 (.var (aa.rc a1))<|sB (.ptr 64 0) 64 (.var zZ1)<|sN<|qS<|gS rfl rfl<|sM rfl<|bE h fun x1 hx1 h => cR (rI x1.1) [(0, .var [.d (.lst (x1.2.fL.map (PD.int .i64))), rI x1.2.fAt])] (bj hx1)<|sN<|qB<|gS rfl rfl<|sF h (fun h => ?_) fun h => ?_
 ·refine sA rfl<|sN<|cT<|WC.region rfl rfl<|sV (.ptr 48 0)<|sV (.ptr 48 1)<|sS 48 (.var [rS a1.ak.aC, rS [], rS a1.ak.av, rS a1.ak.aD, rI a1.aN, rI a1.aG, rI a1.aY, rI a1.aH, rI a1.aK])<|sN<|gS rfl rfl<|sV (.d (aa.pd (aa.mk (ag.mk a1.ak.aC [] a1.ak.av a1.ak.aD) a1.aN a1.aG a1.aY a1.aH a1.aK)))<|sH 64 (.var [rS a1.ak.aC, rS [], rS a1.ak.av, rS a1.ak.aD, rI a1.aN, rI a1.aG, rI a1.aY, rI a1.aH, rI a1.aK])<|sN<|qR ?_
  cases oI h
  exact qG
 refine sA rfl<|sN<|cF<|gS rfl rfl<|sF h (fun h => ?_) fun h => ?_
 ·refine sA rfl<|sN<|cT<|WC.region rfl rfl<|sV (.ptr 48 4)<|sL rfl<|sV (rI (rW (a1.aN + (1 : Int))))<|sV (.ptr 48 5)<|sS 48 (.var [rS a1.ak.aC, rS a1.ak.aA, rS a1.ak.av, rS a1.ak.aD, rI a1.aN, rI (rW (a1.aN + (1 : Int))), rI a1.aY, rI a1.aH, rI a1.aK])<|sN<|gS rfl rfl<|sV (.d (aa.pd (aa.mk a1.ak a1.aN (rW (a1.aN + (1 : Int))) a1.aY a1.aH a1.aK)))<|sH 64 (.var [rS a1.ak.aC, rS a1.ak.aA, rS a1.ak.av, rS a1.ak.aD, rI a1.aN, rI (rW (a1.aN + (1 : Int))), rI a1.aY, rI a1.aH, rI a1.aK])<|sN<|qR ?_
  cases oI h
  exact qG
 refine sA rfl<|sN<|cF<|gS rfl rfl<|sF h (fun h => ?_) fun h => ?_
 ·refine sA rfl<|sN<|cT<|WC.region rfl rfl<|sM rfl<|sV (.d (.lst ([0, 18014398509481984, 18014398509481985].map (PD.int .i64))))<|bE h fun x5 hx5 h => cR (rI x5.1) [(0, .var [.d (.lst (x5.2.fL.map (PD.int .i64))), rI x5.2.fAt])] (cz hx5)<|sV (.ptr 48 6)<|sS 48 (.var [rS a1.ak.aC, rS a1.ak.aA, rS a1.ak.av, rS a1.ak.aD, rI a1.aN, rI a1.aG, rI x5.1, rI a1.aH, rI a1.aK])<|sN<|gS rfl rfl<|sV (.d (aa.pd (aa.mk a1.ak a1.aN a1.aG x5.1 a1.aH a1.aK)))<|sH 64 (.var [rS a1.ak.aC, rS a1.ak.aA, rS a1.ak.av, rS a1.ak.aD, rI a1.aN, rI a1.aG, rI x5.1, rI a1.aH, rI a1.aK])<|sN ?_
  refine qR ?_
  cases oI h
  exact qG
 refine sA rfl<|sN<|cF<|gS rfl rfl<|sF h (fun h => ?_) fun h => ?_
 ·refine sA rfl<|sN<|cT<|WC.region rfl rfl<|sM rfl<|sV (.d (.lst ([-1, 0, 1073741823, 1073741824].map (PD.int .i64))))<|bE h fun x7 hx7 h => cR (rI x7.1) [(0, .var [.d (.lst (x7.2.fL.map (PD.int .i64))), rI x7.2.fAt])] (cz hx7)<|sV (.ptr 48 7)<|sS 48 (.var [rS a1.ak.aC, rS a1.ak.aA, rS a1.ak.av, rS a1.ak.aD, rI a1.aN, rI a1.aG, rI a1.aY, rI x7.1, rI a1.aK])<|sN<|gS rfl rfl<|sV (.d (aa.pd (aa.mk a1.ak a1.aN a1.aG a1.aY x7.1 a1.aK)))<|sH 64 (.var [rS a1.ak.aC, rS a1.ak.aA, rS a1.ak.av, rS a1.ak.aD, rI a1.aN, rI a1.aG, rI a1.aY, rI x7.1, rI a1.aK])<|sN ?_
  refine qR ?_
  cases oI h
  exact qG
 refine sA rfl<|sN<|cF<|WC.region rfl rfl<|sM rfl<|bE h fun x8 hx8 h => cR (rI x8.1) [(0, .var [.d (.lst (x8.2.fL.map (PD.int .i64))), rI x8.2.fAt])] (bj hx8)<|sV (rI (rW (x8.1 - (2 : Int))))<|sV (.ptr 48 8)<|sS 48 (.var [rS a1.ak.aC, rS a1.ak.aA, rS a1.ak.av, rS a1.ak.aD, rI a1.aN, rI a1.aG, rI a1.aY, rI a1.aH, rI (rW (x8.1 - (2 : Int)))])<|sN<|gS rfl rfl<|sV (.d (aa.pd (aa.mk a1.ak a1.aN a1.aG a1.aY a1.aH (rW (x8.1 - (2 : Int))))))<|sH 64 (.var [rS a1.ak.aC, rS a1.ak.aA, rS a1.ak.av, rS a1.ak.aD, rI a1.aN, rI a1.aG, rI a1.aY, rI a1.aH, rI (rW (x8.1 - (2 : Int)))])<|sN ?_
 refine qR ?_
 cases oI h
 exact qG
theorem kx {a0 : (List UInt8)} {a1 : Int} {a2 : Int} {r : Bool} (h : jj a0 a1 a2 = some r) : EvP prog aw ext 133 [rS a0, rI a1, rI a2] [] (rB r, []) := by
 refine Ev.body rfl Tryz.func133 rfl (by kernel_rfl)<|gS rfl rfl<|sU<|sN<|qS<|gS rfl rfl<|sV (r0)<|sN<|bE h fun o17 ho17 h => WC.block (WC.loop (WL.cv ho17 (fun s R' B' => bg prog 0 (A R' B') (aw.at_ 133 0 2) = some (A [(0, rS a0), (1, rI a1), (2, rI a2), (7, rI s)] [])) (fun o e R' B' => match o with | .inl y => e = .exit 0 ∧ bg prog 0 (A R' B') (aw.at_ 133 0 6) = some (A [(0, rS a0), (1, rI a1), (2, rI a2)] []) | .inr r => e = .ret ∧ finish prog (aw.own 133) Tryz.f133 0 (A R' B') = some (rB r, [])) rfl ?_ ?_))
 ·rintro s1 R' B' q2 hI h
  refine qS<|gS rfl hI<|sM rfl<|sM rfl<|sV (rI (a0.length : Int))<|sF h (fun h => ?_) fun h => ?_
  ·refine sN<|cT<|qK<|qS<|qB<|gS rfl rfl<|sM rfl<|sM rfl<|bE h fun x4 hx4 h => WO.rY hx4 rfl rfl rfl rfl rfl rfl<|sF h (fun h => ?_) fun h => ?_
   ·refine sM rfl<|sM rfl<|sM rfl<|bE h fun x6 hx6 h => WO.rY hx6 rfl rfl rfl rfl rfl rfl<|sV (rB (decide (x6 ≤ (90 : Int))))<|sF h (fun h => ?_) fun h => ?_
    ·refine sM rfl<|k3<|k3<|k3<|sK<|sT<|sU<|sN<|cF ?_
     refine qK<|WC.region rfl rfl<|sM rfl<|sV (rI (rW (s1 + (1 : Int))))<|sA rfl<|sN ?_
     cases oI h
     exact ⟨rfl, rfl⟩
    refine sM rfl<|sM rfl<|sM rfl<|bE h fun x8 hx8 h => WO.rY hx8 rfl rfl rfl rfl rfl rfl<|sF h (fun h => ?_) fun h => ?_
    ·refine sM rfl<|sM rfl<|sM rfl<|bE h fun x10 hx10 h => WO.rY hx10 rfl rfl rfl rfl rfl rfl<|sV (rB (decide (x10 ≤ (57 : Int))))<|sV (rB (decide (x10 ≤ (57 : Int))))<|sV (rB (decide (x10 ≤ (57 : Int))))<|sF h (fun h => ?_) fun h => ?_
     ·refine sN<|cT<|gS rfl rfl<|sU<|sN<|qR ?_
      cases oI h
      exact ⟨nofun, rfl, rfl⟩
     refine sN<|cF<|qK<|WC.region rfl rfl<|sM rfl<|sV (rI (rW (s1 + (1 : Int))))<|sA rfl<|sN ?_
     cases oI h
     exact ⟨rfl, rfl⟩
    refine sM rfl<|k3<|sK<|sU<|sU<|sT<|sN<|cT<|gS rfl rfl<|sU<|sN<|qR ?_
    cases oI h
    exact ⟨nofun, rfl, rfl⟩
   refine sM rfl<|k3<|sK<|sU<|sM rfl<|sM rfl<|sM rfl<|bE h fun x12 hx12 h => WO.rY hx12 rfl rfl rfl rfl rfl rfl<|sF h (fun h => ?_) fun h => ?_
   ·refine sM rfl<|sM rfl<|sM rfl<|bE h fun x14 hx14 h => WO.rY hx14 rfl rfl rfl rfl rfl rfl<|sV (rB (decide (x14 ≤ (57 : Int))))<|sV (rB (decide (x14 ≤ (57 : Int))))<|sV (rB (decide (x14 ≤ (57 : Int))))<|sF h (fun h => ?_) fun h => ?_
    ·refine sN<|cT<|gS rfl rfl<|sU<|sN<|qR ?_
     cases oI h
     exact ⟨nofun, rfl, rfl⟩
    refine sN<|cF<|qK<|WC.region rfl rfl<|sM rfl<|sV (rI (rW (s1 + (1 : Int))))<|sA rfl<|sN ?_
    cases oI h
    exact ⟨rfl, rfl⟩
   refine sM rfl<|k3<|sK<|sU<|sU<|sT<|sN<|cT<|gS rfl rfl<|sU<|sN<|qR ?_
   cases oI h
   exact ⟨nofun, rfl, rfl⟩
  refine sN<|cF<|qX ?_
  cases oI h
  exact ⟨nofun, rfl, rfl⟩
 intro e R' B' he hq
 rcases o17 with y18 | r19
 ·obtain ⟨rfl, hI⟩ := hq
  refine qE<|gS rfl hI<|sM rfl<|sV (rI (a0.length : Int))<|sM rfl<|sF h (fun h => ?_) fun h => ?_
  ·refine sM rfl<|sM rfl<|sV (rI (a0.length : Int))<|sM rfl<|sV (rB (decide ((a0.length : Int) ≤ a2)))<|sV (rB (decide ((a0.length : Int) ≤ a2)))<|sA rfl<|sN<|qR ?_
   exact oI h▸qD
  refine sM rfl<|k3<|sK<|sU<|sA rfl<|sN<|qR ?_
  exact oI h▸qD
 obtain ⟨rfl, hf⟩ := hq
 cases oI h
 exact hf
theorem sg {a0 : ag} {r : Bool} (h : jR a0 = some r) : EvP prog aw ext 97 [.d (ag.pd a0)] [] (rB r, []) := by
 refine Ev.body rfl Tryz.func97 rfl (by kernel_rfl)<|gS rfl rfl<|sB (.ptr 16 0) 16 (.var [rS a0.aC, rS a0.aA, rS a0.av, rS a0.aD])<|sU<|sN<|gS rfl rfl<|sV (.ptr 16 0)<|sL rfl<|bE h fun x1 hx1 h => cY h (fun hb2 h => ?_) (fun hb2 h => ?_)
 ·refine WO.fj (v := rB true) (u := []) rfl rfl (fun _ => rfl) rfl rfl rfl rfl rfl (kx hx1) rfl rfl (congrArg (fun b => RV.d (.bool b)) hb2) rfl<|sM rfl<|sV (.ptr 16 1)<|sL rfl<|bE h fun x3 hx3 h => cD (kx hx3)<|sF h (fun h => ?_) fun h => ?_
  ·refine sM rfl<|sV (.ptr 16 2)<|sL rfl<|sF h (fun h => ?_) fun h => ?_
   ·refine sM rfl<|k3<|sT<|sT<|sM rfl<|sV (.ptr 16 3)<|sL rfl<|bE h fun x6 hx6 h => cD (kx hx6)<|sV (rB x6)<|sA rfl<|sN<|qR ?_
    exact oI h▸qD
   refine sM rfl<|sV (.ptr 16 2)<|sL rfl<|bE h fun x7 hx7 h => cD (kx hx7)<|sV (rB x7)<|sF h (fun h => ?_) fun h => ?_
   ·refine sM rfl<|sV (.ptr 16 3)<|sL rfl<|bE h fun x9 hx9 h => cD (kx hx9)<|sV (rB x9)<|sA rfl<|sN<|qR ?_
    exact oI h▸qD
   refine sM rfl<|k3<|sU<|sA rfl<|sN<|qR ?_
   exact oI h▸qD
  refine sM rfl<|k3<|k3<|sK<|sK<|sU<|sM rfl<|k3<|sU ?_
  refine sA rfl<|sN<|qR ?_
  exact oI h▸qD
 refine WO.fj (v := rB false) (u := []) rfl rfl (fun _ => rfl) rfl rfl rfl rfl rfl (kx hx1) rfl rfl (congrArg (fun b => RV.d (.bool b)) hb2) rfl<|sM rfl<|k3<|sU<|sM rfl<|k3<|k3<|sK<|sK ?_
 refine sU<|sM rfl<|k3<|sU<|sA rfl<|sN<|qR ?_
 exact oI h▸qD
theorem bV {a0 : Int} {a1 : Int} {a2 : Int} {r : Bool} (h : cN a0 a1 a2 = some r) : EvP prog aw ext 98 [rI a0, rI a1, rI a2] [] (rB r, []) := by
 refine Ev.body rfl Tryz.func98 rfl (by kernel_rfl)<|gS rfl rfl<|sU<|sN<|gS rfl rfl<|sM rfl<|sM rfl<|sF h (fun h => ?_) fun h => ?_
 ·refine sM rfl<|sM rfl<|sM rfl<|sV (rB (decide (a0 ≤ a2)))<|sV (rB (decide (a0 ≤ a2)))<|sA rfl<|sN<|qR ?_
  exact oI h▸qD
 refine sM rfl<|k3<|sU<|sA rfl<|sN<|qR ?_
 exact oI h▸qD
theorem kc {a0 : aa} {r : Bool} (h : eS a0 = some r) : EvP prog aw ext 53 [.d (aa.pd a0)] [] (rB r, []) := by
 refine Ev.body rfl Tryz.func53 rfl (by kernel_rfl)<|gS rfl rfl<|sB (.ptr 16 0) 16 (.var (aa.rc a0))<|sU<|sN<|gS rfl rfl<|sV (.ptr 16 0)<|sV (.d (ag.pd a0.ak))<|bE h fun x1 hx1 h => cY h (fun hb2 h => ?_) (fun hb2 h => ?_)
 ·refine WO.fj (v := rB true) (u := []) rfl rfl (fun _ => rfl) rfl rfl rfl rfl rfl (sg hx1) rfl rfl (congrArg (fun b => RV.d (.bool b)) hb2) rfl<|sM rfl<|sV (.ptr 16 5)<|sL rfl<|sV (rB (decide (a0.aG ≥ (0 : Int))))<|sF h (fun h => ?_) fun h => ?_
  ·refine sM rfl<|sV (.ptr 16 5)<|sL rfl<|sV (.ptr 16 4)<|sL rfl<|sV (rB (decide (a0.aG ≤ a0.aN)))<|sF h (fun h => ?_) fun h => ?_
   ·refine sM rfl<|sV (.ptr 16 4)<|sL rfl<|sV (.ptr 16 6)<|sL rfl<|sV (rB (decide (a0.aN ≤ a0.aY)))<|sF h (fun h => ?_) fun h => ?_
    ·refine sM rfl<|sV (.ptr 16 6)<|sL rfl<|sV (rB (decide (a0.aY ≤ (18014398509481984 : Int))))<|sF h (fun h => ?_) fun h => ?_
     ·refine sM rfl<|sV (.ptr 16 7)<|sL rfl<|bE h fun x7 hx7 h => cD (bV hx7)<|sF h (fun h => ?_) fun h => ?_
      ·refine sM rfl<|sV (.ptr 16 8)<|sL rfl<|bE h fun x9 hx9 h => cD (bV hx9)<|sV (rB x9)<|sA rfl<|sN<|qR ?_
       cases oI h
       exact qG
      refine sM rfl<|k3<|sU<|sA rfl<|sN<|qR ?_
      cases oI h
      exact qG
     refine sM rfl<|k3<|sU<|sM rfl<|k3<|sU<|sA rfl<|sN<|qR ?_
     cases oI h
     exact qG
    refine sM rfl<|k3<|sU<|sM rfl<|k3<|sU<|sM rfl<|k3<|sU ?_
    refine sA rfl<|sN<|qR ?_
    cases oI h
    exact qG
   refine sM rfl<|k3<|sK<|sK<|sU<|sM rfl<|k3<|sU<|sM rfl<|sK<|sK ?_
   refine sK<|sU<|sM rfl<|k3<|sU<|sA rfl<|sN<|qR ?_
   cases oI h
   exact qG
  refine sM rfl<|k3<|sK<|sK<|sU<|sM rfl<|k3<|sK<|sK<|sU<|sM rfl ?_
  refine k3<|sU<|sM rfl<|k3<|sU<|sM rfl<|k3<|sU<|sA rfl ?_
  refine sN<|qR ?_
  cases oI h
  exact qG
 refine WO.fj (v := rB false) (u := []) rfl rfl (fun _ => rfl) rfl rfl rfl rfl rfl (sg hx1) rfl rfl (congrArg (fun b => RV.d (.bool b)) hb2) rfl<|sM rfl<|k3<|sU<|sM rfl<|k3<|sK<|sK<|sU<|sM rfl<|sK ?_
 refine k3<|sK<|sU<|sM rfl<|k3<|sU<|sM rfl<|k3<|sU ?_
 refine sM rfl<|k3<|sU<|sA rfl<|sN<|qR ?_
 cases oI h
 exact qG
theorem ref39_valid_ev {a0 : (List aa)} {r : Bool} (h : nE a0 = some r) : EvP prog aw ext 48 [.d (.lst (a0.map aa.pd))] [] (rB r, []) := by
 refine Ev.body rfl Tryz.func48 rfl (by kernel_rfl)<|gS rfl rfl<|sU<|sN<|qS<|gS rfl rfl<|sV (r0)<|sN<|bE h fun o8 ho8 h => WC.block (WC.loop (WL.cv ho8 (fun s R' B' => bg prog 0 (A R' B') (aw.at_ 48 0 2) = some (A [(0, .d (.lst (a0.map aa.pd))), (3, rI s)] [])) (fun o e R' B' => match o with | .inl y => e = .exit 0 ∧ bg prog 0 (A R' B') (aw.at_ 48 0 6) = some (A [] []) | .inr r => e = .ret ∧ finish prog (aw.own 48) Tryz.f48 0 (A R' B') = some (rB r, [])) rfl ?_ ?_))
 ·rintro s1 R' B' q2 hI h
  refine qS<|gS rfl hI<|sM rfl<|sM rfl<|sE (rI (a0.length : Int)) (b8 _ _)<|sF h (fun h => ?_) fun h => ?_
  ·refine sN<|cT<|qK<|qS<|qB<|gS rfl rfl<|sM rfl<|sM rfl<|bE h fun x4 hx4 h => eG hx4 rfl<|sV (.d (aa.pd x4))<|bE h fun x5 hx5 h => cD (kc hx5)<|sF h (fun h => ?_) fun h => ?_
   ·refine sN<|cT<|gS rfl rfl<|sU<|sN<|qR ?_
    cases oI h
    exact ⟨nofun, rfl, rfl⟩
   refine sN<|cF<|qK<|WC.region rfl rfl<|sM rfl<|sV (rI (rW (s1 + (1 : Int))))<|sA rfl<|sN ?_
   cases oI h
   exact ⟨rfl, rfl⟩
  refine sN<|cF<|qX ?_
  cases oI h
  exact ⟨nofun, rfl, rfl⟩
 intro e R' B' he hq
 rcases o8 with y9 | r10
 ·obtain ⟨rfl, hI⟩ := hq
  refine qE<|gS rfl hI<|sT<|sN<|qR ?_
  exact oI h▸qD
 obtain ⟨rfl, hf⟩ := hq
 cases oI h
 exact hf
theorem ref39_byEarly_ev {a0 : (List aa)} {r : (List aa)} (h : kA a0 = some r) : EvP prog aw ext 49 [.d (.lst (a0.map aa.pd))] [] (.d (.lst (r.map aa.pd)), []) := by
 refine Ev.body rfl Tryz.func49 rfl (by kernel_rfl)<|gS rfl rfl<|sV .cu<|sN<|gS rfl rfl<|sV .cu<|sN<|qS<|gS rfl rfl<|sV (r0)<|sN<|bE h fun o30 ho30 h => WC.block (WC.loop (WL.cv ho30 (fun s R' B' => bg prog 0 (A R' B') (aw.at_ 49 0 3) = some (A [(0, .d (.lst (a0.map aa.pd))), (3, .ref 544 0), (4, rI s.1)] [(544, .arr 0 52 (s.2.map aa.pd))])) (fun o e R' B' => e = .exit 0 ∧ bg prog 0 (A R' B') (aw.at_ 49 0 11) = some (A [(3, .ref 544 0)] [(544, .arr 0 52 (o.map aa.pd))])) rfl ?_ ?_))
 ·rintro ⟨s1, s2⟩ R' B' q4 hI h
  refine qS<|gS rfl hI<|sM rfl<|sM rfl<|sE (rI (a0.length : Int)) (b8 _ _)<|sF h (fun h => ?_) fun h => ?_
  ·refine sN<|cT<|qK<|qS<|qB<|gS rfl rfl<|sV (r0)<|sN<|qS<|bE h fun o18 ho18 h => WC.block (WC.loop (WL.cv ho18 (fun s R' B' => bg prog 0 (A R' B') (aw.at_ 49 0 6) = some (A [(0, .d (.lst (a0.map aa.pd))), (3, .ref 544 0), (4, rI s1), (5, rI s)] [(544, .arr 0 52 (s2.map aa.pd))])) (fun o e R' B' => e = .exit 2 ∧ bg prog 0 (A R' B') (aw.at_ 49 0 8) = some (A [(0, .d (.lst (a0.map aa.pd))), (3, .ref 544 0), (4, rI o.1), (5, rI o.2.1)] [(544, .arr 0 52 (o.2.2.map aa.pd))])) rfl ?_ ?_))
   ·rintro s6 R' B' q10 hI h
    refine qS<|WC.bX hI rfl<|sM rfl<|sM rfl<|WO.kb rfl rfl rfl rfl rfl rfl rfl rfl rfl<|sF h (fun h => ?_) fun h => ?_
    ·refine sM rfl<|sM rfl<|sM rfl<|bE h fun x13 hx13 h => WO.eE hx13 rfl rfl rfl rfl rfl rfl rfl rfl<|sV (.elt 544 0 (s6).toNat 5)<|bE h fun x14 hx14 h => WO.eD hx14 rfl rfl rfl rfl rfl rfl<|sM rfl<|sM rfl<|bE h fun x15 hx15 h => eG hx15 rfl<|sV (.cptr [.int .i64 x15.aG, .int .i64 x15.aY, .int .i64 x15.aH, .int .i64 x15.aK])<|sC rfl<|sV (rB (decide (x14.aG ≤ x15.aG))) ?_
     refine sF h (fun h => ?_) fun h => ?_
     ·refine sN<|sO<|cT<|qK<|qB<|WC.region rfl rfl<|sM rfl<|sV (rI (rW (s6 + (1 : Int))))<|sA rfl<|sN ?_
      cases oI h
      exact ⟨rfl, rfl⟩
     refine sN<|sO<|cF<|qX ?_
     cases oI h
     exact ⟨nofun, rfl, rfl⟩
    refine sM rfl<|k3<|k3<|k3<|sK<|sK<|sU ?_
    refine sN<|sO<|cF<|qX ?_
    cases oI h
    exact ⟨nofun, rfl, rfl⟩
   intro e R' B' he hq
   obtain ⟨rfl, hI⟩ := hq
   refine qE<|gS rfl hI<|sM rfl<|sG (.d (aa.pd (aa.mk (ag.mk [] [] [] []) 0 0 0 0 0)))<|sG (.d (.lst ([(aa.mk (ag.mk [] [] [] []) 0 0 0 0 0)].map aa.pd)))<|bE h fun x19 hx19 h => aR hx19 (fun _ => rfl) rfl<|sA rfl<|sN<|WC.bX rfl rfl<|sM rfl<|sM rfl<|sV (rI (rW (o18.2.1 + (1 : Int))))<|bE h fun x20 hx20 h => WO.rb hx20 rfl rfl rfl rfl rfl rfl rfl rfl rfl rfl rfl rfl ?_
   refine sM rfl<|sM rfl<|bE h fun x21 hx21 h => WO.rb hx21 rfl rfl rfl rfl rfl rfl rfl rfl rfl rfl rfl rfl<|bE h fun x22 hx22 h => bE h fun x23 hx23 h => WO.copyG rfl rfl rfl rfl rfl rfl rfl rfl (lh hx22 rfl) (tn hx23 rfl) rfl rfl (fun _ => rfl) ?_
   refine sN<|sO<|WC.region rfl rfl<|sM rfl<|sM rfl<|sM rfl<|sM rfl<|bE h fun x25 hx25 h => eG hx25 rfl<|sV (.d (aa.pd x25))<|bE h fun x27 hx27 h => WO.eE hx27 rfl rfl rfl rfl rfl rfl rfl rfl<|bE h fun x28 hx28 h => WO.jP (g := aa.pd) (sz := 9) (p := aa.pd x25) hx28 (by intro _; kernel_rfl) (by intro _; kernel_rfl) rfl rfl rfl rfl rfl rfl rfl rfl rfl<|sN<|WC.region rfl rfl ?_
   refine sM rfl<|sV (rI (rW (o18.1 + (1 : Int))))<|sA rfl<|sN ?_
   cases oI h
   exact ⟨rfl, rfl⟩
  refine sN<|cF<|qX ?_
  cases oI h
  exact ⟨nofun, rfl, rfl⟩
 intro e R' B' he hq
 obtain ⟨rfl, hI⟩ := hq
 refine qE<|gS rfl hI<|sM rfl<|sA rfl<|sN<|qR ?_
 exact oI h▸qD
theorem pz {a0 : Int} {a1 : (List aa)} {r : (List (List aa)) × Int} (h : dn a0 a1 = some r) : EvP prog aw ext 21 [rI a0, .d (.lst (a1.map aa.pd))] [] (.tup [.d (.lst (r.1.map (fun l => PD.lst (l.map aa.pd)))), rI r.2], []) := by
 refine Ev.body rfl Tryz.func21 rfl (by kernel_rfl)<|gS rfl rfl<|sV .cu<|sV (r0)<|sN<|qS<|gS rfl rfl<|sM rfl<|sF h (fun h => ?_) fun h => ?_
 ·refine sM rfl<|sK<|sK<|sT<|sN<|cT<|gS rfl rfl<|sV .cu<|sV (rI 2)<|sN<|qR ?_
  exact oI h▸qD
 refine sM rfl<|sM rfl<|sV (rB (decide (a0 > (1099511627776 : Int))))<|sF h (fun h => ?_) fun h => ?_
 ·refine sN<|cT<|gS rfl rfl<|sV .cu<|sV (rI 2)<|sN<|qR ?_
  exact oI h▸qD
 refine sN<|cF<|qK<|qS<|gS rfl rfl<|sM rfl<|bE h fun x3 hx3 h => cD (ref39_valid_ev hx3)<|sF h (fun h => ?_) fun h => ?_
 ·refine sN<|cT<|gS rfl rfl<|sV .cu<|sV (rI 1)<|sN<|qR ?_
  exact oI h▸qD
 refine sN<|cF<|qK<|gS rfl rfl<|sV .cu<|sN<|gS rfl rfl<|sM rfl<|bE h fun x5 hx5 h => cR (.ref 320 0) [(320, .arr 0 52 (x5.map aa.pd))] (kz hx5)<|bE h fun x6 hx6 h => cR (.d (.lst (x6.map aa.pd))) [(320, .dead)] (ref39_byEarly_ev hx6)<|sA rfl<|sN<|qS ?_
 refine gS rfl rfl<|sV (r0)<|sN<|bE h fun o40 ho40 h => WC.block (WC.loop (WL.cv ho40 (fun s R' B' => bg prog 0 (A R' B') (aw.at_ 21 0 8) = some (A [(0, rI a0), (6, .ref 768 0), (7, .d (.lst (x6.map aa.pd))), (8, rI s.1)] [(768, .nest 0 25 52 (s.2.map (List.map aa.pd)) none)])) (fun o e R' B' => e = .exit 0 ∧ bg prog 0 (A R' B') (aw.at_ 21 0 13) = some (A [(6, .ref 768 0)] [(768, .nest 0 25 52 (o.map (List.map aa.pd)) none)])) rfl ?_ ?_))
 ·rintro ⟨s7, s8⟩ R' B' q10 hI h
  refine qS<|gS rfl hI<|sM rfl<|sM rfl<|sE (rI (x6.length : Int)) (b8 _ _)<|sF h (fun h => ?_) fun h => ?_
  ·refine sN<|cT<|qK<|qS<|qB<|qS<|WC.bX rfl rfl<|sM rfl<|sF h (fun h => ?_) fun h => ?_
   ·refine sM rfl<|k3<|k3<|k3<|k3<|sK<|sK ?_
    refine sT ?_
    refine sN<|sO<|cT<|WC.region (R0 := [(0, rI a0), (6, .ref 768 0), (7, .d (.lst (x6.map aa.pd))), (8, rI s7)]) (B0 := [(768, .nest 0 25 52 (s8.map (List.map aa.pd)) none)]) rfl rfl<|sM rfl<|sV (.d (.lst [qY]))<|bE h fun x13 hx13 h => WO.appNN hx13 rfl rfl rfl rfl rfl rfl rfl rfl rfl rfl rfl rfl rfl rfl<|sA rfl<|sN<|bE h fun x14 hx14 h => WC.eP (gF hx14 rfl rfl rfl) rfl<|sM rfl<|sM rfl<|WO.oY rfl rfl rfl rfl rfl rfl rfl rfl rfl<|sV (rI (rW ((x13.length : Int) - (1 : Int)))) ?_
    refine sM rfl<|sM rfl<|WO.oY rfl rfl rfl rfl rfl rfl rfl rfl rfl<|sV (rI (rW ((x13.length : Int) - (1 : Int))))<|bE h fun x15 hx15 h => WO.nS hx15 rfl rfl rfl rfl rfl rfl rfl rfl<|bE h fun x16 hx16 h => WO.qF hx16 rfl rfl rfl rfl rfl rfl<|sM rfl<|sM rfl<|bE h fun x17 hx17 h => eG hx17 rfl<|sV (.d (aa.pd x17))<|sG (.d (.lst ([x17].map aa.pd)))<|bE h fun x18 hx18 h => ?_
    refine aR hx18 (fun _ => rfl) rfl<|bE h fun x19 hx19 h => WO.nS hx19 rfl rfl rfl rfl rfl rfl rfl rfl<|bE h fun x20 hx20 h => WO.oA hx20 rfl rfl rfl rfl rfl rfl rfl ?_
    refine sN<|sO<|WC.region rfl rfl<|sM rfl<|sV (rI (rW (s7 + (1 : Int))))<|sA rfl<|sN ?_
    cases oI h
    exact ⟨rfl, (fQ rfl rfl (by decide) rfl)⟩
   refine sM rfl<|sM rfl<|sM rfl<|bE h fun x21 hx21 h => eG hx21 rfl<|sV (.cptr [.int .i64 x21.aG, .int .i64 x21.aY, .int .i64 x21.aH, .int .i64 x21.aK])<|sC rfl<|sM rfl<|sM rfl<|sV (rI (rW (s7 - (1 : Int))))<|bE h fun x22 hx22 h => eG hx22 rfl<|sV (.cptr [.int .i64 x22.aG, .int .i64 x22.aY, .int .i64 x22.aH, .int .i64 x22.aK])<|sC rfl<|sV (rI (rW (x21.aG - x22.aG))) ?_
   refine sM rfl<|sV (rB (decide ((rW (x21.aG - x22.aG)) > a0)))<|sF h (fun h => ?_) fun h => ?_
   ·refine sN<|sO<|cT<|WC.region (R0 := [(0, rI a0), (6, .ref 768 0), (7, .d (.lst (x6.map aa.pd))), (8, rI s7)]) (B0 := [(768, .nest 0 25 52 (s8.map (List.map aa.pd)) none)]) rfl rfl<|sM rfl<|sV (.d (.lst [qY]))<|bE h fun x24 hx24 h => WO.appNN hx24 rfl rfl rfl rfl rfl rfl rfl rfl rfl rfl rfl rfl rfl rfl<|sA rfl<|sN<|bE h fun x25 hx25 h => WC.eP (gF hx25 rfl rfl rfl) rfl<|sM rfl<|sM rfl<|WO.oY rfl rfl rfl rfl rfl rfl rfl rfl rfl<|sV (rI (rW ((x24.length : Int) - (1 : Int)))) ?_
    refine sM rfl<|sM rfl<|WO.oY rfl rfl rfl rfl rfl rfl rfl rfl rfl<|sV (rI (rW ((x24.length : Int) - (1 : Int))))<|bE h fun x26 hx26 h => WO.nS hx26 rfl rfl rfl rfl rfl rfl rfl rfl<|bE h fun x27 hx27 h => WO.qF hx27 rfl rfl rfl rfl rfl rfl<|sM rfl<|sM rfl<|bE h fun x28 hx28 h => eG hx28 rfl<|sV (.d (aa.pd x28))<|sG (.d (.lst ([x28].map aa.pd)))<|bE h fun x29 hx29 h => ?_
    refine aR hx29 (fun _ => rfl) rfl<|bE h fun x30 hx30 h => WO.nS hx30 rfl rfl rfl rfl rfl rfl rfl rfl<|bE h fun x31 hx31 h => WO.oA hx31 rfl rfl rfl rfl rfl rfl rfl ?_
    refine sN<|sO<|WC.region rfl rfl<|sM rfl<|sV (rI (rW (s7 + (1 : Int))))<|sA rfl<|sN ?_
    cases oI h
    exact ⟨rfl, (fQ rfl rfl (by decide) rfl)⟩
   refine sN<|sO<|cF<|qK<|bE h fun x32 hx32 h => WC.eP (gF hx32 rfl rfl rfl) rfl<|sM rfl<|sM rfl<|WO.oY rfl rfl rfl rfl rfl rfl rfl rfl rfl<|sV (rI (rW ((s8.length : Int) - (1 : Int))))<|sM rfl<|sM rfl<|WO.oY rfl rfl rfl rfl rfl rfl rfl rfl rfl<|sV (rI (rW ((s8.length : Int) - (1 : Int))))<|bE h fun x33 hx33 h => WO.nS hx33 rfl rfl rfl rfl rfl rfl rfl rfl ?_
   refine bE h fun x34 hx34 h => WO.qF hx34 rfl rfl rfl rfl rfl rfl<|sM rfl<|sM rfl<|bE h fun x35 hx35 h => eG hx35 rfl<|sV (.d (aa.pd x35))<|sG (.d (.lst ([x35].map aa.pd)))<|bE h fun x36 hx36 h => aR hx36 (fun _ => rfl) rfl<|bE h fun x37 hx37 h => WO.nS hx37 rfl rfl rfl rfl rfl rfl rfl rfl<|bE h fun x38 hx38 h => WO.oA hx38 rfl rfl rfl rfl rfl rfl rfl ?_
   refine sN<|sO<|WC.region rfl rfl<|sM rfl<|sV (rI (rW (s7 + (1 : Int))))<|sA rfl<|sN ?_
   cases oI h
   exact ⟨rfl, (fQ rfl rfl (by decide) rfl)⟩
  refine sN<|cF<|qX ?_
  cases oI h
  exact ⟨nofun, rfl, rfl⟩
 intro e R' B' he hq
 obtain ⟨rfl, hI⟩ := hq
 refine qE<|qS<|gS rfl hI<|sV (r0)<|sN<|bE h fun o53 ho53 h => WC.block (WC.loop (WL.cv ho53 (fun s R' B' => bg prog 0 (A R' B') (aw.at_ 21 0 14) = some (A [(6, .ref 768 0), (9, rI s.1)] [(768, .nest 0 25 52 (s.2.map (List.map aa.pd)) none)])) (fun o e R' B' => e = .exit 2 ∧ bg prog 0 (A R' B') (aw.at_ 21 0 17) = some (A [(6, .d (.lst (o.map (fun l => PD.lst (l.map aa.pd)))))] [])) rfl ?_ ?_))
 ·rintro ⟨s41, s42⟩ R' B' q44 hI h
  refine qS<|gS rfl hI<|sM rfl<|sM rfl<|WO.oY rfl rfl rfl rfl rfl rfl rfl rfl rfl<|sF h (fun h => ?_) fun h => ?_
  ·refine sN<|cT<|qK<|qS<|qB<|bE h fun x46 hx46 h => WC.region (oR hx46 rfl rfl rfl rfl) rfl<|sM rfl<|sM rfl<|sM rfl<|sM rfl<|bE h fun x47 hx47 h => WO.nS hx47 rfl rfl rfl rfl rfl rfl rfl rfl<|bE h fun x48 hx48 h => WO.qF hx48 rfl rfl rfl rfl rfl rfl ?_
   refine bE h fun x49 hx49 h => cR (.ref 1248 0) [(1232, .dead), (1248, .arr 0 52 (x49.map aa.pd))] (kz hx49)<|bE h fun x50 hx50 h => WO.nS hx50 rfl rfl rfl rfl rfl rfl rfl rfl<|bE h fun x51 hx51 h => WO.oA hx51 rfl rfl rfl rfl rfl rfl rfl<|sN<|WC.region rfl rfl<|sM rfl<|sV (rI (rW (s41 + (1 : Int))))<|sA rfl<|sN ?_
   cases oI h
   exact ⟨rfl, (fQ rfl rfl (by decide) rfl)⟩
  refine sN<|cF<|qX ?_
  cases oI h
  exact ⟨nofun, rfl, (gC rfl (qu rfl rfl rfl))⟩
 intro e R' B' he hq
 obtain ⟨rfl, hI⟩ := hq
 refine qE<|gS rfl hI<|sM rfl<|sA rfl<|sV (r0)<|sN<|qR ?_
 exact oI h▸qD
theorem ref03_Sort_ev {a0 : (List ag)} {r : (List ag)} (h : lq a0 = some r) : EvP prog aw ext 54 [.d (.lst (a0.map ag.pd))] [] (.d (.lst (r.map ag.pd)), []) := by
 refine Ev.body rfl Tryz.func54 rfl (by kernel_rfl)<|gS rfl rfl<|sV .cu<|sN<|gS rfl rfl<|sV .cu<|sN<|qS<|gS rfl rfl<|sV (r0)<|sN<|bE h fun o39 ho39 h => WC.block (WC.loop (WL.cv ho39 (fun s R' B' => bg prog 0 (A R' B') (aw.at_ 54 0 3) = some (A [(0, .d (.lst (a0.map ag.pd))), (3, .ref 816 0), (4, rI s.1)] [(816, .arr 0 50 (s.2.map ag.pd))])) (fun o e R' B' => e = .exit 0 ∧ bg prog 0 (A R' B') (aw.at_ 54 0 12) = some (A [(3, .ref 816 0)] [(816, .arr 0 50 (o.map ag.pd))])) rfl ?_ ?_))
 ·rintro ⟨s1, s2⟩ R' B' q4 hI h
  refine qS<|gS rfl hI<|sM rfl<|sM rfl<|sE (rI (a0.length : Int)) (b8 _ _)<|sF h (fun h => ?_) fun h => ?_
  ·refine sN<|cT<|qK<|qS<|qB<|gS rfl rfl<|sV (r0)<|sN<|qS<|bE h fun o19 ho19 h => WC.block (WC.loop (WL.cv ho19 (fun s R' B' => bg prog 0 (A R' B') (aw.at_ 54 0 6) = some (A [(0, .d (.lst (a0.map ag.pd))), (3, .ref 816 0), (4, rI s1), (5, rI s)] [(816, .arr 0 50 (s2.map ag.pd))])) (fun o e R' B' => e = .exit 2 ∧ bg prog 0 (A R' B') (aw.at_ 54 0 8) = some (A [(0, .d (.lst (a0.map ag.pd))), (3, .ref 816 0), (4, rI o.1), (5, rI o.2.1)] [(816, .arr 0 50 (o.2.2.map ag.pd))])) rfl ?_ ?_))
   ·rintro s6 R' B' q10 hI h
    refine qS<|WC.bX hI rfl<|sM rfl<|sM rfl<|WO.kb rfl rfl rfl rfl rfl rfl rfl rfl rfl<|sF h (fun h => ?_) fun h => ?_
    ·refine sM rfl<|sM rfl<|sM rfl<|bE h fun x13 hx13 h => WO.eE hx13 rfl rfl rfl rfl rfl rfl rfl rfl<|bE h fun x14 hx14 h => WO.eD hx14 rfl rfl rfl rfl rfl rfl<|sM rfl<|sM rfl<|bE h fun x15 hx15 h => eG hx15 rfl<|sV (.d (ag.pd x15))<|bE h fun x16 hx16 h => cD (pb hx16)<|sV (rB (decide (x16 < (0 : Int)))) ?_
     refine sF h (fun h => ?_) fun h => ?_
     ·refine sN<|sO<|cT<|qK<|qB<|WC.region rfl rfl<|sM rfl<|sV (rI (rW (s6 + (1 : Int))))<|sA rfl<|sN ?_
      cases oI h
      exact ⟨rfl, rfl⟩
     refine sN<|sO<|cF<|qX ?_
     cases oI h
     exact ⟨nofun, rfl, rfl⟩
    refine sM rfl<|k3<|k3<|k3<|sK<|sU ?_
    refine sN<|sO<|cF<|qX ?_
    cases oI h
    exact ⟨nofun, rfl, rfl⟩
   intro e R' B' he hq
   obtain ⟨rfl, hI⟩ := hq
   refine qE<|WC.join (α := Unit) (fun x R' B' => bg prog 0 (A R' B') (aw.at_ 54 0 9) = some (A [(0, .d (.lst (a0.map ag.pd))), (3, .ref 816 0), (4, rI o19.1), (5, rI o19.2.1)] [(816, .arr 0 50 (o19.2.2.map ag.pd))])) (fun x => fK a0 o19 = some q4) ?_ ?_
   ·refine WC.bX hI rfl<|sM rfl<|sM rfl<|WO.kb rfl rfl rfl rfl rfl rfl rfl rfl rfl<|sF h (fun h => ?_) fun h => ?_
    ·refine sM rfl<|sM rfl<|sM rfl<|bE h fun x34 hx34 h => WO.eE hx34 rfl rfl rfl rfl rfl rfl rfl rfl<|bE h fun x35 hx35 h => WO.eD hx35 rfl rfl rfl rfl rfl rfl<|sM rfl<|sM rfl<|bE h fun x36 hx36 h => eG hx36 rfl<|sV (.d (ag.pd x36))<|WO.bin (rP x35 x36) rfl rfl rfl rfl rfl<|sF h (fun h => ?_) fun h => ?_
     ·refine sN<|sO<|cT<|qX<|qE<|WC.region rfl rfl<|sM rfl<|sV (rI (rW (o19.1 + (1 : Int))))<|sA rfl<|sN ?_
      cases oI h
      exact ⟨rfl, rfl⟩
     exact sN<|sO<|cF<|qK<|⟨(), rfl, h⟩
    refine sM rfl<|k3<|k3<|k3<|sU ?_
    exact sN<|sO<|cF<|qK<|⟨(), rfl, h⟩
   rintro ⟨⟩ R' B' hI h
   refine gS rfl hI<|sM rfl<|sM rfl<|sM rfl<|bE h fun x20 hx20 h => eG hx20 rfl<|sV (.d (ag.pd x20))<|sV (.d (.lst ([x20].map ag.pd)))<|bE h fun x21 hx21 h => aR hx21 (fun _ => rfl) rfl<|sA rfl<|sN<|WC.bX rfl rfl<|sM rfl<|sM rfl ?_
   refine sV (rI (rW (o19.2.1 + (1 : Int))))<|bE h fun x22 hx22 h => WO.rb hx22 rfl rfl rfl rfl rfl rfl rfl rfl rfl rfl rfl rfl<|sM rfl<|sM rfl<|bE h fun x23 hx23 h => WO.rb hx23 rfl rfl rfl rfl rfl rfl rfl rfl rfl rfl rfl rfl<|bE h fun x24 hx24 h => bE h fun x25 hx25 h => WO.copyG rfl rfl rfl rfl rfl rfl rfl rfl (lh hx24 rfl) (tn hx25 rfl) rfl rfl (fun _ => rfl) ?_
   refine sN<|sO<|WC.region rfl rfl<|sM rfl<|sM rfl<|sM rfl<|sM rfl<|bE h fun x27 hx27 h => eG hx27 rfl<|sV (.d (ag.pd x27))<|bE h fun x29 hx29 h => WO.eE hx29 rfl rfl rfl rfl rfl rfl rfl rfl<|bE h fun x30 hx30 h => WO.jP (g := ag.pd) (sz := 4) (p := ag.pd x27) hx30 (fun _ => rfl) (fun _ => rfl) rfl rfl rfl rfl rfl rfl rfl rfl rfl<|sN<|WC.region rfl rfl ?_
   refine sM rfl<|sV (rI (rW (o19.1 + (1 : Int))))<|sA rfl<|sN ?_
   cases oI h
   exact ⟨rfl, rfl⟩
  refine sN<|cF<|qX ?_
  cases oI h
  exact ⟨nofun, rfl, rfl⟩
 intro e R' B' he hq
 obtain ⟨rfl, hI⟩ := hq
 refine qE<|gS rfl hI<|sM rfl<|sA rfl<|sN<|qR ?_
 exact oI h▸qD
theorem ref39_Depends_ev {a0 : (List aa)} {r : (List ar)} (h : jn a0 = some r) : EvP prog aw ext 24 [.d (.lst (a0.map aa.pd))] [] (.d (.lst (r.map ar.pd)), []) := by
 refine Ev.body rfl Tryz.func24 rfl (by kernel_rfl)<|gS rfl rfl<|sV .cu<|sN<|gS rfl rfl<|sV .cu<|sN<|qS<|gS rfl rfl<|sV (r0)<|sN<|bE h fun o12 ho12 h => WC.block (WC.loop (WL.cv ho12 (fun s R' B' => bg prog 0 (A R' B') (aw.at_ 24 0 3) = some (A [(0, .d (.lst (a0.map aa.pd))), (3, .ref 480 0), (4, rI s.1)] [(480, .arr 0 50 (s.2.map ag.pd))])) (fun o e R' B' => e = .exit 0 ∧ bg prog 0 (A R' B') (aw.at_ 24 0 7) = some (A [(0, .d (.lst (a0.map aa.pd))), (3, .ref 480 0)] [(480, .arr 0 50 (o.map ag.pd))])) rfl ?_ ?_))
 ·rintro ⟨s1, s2⟩ R' B' q4 hI h
  refine qS<|gS rfl hI<|sM rfl<|sM rfl<|sE (rI (a0.length : Int)) (b8 _ _)<|sF h (fun h => ?_) fun h => ?_
  ·refine sN<|cT<|qK<|qS<|qB<|gS rfl rfl<|sM rfl<|sM rfl<|bE h fun x6 hx6 h => eG hx6 rfl<|sV (.d (aa.pd x6))<|bE h fun x7 hx7 h => cY h (fun hb8 h => ?_) (fun hb8 h => ?_)
   ·refine WO.fj (v := rB true) (u := []) rfl rfl (fun _ => rfl) rfl rfl rfl rfl rfl (kc hx7) rfl rfl (congrArg (fun b => RV.d (.bool b)) hb8) rfl<|sN<|cT<|WC.region rfl rfl<|sM rfl<|sM rfl<|sM rfl<|bE h fun x9 hx9 h => eG hx9 rfl<|sV (.cptr [.str x9.ak.aC, .str x9.ak.aA, .str x9.ak.av, .str x9.ak.aD, .int .i64 x9.aN, .int .i64 x9.aG, .int .i64 x9.aY, .int .i64 x9.aH, .int .i64 x9.aK])<|sV (.d (ag.pd x9.ak))<|sV (.d (.lst ([x9.ak].map ag.pd)))<|bE h fun x10 hx10 h => aR hx10 (fun _ => rfl) rfl<|sA rfl ?_
    refine sN<|WC.region rfl rfl<|sM rfl<|sV (rI (rW (s1 + (1 : Int))))<|sA rfl<|sN ?_
    cases oI h
    exact ⟨rfl, rfl⟩
   refine WO.fj (v := rB false) (u := []) rfl rfl (fun _ => rfl) rfl rfl rfl rfl rfl (kc hx7) rfl rfl (congrArg (fun b => RV.d (.bool b)) hb8) rfl<|sN<|cF<|qK<|WC.region rfl rfl<|sM rfl<|sV (rI (rW (s1 + (1 : Int))))<|sA rfl<|sN ?_
   cases oI h
   exact ⟨rfl, rfl⟩
  refine sN<|cF<|qX ?_
  cases oI h
  exact ⟨nofun, rfl, rfl⟩
 intro e R' B' he hq
 obtain ⟨rfl, hI⟩ := hq
 refine qE<|gS rfl hI<|sV .cu<|sN<|qS<|gS rfl rfl<|sM rfl<|bE h fun x13 hx13 h => cR (.d (.lst (x13.map ag.pd))) [(480, .dead)] (ref03_Sort_ev hx13)<|sE (rI (x13.length : Int)) (b8 _ _)<|sV (r0)<|sN<|bE h fun o71 ho71 h => WC.block (WC.loop (WL.cv ho71 (fun s R' B' => bg prog 0 (A R' B') (aw.at_ 24 0 9) = some (A [(0, .d (.lst (a0.map aa.pd))), (5, .ref 1824 0), (32, .d (.lst (x13.map ag.pd))), (33, rI (x13.length : Int)), (34, rI s.1)] [(1824, .arr 0 74 (s.2.map ar.pd))])) (fun o e R' B' => e = .exit 2 ∧ bg prog 0 (A R' B') (aw.at_ 24 0 24) = some (A [(5, .ref 1824 0)] [(1824, .arr 0 74 (o.map ar.pd))])) rfl ?_ ?_))
 ·rintro ⟨s14, s15⟩ R' B' q17 hI h
  refine gS rfl hI<|sF h (fun h => ?_) fun h => ?_
  ·refine sN<|qS<|cT<|qK<|qS<|qB<|gS rfl rfl<|bE h fun x19 hx19 h => eG hx19 rfl<|sV (.d (ag.pd x19))<|sB (.ptr 112 0) 112 (.var [rS [], rS [], rS [], rS []])<|sS 112 (.var [rS x19.aC, rS x19.aA, rS x19.av, rS x19.aD])<|sN<|gS rfl rfl<|sV (.d (ag.pd x19)) ?_
   refine sV (.agg [rS x19.aC, rS x19.aA, rS x19.av, rS x19.aD, .cu])<|sB (.ptr 128 0) 128 (.var zZ3)<|sS 128 (.var [rS x19.aC, rS x19.aA, rS x19.av, rS x19.aD, .cu])<|sN<|qS<|gS rfl rfl<|sM rfl<|bE h fun x20 hx20 h => cR (.ref 656 0) [(656, .arr 0 52 (x20.map aa.pd))] (kz hx20)<|WO.kb rfl rfl rfl rfl rfl rfl rfl rfl rfl<|sV (r0)<|sN<|bE h fun o68 ho68 h => WC.block (WC.loop (WL.cv ho68 (fun s R' B' => bg prog 0 (A R' B') (aw.at_ 24 0 13) = some (A [(0, .d (.lst (a0.map aa.pd))), (5, .ref 1824 0), (7, .ptr 112 0), (8, .ptr 128 0), (32, .d (.lst (x13.map ag.pd))), (33, rI (x13.length : Int)), (34, rI s14), (41, .ref 656 0), (42, rI (x20.length : Int)), (43, rI s.1)] [(112, .var [rS x19.aC, rS x19.aA, rS x19.av, rS x19.aD]), (128, .var [rS x19.aC, rS x19.aA, rS x19.av, rS x19.aD, .ref 1088 0]), (656, .arr 0 52 (x20.map aa.pd)), (1088, .arr 0 76 (s.2.map aj.pd)), (1824, .arr 0 74 (s15.map ar.pd))])) (fun o e R' B' => e = .exit 4 ∧ bg prog 0 (A R' B') (aw.at_ 24 0 22) = some (A [(0, .d (.lst (a0.map aa.pd))), (5, .ref 1824 0), (8, .ptr 128 0), (32, .d (.lst (x13.map ag.pd))), (33, rI (x13.length : Int)), (34, rI o.1)] [(128, .var [rS x19.aC, rS x19.aA, rS x19.av, rS x19.aD, .ref 1088 0]), (1088, .arr 0 76 (o.2.2.map aj.pd)), (1824, .arr 0 74 (o.2.1.map ar.pd))])) rfl ?_ ?_))
   ·rintro ⟨s21, s22⟩ R' B' q26 hI h
    refine gS rfl hI<|sF h (fun h => ?_) fun h => ?_
    ·refine sN<|qS<|cT<|qK<|qS<|qB<|gS rfl rfl<|bE h fun x29 hx29 h => WO.eE hx29 rfl rfl rfl rfl rfl rfl rfl rfl<|bE h fun x30 hx30 h => WO.eD hx30 rfl rfl rfl rfl rfl rfl<|sB (.ptr 160 0) 160 (.var zZ1)<|sH 160 (.var (aa.rc x30))<|sN<|qS ?_
     refine gS rfl rfl<|sV (.d (aa.pd x30))<|bE h fun x31 hx31 h => cD (kc hx31)<|sF h (fun h => ?_) fun h => ?_
     ·refine sM rfl<|k3<|sK<|sT<|sN<|cT<|qX<|qE<|WC.region rfl rfl<|sV (rI (rW (s21 + (1 : Int))))<|sM rfl<|sN ?_
      cases oI h
      exact ⟨rfl, rfl⟩
     refine sM rfl<|sV (.ptr 160 0)<|sV (.d (ag.pd x30.ak))<|sV (.d (ag.pd x19))<|WO.bin (eqN_50 x30.ak x19) rfl rfl rfl rfl rfl<|sF h (fun h => ?_) fun h => ?_
     ·refine sN<|cT<|qX<|qE<|WC.region rfl rfl<|sV (rI (rW (s21 + (1 : Int))))<|sM rfl<|sN ?_
      cases oI h
      exact ⟨rfl, rfl⟩
     refine sN<|cF<|qK<|gS rfl rfl<|sV (.ptr 128 4)<|sL rfl<|WO.kb rfl rfl rfl rfl rfl rfl rfl rfl rfl<|sA rfl<|sN<|qB<|WC.bX rfl rfl<|sM rfl<|sF h (fun h => ?_) fun h => ?_
     ·refine sM rfl<|sV (.ptr 128 4)<|sL rfl<|sM rfl<|sV (rI (rW ((s22.length : Int) - (1 : Int))))<|bE h fun x36 hx36 h => WO.eE hx36 rfl rfl rfl rfl rfl rfl rfl rfl<|sV (.elt 1088 0 ((rW ((s22.length : Int) - (1 : Int)))).toNat 1)<|bE h fun x37 hx37 h => WO.eD hx37 rfl rfl rfl rfl rfl rfl<|sV (.ptr 160 4)<|sL rfl<|sV (rB (decide (x37.fTo > x30.aN)))<|sF h (fun h => ?_) fun h => ?_
      ·refine sA rfl ?_
       refine sN<|sO<|cT<|qK<|WC.region rfl rfl<|sV (rI (rW (s21 + (1 : Int))))<|sM rfl<|sN ?_
       cases oI h
       exact ⟨rfl, rfl⟩
      refine sA rfl ?_
      refine sN<|sO<|cF<|WC.bX rfl rfl<|sM rfl<|sF h (fun h => ?_) fun h => ?_
      ·refine sM rfl<|sV (.ptr 128 4)<|sL rfl<|sM rfl<|sV (rI (rW ((s22.length : Int) - (1 : Int))))<|bE h fun x41 hx41 h => WO.eE hx41 rfl rfl rfl rfl rfl rfl rfl rfl<|sV (.elt 1088 0 ((rW ((s22.length : Int) - (1 : Int)))).toNat 1)<|bE h fun x42 hx42 h => WO.eD hx42 rfl rfl rfl rfl rfl rfl<|sV (.ptr 160 4)<|sL rfl<|sV (rB (x42.fTo == x30.aN))<|sF h (fun h => ?_) fun h => ?_
       ·refine sA rfl ?_
        refine sN<|sO<|cT<|WC.region rfl rfl<|sV (.ptr 128 4)<|sL rfl<|sM rfl<|sV (rI (rW ((s22.length : Int) - (1 : Int))))<|bE h fun x45 hx45 h => WO.eE hx45 rfl rfl rfl rfl rfl rfl rfl rfl<|sV (.elt 1088 0 ((rW ((s22.length : Int) - (1 : Int)))).toNat 1)<|bE h fun x46 hx46 h => WO.eD hx46 rfl rfl rfl rfl rfl rfl<|sV (rI (rW (x46.fTo + (1 : Int))))<|bE h fun x48 hx48 h => WO.eE hx48 rfl rfl rfl rfl rfl rfl rfl rfl ?_
        refine sV (.elt 1088 0 ((rW ((s22.length : Int) - (1 : Int)))).toNat 1)<|bE h fun x49 hx49 h => WO.ko (g := aj.pd) (u := []) (sz := 1) hx49 (fun _ => rfl) (fun _ => Nat.le_of_ble_eq_true rfl) rfl rfl rfl rfl rfl rfl rfl rfl rfl rfl rfl<|sN<|WC.region rfl rfl<|sV (rI (rW (s21 + (1 : Int))))<|sM rfl<|sN ?_
        cases oI h
        exact ⟨rfl, rfl⟩
       refine sA rfl ?_
       refine sN<|sO<|cF<|WC.region rfl rfl<|sV (.ptr 128 4)<|sL rfl<|sV (.ptr 160 4)<|sL rfl<|sV (.ptr 160 4)<|sL rfl<|sV (rI (rW (x30.aN + (1 : Int))))<|sV (.d (aj.pd (aj.mk x30.aN (rW (x30.aN + (1 : Int))))))<|sV (.d (.lst ([(aj.mk x30.aN (rW (x30.aN + (1 : Int))))].map aj.pd)))<|bE h fun x51 hx51 h => aR hx51 (fun _ => rfl) rfl<|sV (.ptr 128 4) ?_
       refine sS 128 (.var [rS x19.aC, rS x19.aA, rS x19.av, rS x19.aD, .ref 1088 1])<|sN<|WC.region rfl rfl<|sV (rI (rW (s21 + (1 : Int))))<|sM rfl<|sN ?_
       cases oI h
       exact ⟨rfl, rfl⟩
      refine sM rfl<|k3<|k3<|k3<|sK<|sU<|sA rfl ?_
      refine sN<|sO<|cF<|WC.region rfl rfl<|sV (.ptr 128 4)<|sL rfl<|sV (.ptr 160 4)<|sL rfl<|sV (.ptr 160 4)<|sL rfl<|sV (rI (rW (x30.aN + (1 : Int))))<|sV (.d (aj.pd (aj.mk x30.aN (rW (x30.aN + (1 : Int))))))<|sV (.d (.lst ([(aj.mk x30.aN (rW (x30.aN + (1 : Int))))].map aj.pd)))<|bE h fun x52 hx52 h => aR hx52 (fun _ => rfl) rfl<|sV (.ptr 128 4) ?_
      refine sS 128 (.var [rS x19.aC, rS x19.aA, rS x19.av, rS x19.aD, .ref 1088 1])<|sN<|WC.region rfl rfl<|sV (rI (rW (s21 + (1 : Int))))<|sM rfl<|sN ?_
      cases oI h
      exact ⟨rfl, rfl⟩
     refine sM rfl<|k3<|k3<|k3<|sK<|sU<|sA rfl ?_
     refine sN<|sO<|cF<|WC.bX rfl rfl<|sM rfl<|sF h (fun h => ?_) fun h => ?_
     ·refine sM rfl<|sV (.ptr 128 4)<|sL rfl<|sM rfl<|sV (rI (rW ((s22.length : Int) - (1 : Int))))<|bE h fun x55 hx55 h => WO.eE hx55 rfl rfl rfl rfl rfl rfl rfl rfl<|sV (.elt 1088 0 ((rW ((s22.length : Int) - (1 : Int)))).toNat 1)<|bE h fun x56 hx56 h => WO.eD hx56 rfl rfl rfl rfl rfl rfl<|sV (.ptr 160 4)<|sL rfl<|sV (rB (x56.fTo == x30.aN))<|sF h (fun h => ?_) fun h => ?_
      ·refine sA rfl ?_
       refine sN<|sO<|cT<|WC.region rfl rfl<|sV (.ptr 128 4)<|sL rfl<|sM rfl<|sV (rI (rW ((s22.length : Int) - (1 : Int))))<|bE h fun x59 hx59 h => WO.eE hx59 rfl rfl rfl rfl rfl rfl rfl rfl<|sV (.elt 1088 0 ((rW ((s22.length : Int) - (1 : Int)))).toNat 1)<|bE h fun x60 hx60 h => WO.eD hx60 rfl rfl rfl rfl rfl rfl<|sV (rI (rW (x60.fTo + (1 : Int))))<|bE h fun x62 hx62 h => WO.eE hx62 rfl rfl rfl rfl rfl rfl rfl rfl ?_
       refine sV (.elt 1088 0 ((rW ((s22.length : Int) - (1 : Int)))).toNat 1)<|bE h fun x63 hx63 h => WO.ko (g := aj.pd) (u := []) (sz := 1) hx63 (fun _ => rfl) (fun _ => Nat.le_of_ble_eq_true rfl) rfl rfl rfl rfl rfl rfl rfl rfl rfl rfl rfl<|sN<|WC.region rfl rfl<|sV (rI (rW (s21 + (1 : Int))))<|sM rfl<|sN ?_
       cases oI h
       exact ⟨rfl, rfl⟩
      refine sA rfl ?_
      refine sN<|sO<|cF<|WC.region rfl rfl<|sV (.ptr 128 4)<|sL rfl<|sV (.ptr 160 4)<|sL rfl<|sV (.ptr 160 4)<|sL rfl<|sV (rI (rW (x30.aN + (1 : Int))))<|sV (.d (aj.pd (aj.mk x30.aN (rW (x30.aN + (1 : Int))))))<|sV (.d (.lst ([(aj.mk x30.aN (rW (x30.aN + (1 : Int))))].map aj.pd)))<|bE h fun x65 hx65 h => aR hx65 (fun _ => rfl) rfl<|sV (.ptr 128 4) ?_
      refine sS 128 (.var [rS x19.aC, rS x19.aA, rS x19.av, rS x19.aD, .ref 1088 1])<|sN<|WC.region rfl rfl<|sV (rI (rW (s21 + (1 : Int))))<|sM rfl<|sN ?_
      cases oI h
      exact ⟨rfl, rfl⟩
     refine sM rfl<|k3<|k3<|k3<|sK<|sU<|sA rfl ?_
     refine sN<|sO<|cF<|WC.region rfl rfl<|sV (.ptr 128 4)<|sL rfl<|sV (.ptr 160 4)<|sL rfl<|sV (.ptr 160 4)<|sL rfl<|sV (rI (rW (x30.aN + (1 : Int))))<|sV (.d (aj.pd (aj.mk x30.aN (rW (x30.aN + (1 : Int))))))<|sV (.d (.lst ([(aj.mk x30.aN (rW (x30.aN + (1 : Int))))].map aj.pd)))<|bE h fun x66 hx66 h => aR hx66 (fun _ => rfl) rfl<|sV (.ptr 128 4) ?_
     refine sS 128 (.var [rS x19.aC, rS x19.aA, rS x19.av, rS x19.aD, .ref 1088 1])<|sN<|WC.region rfl rfl<|sV (rI (rW (s21 + (1 : Int))))<|sM rfl<|sN ?_
     cases oI h
     exact ⟨rfl, rfl⟩
    refine sN<|qS<|cF<|qX ?_
    cases oI h
    exact ⟨nofun, rfl, rfl⟩
   intro e R' B' he hq
   obtain ⟨rfl, hI⟩ := hq
   refine qE<|WC.region hI rfl<|sM rfl<|sV (.agg [rS x19.aC, rS x19.aA, rS x19.av, rS x19.aD, .ref 1088 0])<|sB (.d (.lst [ar.pd (ar.mk x19 o68.2.2)])) 1088 .dead<|bE h fun x69 hx69 h => aR hx69 (fun _ => rfl) rfl<|sA rfl<|sN<|WC.region rfl rfl<|sV (rI (rW (o68.1 + (1 : Int))))<|sM rfl<|sN ?_
   cases oI h
   exact ⟨rfl, rfl⟩
  refine sN<|qS<|cF<|qX ?_
  cases oI h
  exact ⟨nofun, rfl, rfl⟩
 intro e R' B' he hq
 obtain ⟨rfl, hI⟩ := hq
 refine qE<|gS rfl hI<|sM rfl<|sA rfl<|sN<|qR ?_
 exact oI h▸qD
theorem ref02_gcd_ev {a0 : Int} {a1 : Int} {r : Int} (h : wM a0 a1 = some r) : EvP prog aw ext 178 [rI a0, rI a1] [] (rI r, []) := by
 refine Ev.body rfl Tryz.func178 rfl (by kernel_rfl)<|gS rfl rfl<|sV (r0)<|sN<|qS<|bE h fun o8 ho8 h => WC.block (WC.loop (WL.cv ho8 (fun s R' B' => bg prog 0 (A R' B') (aw.at_ 178 0 1) = some (A [(0, rI s.1), (1, rI s.2)] [])) (fun o e R' B' => e = .exit 0 ∧ bg prog 0 (A R' B') (aw.at_ 178 0 3) = some (A [(0, rI o)] [])) rfl ?_ ?_))
 ·rintro ⟨s1, s2⟩ R' B' q4 hI h
  refine qS<|gS rfl hI<|sM rfl<|sF h (fun h => ?_) fun h => ?_
  ·refine sN<|cT<|qK<|qB<|WC.eP rfl rfl<|sM rfl<|sM rfl<|sM rfl<|bE h fun x6 hx6 h => WO.remG hx6 rfl rfl rfl rfl rfl rfl<|sA rfl<|sA rfl ?_
   refine sN<|sO ?_
   cases oI h
   exact ⟨rfl, rfl⟩
  refine sN<|cF<|qX ?_
  cases oI h
  exact ⟨nofun, rfl, rfl⟩
 intro e R' B' he hq
 obtain ⟨rfl, hI⟩ := hq
 refine qE<|gS rfl hI<|sM rfl<|sA rfl<|sN<|qR ?_
 exact oI h▸qD
theorem ref02_Valid_ev {a0 : aT} {r : Bool} (h : ql a0 = some r) : EvP prog aw ext 136 [.d (aT.pd a0)] [] (rB r, []) := by
 refine Ev.body rfl Tryz.func136 rfl (by kernel_rfl)<|gS rfl rfl<|sB (.ptr 16 0) 16 (.var [rI a0.aU, rI a0.aS])<|sU<|sN<|gS rfl rfl<|sV (.ptr 16 0)<|sL rfl<|bE h fun x1 hx1 h => cY h (fun hb2 h => ?_) (fun hb2 h => ?_)
 ·refine WO.fj (v := rB true) (u := []) rfl rfl (fun _ => rfl) rfl rfl rfl rfl rfl (bV hx1) rfl rfl (congrArg (fun b => RV.d (.bool b)) hb2) rfl<|sM rfl<|sV (.ptr 16 1)<|sL rfl<|bE h fun x3 hx3 h => cD (bV hx3)<|sF h (fun h => ?_) fun h => ?_
  ·refine sM rfl<|sV (.ptr 16 0)<|sL rfl<|sV (.ptr 16 1)<|sL rfl<|bE h fun x5 hx5 h => cD (ref02_gcd_ev hx5)<|sV (rB (x5 == (1 : Int)))<|sV (rB (x5 == (1 : Int)))<|sA rfl<|sN<|qR ?_
   exact oI h▸qD
  refine sM rfl<|k3<|k3<|sU<|sA rfl<|sN<|qR ?_
  exact oI h▸qD
 refine WO.fj (v := rB false) (u := []) rfl rfl (fun _ => rfl) rfl rfl rfl rfl rfl (bV hx1) rfl rfl (congrArg (fun b => RV.d (.bool b)) hb2) rfl<|sM rfl<|k3<|sU<|sM rfl<|k3<|k3<|sU<|sA rfl ?_
 refine sN<|qR ?_
 exact oI h▸qD
theorem lu {a0 : (List Int)} {r : Bool} (h : gM a0 = some r) : EvP prog aw ext 207 [.d (.lst (a0.map (PD.int .i64)))] [] (rB r, []) := by
 refine Ev.body rfl Tryz.func207 rfl (by kernel_rfl)<|gS rfl rfl<|sU<|sN<|qS<|gS rfl rfl<|sV (r0)<|sN<|bE h fun o8 ho8 h => WC.block (WC.loop (WL.cv ho8 (fun s R' B' => bg prog 0 (A R' B') (aw.at_ 207 0 2) = some (A [(0, .d (.lst (a0.map (PD.int .i64)))), (3, rI s)] [])) (fun o e R' B' => match o with | .inl y => e = .exit 0 ∧ bg prog 0 (A R' B') (aw.at_ 207 0 6) = some (A [] []) | .inr r => e = .ret ∧ finish prog (aw.own 207) Tryz.f207 0 (A R' B') = some (rB r, [])) rfl ?_ ?_))
 ·rintro s1 R' B' q2 hI h
  refine qS<|gS rfl hI<|sM rfl<|sM rfl<|sE (rI (a0.length : Int)) (b8 _ _)<|sF h (fun h => ?_) fun h => ?_
  ·refine sN<|cT<|qK<|qS<|qB<|gS rfl rfl<|sM rfl<|sM rfl<|bE h fun x4 hx4 h => eG hx4 rfl<|sC rfl<|bE h fun x5 hx5 h => cD (bV hx5)<|sF h (fun h => ?_) fun h => ?_
   ·refine sN<|cT<|gS rfl rfl<|sU<|sN<|qR ?_
    cases oI h
    exact ⟨nofun, rfl, rfl⟩
   refine sN<|cF<|qK<|WC.region rfl rfl<|sM rfl<|sV (rI (rW (s1 + (1 : Int))))<|sA rfl<|sN ?_
   cases oI h
   exact ⟨rfl, rfl⟩
  refine sN<|cF<|qX ?_
  cases oI h
  exact ⟨nofun, rfl, rfl⟩
 intro e R' B' he hq
 rcases o8 with y9 | r10
 ·obtain ⟨rfl, hI⟩ := hq
  refine qE<|gS rfl hI<|sT<|sN<|qR ?_
  exact oI h▸qD
 obtain ⟨rfl, hf⟩ := hq
 cases oI h
 exact hf
theorem sh {a0 : (List Int)} {r : Int} (h : lv a0 = some r) : EvP prog aw ext 208 [.d (.lst (a0.map (PD.int .i64)))] [] (rI r, []) := by
 refine Ev.body rfl Tryz.func208 rfl (by kernel_rfl)<|gS rfl rfl<|sV (r0)<|sN<|gS rfl rfl<|sV (r0)<|sN<|qS<|gS rfl rfl<|sV (r0)<|sN<|bE h fun o8 ho8 h => WC.block (WC.loop (WL.cv ho8 (fun s R' B' => bg prog 0 (A R' B') (aw.at_ 208 0 3) = some (A [(0, .d (.lst (a0.map (PD.int .i64)))), (3, rI s.1), (4, rI s.2)] [])) (fun o e R' B' => e = .exit 0 ∧ bg prog 0 (A R' B') (aw.at_ 208 0 6) = some (A [(3, rI o)] [])) rfl ?_ ?_))
 ·rintro ⟨s1, s2⟩ R' B' q4 hI h
  refine qS<|gS rfl hI<|sM rfl<|sM rfl<|sE (rI (a0.length : Int)) (b8 _ _)<|sF h (fun h => ?_) fun h => ?_
  ·refine sN<|cT<|qK<|qS<|qB<|WC.region rfl rfl<|sM rfl<|sM rfl<|sM rfl<|bE h fun x6 hx6 h => eG hx6 rfl<|sC rfl<|sV (rI (rW (s1 + x6)))<|sA rfl<|sN ?_
   refine WC.region rfl rfl<|sM rfl<|sV (rI (rW (s2 + (1 : Int))))<|sA rfl<|sN ?_
   cases oI h
   exact ⟨rfl, rfl⟩
  refine sN<|cF<|qX ?_
  cases oI h
  exact ⟨nofun, rfl, rfl⟩
 intro e R' B' he hq
 obtain ⟨rfl, hI⟩ := hq
 refine qE<|gS rfl hI<|sM rfl<|sA rfl<|sN<|qR ?_
 exact oI h▸qD
theorem w6 {a0 : aq} {r : Bool} (h : gP a0 = some r) : EvP prog aw ext 179 [.d (aq.pd a0)] [] (rB r, []) := by
 refine Ev.body rfl Tryz.func179 rfl (by kernel_rfl)<|gS rfl rfl<|sB (.ptr 16 0) 16 (.var (aq.rc a0))<|sU<|sN<|gS rfl rfl<|sV (.ptr 16 7)<|sL rfl<|sE (rI (a0.bc.length : Int)) (b8 _ _)<|sF h (fun h => ?_) fun h => ?_
 ·refine sM rfl<|sV (.ptr 16 8)<|sL rfl<|sV (rB (a0.aX == (0 : Int)))<|sF h (fun h => ?_) fun h => ?_
  ·refine sM rfl<|sV (.ptr 16 9)<|sL rfl<|sV (rB (a0.bi == (0 : Int)))<|sV (rB (a0.bi == (0 : Int)))<|sA rfl<|sN<|qS<|gS rfl rfl<|sV (.ptr 16 0)<|sL rfl<|sN<|qB<|gS rfl rfl<|sF h (fun h => ?_) fun h => ?_
   ·refine sA rfl<|sN<|cT<|gS rfl rfl<|sF h (fun h => ?_) fun h => ?_
    ·refine sM rfl<|sV (.ptr 16 1)<|sV (.ptr 16 1)<|sL rfl<|bE h fun x5 hx5 h => cD (bV hx5)<|sF h (fun h => ?_) fun h => ?_
     ·refine sM rfl<|sV (.ptr 16 4)<|sV (.ptr 16 4)<|sL rfl<|bE h fun x7 hx7 h => cD (bV hx7)<|sF h (fun h => ?_) fun h => ?_
      ·refine sM rfl<|sV (.ptr 16 1)<|sV (.ptr 16 2)<|sL rfl<|sV (rB (a0.aU.a1 == (0 : Int)))<|sF h (fun h => ?_) fun h => ?_
       ·refine sM rfl<|sV (.ptr 16 1)<|sV (.ptr 16 3)<|sL rfl<|sV (rB (a0.aU.a2 == (0 : Int)))<|sF h (fun h => ?_) fun h => ?_
        ·refine sM rfl<|sV (.ptr 16 4)<|sV (.ptr 16 5)<|sL rfl<|sV (rB (a0.aS.a1 == (0 : Int)))<|sF h (fun h => ?_) fun h => ?_
         ·refine sM rfl<|sV (.ptr 16 4)<|sV (.ptr 16 6)<|sL rfl<|sV (rB (a0.aS.a2 == (0 : Int)))<|sV (rB (a0.aS.a2 == (0 : Int)))<|sA rfl<|sN<|qR ?_
          cases oI h
          exact qG
         refine sM rfl<|k3<|sK<|sU<|sA rfl<|sN<|qR ?_
         cases oI h
         exact qG
        refine sM rfl<|k3<|sK<|sU<|sM rfl<|k3<|sK<|sU<|sA rfl<|sN<|qR ?_
        cases oI h
        exact qG
       refine sM rfl<|k3<|sK<|sU<|sM rfl<|k3<|sK<|sU<|sM rfl<|sK<|sK ?_
       refine sK<|sK<|sU<|sA rfl<|sN<|qR ?_
       cases oI h
       exact qG
      refine sM rfl<|k3<|sK<|sU<|sM rfl<|k3<|sK<|sU<|sM rfl<|sK<|sK ?_
      refine sK<|sK<|sU<|sM rfl<|k3<|sK<|sU<|sA rfl<|sN<|qR ?_
      cases oI h
      exact qG
     refine sM rfl<|k3<|sK<|sU<|sM rfl<|k3<|sK<|sU<|sM rfl<|sK<|sK ?_
     refine sK<|sK<|sU<|sM rfl<|k3<|sK<|sU<|sM rfl<|k3<|sK<|sU ?_
     refine sA rfl<|sN<|qR ?_
     cases oI h
     exact qG
    refine sM rfl<|k3<|sK<|sU<|sM rfl<|k3<|sK<|sU<|sM rfl<|sK<|sK ?_
    refine sK<|sK<|sU<|sM rfl<|k3<|sK<|sU<|sM rfl<|k3<|sK<|sU ?_
    refine sM rfl<|k3<|sK<|sU<|sA rfl<|sN<|qR ?_
    cases oI h
    exact qG
   refine sA rfl<|sN<|cF<|gS rfl rfl<|sF h (fun h => ?_) fun h => ?_
   ·refine sA rfl<|sN<|cT<|WC.eC (R0 := [(1, .cptr [.int .i64 a0.br, .int .i64 a0.aU.a0, .int .i64 a0.aU.a1, .int .i64 a0.aU.a2, .int .i64 a0.aS.a0, .int .i64 a0.aS.a1, .int .i64 a0.aS.a2, .lst (a0.bc.map (PD.int .i64)), .int .i64 a0.aX, .int .i64 a0.bi]), (3, rB (a0.bi == (0 : Int)))]) (B0 := []) rfl rfl<|sF h (fun h => ?_) fun h => ?_
    ·refine sM rfl<|sV (.cptr [.int .i64 a0.aU.a0, .int .i64 a0.aU.a1, .int .i64 a0.aU.a2, .int .i64 a0.aS.a0, .int .i64 a0.aS.a1, .int .i64 a0.aS.a2, .lst (a0.bc.map (PD.int .i64)), .int .i64 a0.aX, .int .i64 a0.bi])<|sV (.d (.lst ([a0.aU.a0, a0.aU.a1, a0.aU.a2].map (PD.int .i64))))<|bE h fun x14 hx14 h => cD (lu hx14)<|sF h (fun h => ?_) fun h => ?_
     ·refine sM rfl<|sV (.cptr [.int .i64 a0.aS.a0, .int .i64 a0.aS.a1, .int .i64 a0.aS.a2, .lst (a0.bc.map (PD.int .i64)), .int .i64 a0.aX, .int .i64 a0.bi])<|sV (.d (.lst ([a0.aS.a0, a0.aS.a1, a0.aS.a2].map (PD.int .i64))))<|bE h fun x16 hx16 h => cD (lu hx16)<|sF h (fun h => ?_) fun h => ?_
      ·refine sM rfl<|sV (.cptr [.int .i64 a0.aS.a0, .int .i64 a0.aS.a1, .int .i64 a0.aS.a2, .lst (a0.bc.map (PD.int .i64)), .int .i64 a0.aX, .int .i64 a0.bi])<|sV (.cptr [.int .i64 a0.aS.a0, .int .i64 a0.aS.a1, .int .i64 a0.aS.a2, .lst (a0.bc.map (PD.int .i64)), .int .i64 a0.aX, .int .i64 a0.bi])<|sC rfl<|sV (rB (a0.aS.a0 != (0 : Int)))<|sV (rB (a0.aS.a0 != (0 : Int)))<|sA rfl<|sN<|qR ?_
       exact oI h▸qD
      refine sM rfl<|k3<|sK<|sU<|sA rfl<|sN<|qR ?_
      exact oI h▸qD
     refine sM rfl<|k3<|sU<|sM rfl<|k3<|sK<|sU<|sA rfl<|sN<|qR ?_
     exact oI h▸qD
    refine sM rfl<|k3<|sU<|sM rfl<|k3<|sU<|sM rfl<|k3<|sK ?_
    refine sU<|sA rfl<|sN<|qR ?_
    exact oI h▸qD
   refine sA rfl<|sN<|cF<|gS rfl rfl<|sF h (fun h => ?_) fun h => ?_
   ·refine sA rfl<|sN<|cT<|gS rfl rfl<|sV (.ptr 16 1)<|sV (.d (aV.pd a0.aU))<|sV (.d (aV.pd (aV.mk 0 0 0)))<|cY h (fun hb19 h => ?_) (fun hb19 h => ?_)
    ·refine WO.gu (eZ a0.aU (aV.mk 0 0 0)) hb19 rfl rfl rfl rfl rfl<|sM rfl<|sV (.ptr 16 4)<|sV (.d (aV.pd a0.aS))<|sV (.d (aV.pd (aV.mk 0 0 0)))<|WO.bin (eZ a0.aS (aV.mk 0 0 0)) rfl rfl rfl rfl rfl<|sF h (fun h => ?_) fun h => ?_
     ·refine sM rfl<|sV (.ptr 16 7)<|sL rfl<|sE (rI (a0.bc.length : Int)) (b8 _ _)<|bE h fun x21 hx21 h => cD (bV hx21)<|sF h (fun h => ?_) fun h => ?_
      ·refine sM rfl<|sV (.ptr 16 7)<|sL rfl<|bE h fun x23 hx23 h => cD (lu hx23)<|sF h (fun h => ?_) fun h => ?_
       ·refine sM rfl<|sV (.ptr 16 7)<|sL rfl<|bE h fun x25 hx25 h => cD (sh hx25)<|sV (rB (x25 != (0 : Int)))<|sF h (fun h => ?_) fun h => ?_
        ·refine sM rfl<|sV (.ptr 16 8)<|sL rfl<|bE h fun x27 hx27 h => cD (bV hx27)<|sF h (fun h => ?_) fun h => ?_
         ·refine sM rfl<|sV (.ptr 16 9)<|sL rfl<|bE h fun x29 hx29 h => cD (bV hx29)<|sV (rB x29)<|sA rfl<|sN<|qR ?_
          cases oI h
          exact qG
         refine sM rfl<|k3<|sU<|sA rfl<|sN<|qR ?_
         cases oI h
         exact qG
        refine sM rfl<|k3<|sU<|sM rfl<|k3<|sU<|sA rfl<|sN<|qR ?_
        cases oI h
        exact qG
       refine sM rfl<|k3<|sK<|sU<|sM rfl<|k3<|sU<|sM rfl<|sK<|sK<|sK ?_
       refine sU<|sA rfl<|sN<|qR ?_
       cases oI h
       exact qG
      refine sM rfl<|k3<|sU<|sM rfl<|k3<|sK<|sU<|sM rfl<|sK<|sK<|sK ?_
      refine sU<|sM rfl<|k3<|sU<|sA rfl<|sN<|qR ?_
      cases oI h
      exact qG
     refine sM rfl<|k3<|sK<|sU<|sM rfl<|k3<|sU<|sM rfl<|sK<|sK<|sK ?_
     refine sK<|sU<|sM rfl<|k3<|sU<|sM rfl<|k3<|sU<|sA rfl<|sN<|qR ?_
     cases oI h
     exact qG
    refine WO.gu (eZ a0.aU (aV.mk 0 0 0)) hb19 rfl rfl rfl rfl rfl<|sM rfl<|k3<|sK<|sU<|sM rfl<|k3<|sK<|sU<|sM rfl<|sK ?_
    refine sK<|sK<|sU<|sM rfl<|k3<|sK<|sU<|sM rfl<|k3<|sU<|sM rfl ?_
    refine k3<|sU<|sA rfl<|sN<|qR ?_
    cases oI h
    exact qG
   refine sA rfl<|sN<|cF<|qK<|gS rfl rfl<|sU<|sN<|qR ?_
   cases oI h
   exact qG
  refine sM rfl<|k3<|sU<|sA rfl<|sN<|qS<|gS rfl rfl<|sV (.ptr 16 0)<|sL rfl<|sN<|qB<|gS rfl rfl<|sF h (fun h => ?_) fun h => ?_
  ·refine sA rfl<|sN<|cT<|gS rfl rfl<|sM rfl<|sM rfl<|k3<|sK<|sU<|sM rfl<|sK<|sK<|sK ?_
   refine sK<|sU<|sM rfl<|k3<|sK<|sU<|sM rfl<|k3<|sK<|sU<|sM rfl ?_
   refine k3<|sK<|sU<|sM rfl<|k3<|sK<|sU<|sA rfl<|sN<|qR ?_
   cases oI h
   exact qG
  refine sA rfl<|sN<|cF<|gS rfl rfl<|sF h (fun h => ?_) fun h => ?_
  ·refine sA rfl<|sN<|cT<|WC.eC (R0 := [(1, .cptr [.int .i64 a0.br, .int .i64 a0.aU.a0, .int .i64 a0.aU.a1, .int .i64 a0.aU.a2, .int .i64 a0.aS.a0, .int .i64 a0.aS.a1, .int .i64 a0.aS.a2, .lst (a0.bc.map (PD.int .i64)), .int .i64 a0.aX, .int .i64 a0.bi]), (3, rB false)]) (B0 := []) rfl rfl<|sM rfl<|sM rfl<|k3<|sU<|sM rfl<|k3<|sU ?_
   refine sM rfl<|k3<|sK<|sU<|sA rfl<|sN<|qR ?_
   exact oI h▸qD
  refine sA rfl<|sN<|cF<|gS rfl rfl<|sF h (fun h => ?_) fun h => ?_
  ·refine sA rfl<|sN<|cT<|gS rfl rfl<|sV (.ptr 16 1)<|sV (.d (aV.pd a0.aU))<|sV (.d (aV.pd (aV.mk 0 0 0)))<|cY h (fun hb33 h => ?_) (fun hb33 h => ?_)
   ·refine WO.gu (eZ a0.aU (aV.mk 0 0 0)) hb33 rfl rfl rfl rfl rfl<|sM rfl<|sV (.ptr 16 4)<|sV (.d (aV.pd a0.aS))<|sV (.d (aV.pd (aV.mk 0 0 0)))<|WO.bin (eZ a0.aS (aV.mk 0 0 0)) rfl rfl rfl rfl rfl<|sF h (fun h => ?_) fun h => ?_
    ·refine sM rfl<|sV (.ptr 16 7)<|sL rfl<|sE (rI (a0.bc.length : Int)) (b8 _ _)<|bE h fun x35 hx35 h => cD (bV hx35)<|sF h (fun h => ?_) fun h => ?_
     ·refine sM rfl<|sV (.ptr 16 7)<|sL rfl<|bE h fun x37 hx37 h => cD (lu hx37)<|sF h (fun h => ?_) fun h => ?_
      ·refine sM rfl<|sV (.ptr 16 7)<|sL rfl<|bE h fun x39 hx39 h => cD (sh hx39)<|sV (rB (x39 != (0 : Int)))<|sF h (fun h => ?_) fun h => ?_
       ·refine sM rfl<|sV (.ptr 16 8)<|sL rfl<|bE h fun x41 hx41 h => cD (bV hx41)<|sF h (fun h => ?_) fun h => ?_
        ·refine sM rfl<|sV (.ptr 16 9)<|sL rfl<|bE h fun x43 hx43 h => cD (bV hx43)<|sV (rB x43)<|sA rfl<|sN<|qR ?_
         cases oI h
         exact qG
        refine sM rfl<|k3<|sU<|sA rfl<|sN<|qR ?_
        cases oI h
        exact qG
       refine sM rfl<|k3<|sU<|sM rfl<|k3<|sU<|sA rfl<|sN<|qR ?_
       cases oI h
       exact qG
      refine sM rfl<|k3<|sK<|sU<|sM rfl<|k3<|sU<|sM rfl<|sK<|sK<|sK ?_
      refine sU<|sA rfl<|sN<|qR ?_
      cases oI h
      exact qG
     refine sM rfl<|k3<|sU<|sM rfl<|k3<|sK<|sU<|sM rfl<|sK<|sK<|sK ?_
     refine sU<|sM rfl<|k3<|sU<|sA rfl<|sN<|qR ?_
     cases oI h
     exact qG
    refine sM rfl<|k3<|sK<|sU<|sM rfl<|k3<|sU<|sM rfl<|sK<|sK<|sK ?_
    refine sK<|sU<|sM rfl<|k3<|sU<|sM rfl<|k3<|sU<|sA rfl<|sN<|qR ?_
    cases oI h
    exact qG
   refine WO.gu (eZ a0.aU (aV.mk 0 0 0)) hb33 rfl rfl rfl rfl rfl<|sM rfl<|k3<|sK<|sU<|sM rfl<|k3<|sK<|sU<|sM rfl<|sK ?_
   refine sK<|sK<|sU<|sM rfl<|k3<|sK<|sU<|sM rfl<|k3<|sU<|sM rfl ?_
   refine k3<|sU<|sA rfl<|sN<|qR ?_
   cases oI h
   exact qG
  refine sA rfl<|sN<|cF<|qK<|gS rfl rfl<|sU<|sN<|qR ?_
  cases oI h
  exact qG
 refine sM rfl<|k3<|sU<|sM rfl<|k3<|sU<|sA rfl<|sN<|qS<|gS rfl rfl<|sV (.ptr 16 0) ?_
 refine sL rfl<|sN<|qB<|gS rfl rfl<|sF h (fun h => ?_) fun h => ?_
 ·refine sA rfl<|sN<|cT<|gS rfl rfl<|sM rfl<|sM rfl<|k3<|sK<|sU<|sM rfl<|sK<|sK<|sK ?_
  refine sK<|sU<|sM rfl<|k3<|sK<|sU<|sM rfl<|k3<|sK<|sU<|sM rfl ?_
  refine k3<|sK<|sU<|sM rfl<|k3<|sK<|sU<|sA rfl<|sN<|qR ?_
  cases oI h
  exact qG
 refine sA rfl<|sN<|cF<|gS rfl rfl<|sF h (fun h => ?_) fun h => ?_
 ·refine sA rfl<|sN<|cT<|WC.eC (R0 := [(1, .cptr [.int .i64 a0.br, .int .i64 a0.aU.a0, .int .i64 a0.aU.a1, .int .i64 a0.aU.a2, .int .i64 a0.aS.a0, .int .i64 a0.aS.a1, .int .i64 a0.aS.a2, .lst (a0.bc.map (PD.int .i64)), .int .i64 a0.aX, .int .i64 a0.bi]), (3, rB false)]) (B0 := []) rfl rfl<|sM rfl<|sM rfl<|k3<|sU<|sM rfl<|k3<|sU ?_
  refine sM rfl<|k3<|sK<|sU<|sA rfl<|sN<|qR ?_
  exact oI h▸qD
 refine sA rfl<|sN<|cF<|gS rfl rfl<|sF h (fun h => ?_) fun h => ?_
 ·refine sA rfl<|sN<|cT<|gS rfl rfl<|sV (.ptr 16 1)<|sV (.d (aV.pd a0.aU))<|sV (.d (aV.pd (aV.mk 0 0 0)))<|cY h (fun hb47 h => ?_) (fun hb47 h => ?_)
  ·refine WO.gu (eZ a0.aU (aV.mk 0 0 0)) hb47 rfl rfl rfl rfl rfl<|sM rfl<|sV (.ptr 16 4)<|sV (.d (aV.pd a0.aS))<|sV (.d (aV.pd (aV.mk 0 0 0)))<|WO.bin (eZ a0.aS (aV.mk 0 0 0)) rfl rfl rfl rfl rfl<|sF h (fun h => ?_) fun h => ?_
   ·refine sM rfl<|sV (.ptr 16 7)<|sL rfl<|sE (rI (a0.bc.length : Int)) (b8 _ _)<|bE h fun x49 hx49 h => cD (bV hx49)<|sF h (fun h => ?_) fun h => ?_
    ·refine sM rfl<|sV (.ptr 16 7)<|sL rfl<|bE h fun x51 hx51 h => cD (lu hx51)<|sF h (fun h => ?_) fun h => ?_
     ·refine sM rfl<|sV (.ptr 16 7)<|sL rfl<|bE h fun x53 hx53 h => cD (sh hx53)<|sV (rB (x53 != (0 : Int)))<|sF h (fun h => ?_) fun h => ?_
      ·refine sM rfl<|sV (.ptr 16 8)<|sL rfl<|bE h fun x55 hx55 h => cD (bV hx55)<|sF h (fun h => ?_) fun h => ?_
       ·refine sM rfl<|sV (.ptr 16 9)<|sL rfl<|bE h fun x57 hx57 h => cD (bV hx57)<|sV (rB x57)<|sA rfl<|sN<|qR ?_
        cases oI h
        exact qG
       refine sM rfl<|k3<|sU<|sA rfl<|sN<|qR ?_
       cases oI h
       exact qG
      refine sM rfl<|k3<|sU<|sM rfl<|k3<|sU<|sA rfl<|sN<|qR ?_
      cases oI h
      exact qG
     refine sM rfl<|k3<|sK<|sU<|sM rfl<|k3<|sU<|sM rfl<|sK<|sK<|sK ?_
     refine sU<|sA rfl<|sN<|qR ?_
     cases oI h
     exact qG
    refine sM rfl<|k3<|sU<|sM rfl<|k3<|sK<|sU<|sM rfl<|sK<|sK<|sK ?_
    refine sU<|sM rfl<|k3<|sU<|sA rfl<|sN<|qR ?_
    cases oI h
    exact qG
   refine sM rfl<|k3<|sK<|sU<|sM rfl<|k3<|sU<|sM rfl<|sK<|sK<|sK ?_
   refine sK<|sU<|sM rfl<|k3<|sU<|sM rfl<|k3<|sU<|sA rfl<|sN<|qR ?_
   cases oI h
   exact qG
  refine WO.gu (eZ a0.aU (aV.mk 0 0 0)) hb47 rfl rfl rfl rfl rfl<|sM rfl<|k3<|sK<|sU<|sM rfl<|k3<|sK<|sU<|sM rfl<|sK ?_
  refine sK<|sK<|sU<|sM rfl<|k3<|sK<|sU<|sM rfl<|k3<|sU<|sM rfl ?_
  refine k3<|sU<|sA rfl<|sN<|qR ?_
  cases oI h
  exact qG
 refine sA rfl<|sN<|cF<|qK<|gS rfl rfl<|sU<|sN<|qR ?_
 cases oI h
 exact qG
end Go.Dw.De
