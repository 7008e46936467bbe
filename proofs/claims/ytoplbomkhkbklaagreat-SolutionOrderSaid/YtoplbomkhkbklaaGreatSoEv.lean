
import Derived.Test.YtoplbomkhkbklaaGreatSoEvB

set_option maxRecDepth 100000
set_option maxHeartbeats 4000000
namespace Go.Dw.So
open Go.Proofs Go.Proofs.Tryz Go.Dw
theorem mF {a0 : bt} {a1 : aN} {a2 : Int} {a3 : Int} {a4 : Int} {r : aA × Int} (h : eD a0 a1 a2 a3 a4 = some r) : EvP prog aH ext 40 [.d (bt.pd a0), .d (aN.pd a1), rI a2, rI a3, rI a4] [] (.tup [.d (aA.pd r.1), rI r.2], []) := by
 refine Ev.body rfl Tryz.func40 rfl (by kernel_rfl)<|gS rfl rfl<|sB (.ptr 80 0) 80 (.var (bt.rc a0))<|sB (.ptr 96 0) 96 (.var [.d (.lst (a1.bj.map aB.pd))])<|sB (.ptr 160 0) 160 (.var [r0, r0])<|sV (r0)<|sN<|qS<|gS rfl rfl<|sV (.d (bt.pd a0))<|bE h fun x1 hx1 h => cD (ib hx1)<|sF h (fun h => ?_) fun h => ?_
 ·refine sN<|cT<|gS rfl rfl<|sV (.d (aA.pd (aA.mk 0 0)))<|sS 160 (.var [r0, r0])<|sV (rI 27)<|sN<|qR ?_
  exact oI h▸qD
 refine sN<|cF<|qK<|qS<|gS rfl rfl<|sM rfl<|sF h (fun h => ?_) fun h => ?_
 ·refine sM rfl<|sK<|sK<|sT<|sN<|cT<|gS rfl rfl<|sV (.d (aA.pd (aA.mk 0 0)))<|sS 160 (.var [r0, r0])<|sV (rI 2)<|sN<|qR ?_
  exact oI h▸qD
 refine sM rfl<|sM rfl<|sV (rB (decide (a2 > (1073741823 : Int))))<|sF h (fun h => ?_) fun h => ?_
 ·refine sN<|cT<|gS rfl rfl<|sV (.d (aA.pd (aA.mk 0 0)))<|sS 160 (.var [r0, r0])<|sV (rI 2)<|sN<|qR ?_
  exact oI h▸qD
 refine sN<|cF<|qK<|gS rfl rfl<|sV (.d (bt.pd a0))<|sV (.d (aN.pd a1))<|sM rfl<|bE h fun x5 hx5 h => cR (.tup [rI x5.1, rI x5.2]) [] (nm hx5)<|sM rfl<|sV (rI x5.1)<|sV (rI x5.2)<|sA rfl<|sA rfl<|sN ?_
 refine qS<|gS rfl rfl<|sM rfl<|sF h (fun h => ?_) fun h => ?_
 ·refine sN<|cT<|gS rfl rfl<|sV (.d (aA.pd (aA.mk 0 0)))<|sM rfl<|sS 160 (.var [r0, r0])<|sA rfl<|sN<|qR ?_
  exact oI h▸qD
 refine sN<|cF<|qK<|gS rfl rfl<|sV (.ptr 80 0)<|sV (.d (aK.pd a0.aZ))<|sM rfl<|sM rfl<|bE h fun x7 hx7 h => cR (.tup [rI x7.1, rI x7.2.1, rI x7.2.2]) [] (kZ hx7)<|sM rfl<|sV (rI x7.1)<|sV (rI x7.2.1)<|sV (rI x7.2.2)<|sA rfl ?_
 refine sA rfl<|sA rfl<|sN<|qS<|gS rfl rfl<|sM rfl<|sF h (fun h => ?_) fun h => ?_
 ·refine sN<|cT<|gS rfl rfl<|sV (.d (aA.pd (aA.mk 0 0)))<|sM rfl<|sS 160 (.var [r0, r0])<|sA rfl<|sN<|qR ?_
  exact oI h▸qD
 refine sN<|cF<|qK<|gS rfl rfl<|sM rfl<|sV (rI (rW (x5.1 - (2 : Int))))<|bE h fun x9 hx9 h => cD (kR hx9)<|bE h fun x10 hx10 h => cD (ky hx10)<|sM rfl<|sV (rI (rW (x10 + x7.1)))<|sM rfl<|sV (rI (rW (0 - x5.1)))<|sV (rI (rW ((rW (0 - x5.1)) - (6 : Int)))) ?_
 refine bE h fun x11 hx11 h => cD (kR hx11)<|sV (rI (rW (0 - x11)))<|bE h fun x12 hx12 h => cD (ol hx12)<|sM rfl<|sV (rI (rW (x12 + x7.2.1)))<|sV (.d (aA.pd (aA.mk (rW (x10 + x7.1)) (rW (x12 + x7.2.1)))))<|sS 160 (.var [rI (rW (x10 + x7.1)), rI (rW (x12 + x7.2.1))])<|sV (r0)<|sN<|qR ?_
 exact oI h▸qD
theorem mf {a0 : a7} {a1 : aG} {a2 : aj} {r : (List aA)} (h : ci a0 a1 a2 = some r) : EvP prog aH ext 27 [.d (a7.pd a0), .d (aG.pd a1), .d (aj.pd a2)] [] (.d (.lst (r.map aA.pd)), []) := by
 refine Ev.body rfl Tryz.func27 rfl (by kernel_rfl)<|gS rfl rfl<|sB (.ptr 48 0) 48 (.var [.d (.lst (a0.cg.map ap.pd)), .d (.lst (a0.b9.map av.pd)), .d (.lst (a0.ew.map al.pd))])<|sB (.ptr 64 0) 64 (.var (aG.rc a1))<|sB (.ptr 80 0) 80 (.var (aj.rc a2))<|sV .jY<|sN<|gS rfl rfl<|sV .jY<|sN<|qS<|gS rfl rfl<|sV (.ptr 48 1)<|sL rfl<|sE (rI (a0.b9.length : Int)) (oD _ _) ?_
 refine sV (r0)<|sN<|bE h fun o15 ho15 h => WC.block (WC.loop (WL.oL ho15 (fun s R' B' => jX prog 0 (A R' B') (aH.at_ 27 0 3) = some (A [(3, .ptr 48 0), (4, .ptr 64 0), (5, .ptr 80 0), (7, .ref 816 0), (13, .d (.lst (a0.b9.map av.pd))), (14, rI (a0.b9.length : Int)), (15, rI s.1)] [(48, .var [.d (.lst (a0.cg.map ap.pd)), .d (.lst (a0.b9.map av.pd)), .d (.lst (a0.ew.map al.pd))]), (64, .var (aG.rc a1)), (80, .var (aj.rc a2)), (816, .arr 0 53 (s.2.map aA.pd))])) (fun o e R' B' => e = .exit 0 ∧ jX prog 0 (A R' B') (aH.at_ 27 0 9) = some (A [(7, .ref 816 0)] [(816, .arr 0 53 (o.map aA.pd))])) rfl ?_ ?_))
 ·rintro ⟨s1, s2⟩ R' B' q4 hI h
  refine gS rfl hI<|sF h (fun h => ?_) fun h => ?_
  ·refine sN<|qS<|cT<|qK<|qS<|qB<|gS rfl rfl<|sM rfl<|bE h fun x6 hx6 h => eG hx6 rfl<|sV (.d (av.pd x6))<|sB (.ptr 144 0) 144 (.var zZ3)<|sA rfl<|sH 144 (.var (av.rc x6))<|sN ?_
   refine WC.cI rfl rfl<|sV (.ptr 64 14)<|sV (.d (bt.pd a1.bi))<|sV (.ptr 48 2)<|sL rfl<|sM rfl<|bE h fun x7 hx7 h => eG hx7 rfl<|sV (.cptr [.lst (x7.bq.bj.map aB.pd)])<|sV (.d (aN.pd x7.bq))<|sV (.ptr 48 0)<|sL rfl<|sM rfl<|bE h fun x8 hx8 h => eG hx8 rfl ?_
   refine sV (.cptr [.int .i64 x8.bn, .int .i64 x8.bI])<|sC rfl<|sV (.d (aj.pd a2))<|sV (.ptr 144 0)<|sV (.d (aa.pd x6.aL))<|bE h fun x9 hx9 h => cD (iP hx9)<|sV (.d (aj.pd a2))<|sV (.ptr 144 0)<|sV (.d (aa.pd x6.aL))<|bE h fun x10 hx10 h => cD (l5 hx10)<|bE h fun x11 hx11 h => cR (.tup [.d (aA.pd x11.1), rI x11.2]) [] (mF hx11)<|sM rfl ?_
   refine sV (.d (aA.pd x11.1))<|sV (rI x11.2)<|sB (.ptr 160 0) 160 (.var [r0, r0])<|sS 160 (.var [rI x11.1.ak, rI x11.1.ae])<|sA rfl ?_
   refine sN<|sO<|gS rfl rfl<|sM rfl<|sF h (fun h => ?_) fun h => ?_
   ·refine sN<|cT<|WC.region rfl rfl<|sM rfl<|sV (.d (aA.pd x11.1))<|sV (.d (.lst ([x11.1].map aA.pd)))<|bE h fun x13 hx13 h => aR hx13 (fun _ => rfl) rfl<|sA rfl<|sN<|WC.region rfl rfl<|sV (rI (rW (s1 + (1 : Int))))<|sM rfl<|sN ?_
    cases oI h
    exact ⟨rfl, rfl⟩
   refine sN<|cF<|qK<|WC.region rfl rfl<|sV (rI (rW (s1 + (1 : Int))))<|sM rfl<|sN ?_
   cases oI h
   exact ⟨rfl, rfl⟩
  refine sN<|qS<|cF<|qX ?_
  cases oI h
  exact ⟨nofun, rfl, rfl⟩
 intro e R' B' he hq
 obtain ⟨rfl, hI⟩ := hq
 refine qE<|gS rfl hI<|sM rfl<|sA rfl<|sN<|qR ?_
 exact oI h▸qD
theorem gw {a0 : aA} {r : Bool} (h : fq a0 = some r) : EvP prog aH ext 44 [.d (aA.pd a0)] [] (rB r, []) := by
 refine Ev.body rfl Tryz.func44 rfl (by kernel_rfl)<|gS rfl rfl<|sB (.ptr 16 0) 16 (.var [rI a0.ak, rI a0.ae])<|sU<|sN<|gS rfl rfl<|sV (.ptr 16 0)<|sL rfl<|sV (.ptr 16 1)<|sL rfl<|sV (rB (decide (a0.ak > a0.ae)))<|sA rfl<|sN<|qR ?_
 exact oI h▸qD
theorem ik {a0 : (List aA)} {r : Int} (h : dg a0 = some r) : EvP prog aH ext 75 [.d (.lst (a0.map aA.pd)), .d (.raw (.func (.func 44) #[] #[]))] [] (rI r, []) := by
 refine Ev.body rfl Tryz.func75 rfl (by kernel_rfl)<|gS rfl rfl<|sV (r0)<|sN<|qS<|gS rfl rfl<|sM rfl<|sE (rI (a0.length : Int)) (oD _ _)<|sV (r0)<|sN<|bE h fun o8 ho8 h => WC.block (WC.loop (WL.oL ho8 (fun s R' B' => jX prog 0 (A R' B') (aH.at_ 75 0 2) = some (A [(0, .d (.lst (a0.map aA.pd))), (1, .d (.raw (.func (.func 44) #[] #[]))), (7, rI (a0.length : Int)), (8, rI s)] [])) (fun o e R' B' => match o with | .inl y => e = .exit 0 ∧ jX prog 0 (A R' B') (aH.at_ 75 0 7) = some (A [] []) | .inr r => e = .ret ∧ finish prog (aH.own 75) Tryz.f75 0 (A R' B') = some (rI r, [])) rfl ?_ ?_))
 ·rintro s1 R' B' q2 hI h
  refine gS rfl hI<|sF h (fun h => ?_) fun h => ?_
  ·refine sN<|qS<|cT<|qK<|qS<|qB<|gS rfl rfl<|sM rfl<|sA rfl<|sN<|gS rfl rfl<|sM rfl<|sM rfl<|sM rfl<|bE h fun x4 hx4 h => ?_
   refine eG hx4 rfl<|sV (.d (aA.pd x4))<|bE h fun x5 hx5 h => pb h (fun hb6 h => ?_) (fun hb6 h => ?_)
   ·refine WO.pD (v := rB true) (u := []) rfl rfl (fun _ => rfl) rfl rfl rfl rfl rfl (gw hx5) rfl rfl (congrArg (fun b => RV.d (.bool b)) hb6) rfl<|sN<|cT<|gS rfl rfl<|sM rfl<|sA rfl<|sN<|qR ?_
    cases oI h
    exact ⟨nofun, rfl, rfl⟩
   refine WO.pD (v := rB false) (u := []) rfl rfl (fun _ => rfl) rfl rfl rfl rfl rfl (gw hx5) rfl rfl (congrArg (fun b => RV.d (.bool b)) hb6) rfl<|sN<|cF<|qK<|WC.region rfl rfl<|sV (rI (rW (s1 + (1 : Int))))<|sM rfl<|sN ?_
   cases oI h
   exact ⟨rfl, rfl⟩
  refine sN<|qS<|cF<|qX ?_
  cases oI h
  exact ⟨nofun, rfl, rfl⟩
 intro e R' B' he hq
 rcases o8 with y9 | r10
 ·obtain ⟨rfl, hI⟩ := hq
  refine qE<|gS rfl hI<|sV (rI (-1))<|sN<|qR ?_
  exact oI h▸qD
 obtain ⟨rfl, hf⟩ := hq
 cases oI h
 exact hf
theorem dQ {a0 : (List aA)} {r : Bool} (h : ca a0 = some r) : EvP prog aH ext 43 [.d (.lst (a0.map aA.pd)), .d (.raw (.func (.func 44) #[] #[]))] [] (rB r, []) := by
 refine Ev.body rfl Tryz.func43 rfl (by kernel_rfl)<|gS rfl rfl<|sU<|sN<|gS rfl rfl<|sM rfl<|sM rfl<|bE h fun x1 hx1 h => cD (ik hx1)<|sV (rB (decide (x1 ≥ (0 : Int))))<|sA rfl<|sN<|qR ?_
 exact oI h▸qD
theorem kI {a0 : aA} {r : Int} (h : fr a0 = some r) : EvP prog aH ext 46 [.d (aA.pd a0)] [] (rI r, []) := by
 refine Ev.body rfl Tryz.func46 rfl (by kernel_rfl)<|gS rfl rfl<|sB (.ptr 16 0) 16 (.var [rI a0.ak, rI a0.ae])<|sV (r0)<|sN<|gS rfl rfl<|sV (.ptr 16 0)<|sL rfl<|sA rfl<|sN<|qR ?_
 exact oI h▸qD
theorem cmp_Less_int_ev {a0 : Int} {a1 : Int} {r : Bool} (h : jV a0 a1 = some r) : EvP prog aH ext 145 [rI a0, rI a1] [] (rB r, []) := by
 refine Ev.body rfl Tryz.func145 rfl (by kernel_rfl)<|gS rfl rfl<|sU<|sN<|gS rfl rfl<|sM rfl<|bE h fun x1 hx1 h => pb h (fun hb2 h => ?_) (fun hb2 h => ?_)
 ·refine WO.pD (v := rB true) (u := []) rfl rfl (fun _ => rfl) rfl rfl rfl rfl rfl (eW hx1) rfl rfl (congrArg (fun b => RV.d (.bool b)) hb2) rfl<|sM rfl<|sM rfl<|bE h fun x3 hx3 h => cD (eW hx3)<|sV (rB (!x3))<|sF h (fun h => ?_) fun h => ?_
  ·refine sM rfl<|k3<|sT<|sA rfl<|sN<|qR ?_
   exact oI h▸qD
  refine sM rfl<|sM rfl<|sM rfl<|sV (rB (decide (a0 < a1)))<|sV (rB (decide (a0 < a1)))<|sA rfl<|sN<|qR ?_
  exact oI h▸qD
 refine WO.pD (v := rB false) (u := []) rfl rfl (fun _ => rfl) rfl rfl rfl rfl rfl (eW hx1) rfl rfl (congrArg (fun b => RV.d (.bool b)) hb2) rfl<|sM rfl<|k3<|sU<|sM rfl<|sM rfl<|sM rfl<|sV (rB (decide (a0 < a1)))<|sV (rB (decide (a0 < a1)))<|sA rfl<|sN<|qR ?_
 exact oI h▸qD
theorem hJ {a1 : Int} {a2 : Int} {d0 : (List Int)} {r : (List Int)} (h : cf a1 a2 d0 = some r) : EvP prog aH ext 139 [.ref 0 0, rI a1, rI a2] [.arr 0 3 (d0.map (PD.int .i64))] (.tup [], [.arr 0 3 (r.map (PD.int .i64))]) := by
 refine Ev.body rfl Tryz.func139 rfl (by kernel_rfl)<|gS rfl rfl<|sM rfl<|sV (rI (rW (a1 + (1 : Int))))<|sA rfl<|sN<|bE h fun o35 ho35 h => ?_
 cases oI h
 refine WC.block (WC.loop (WL.yb ho35 (fun s R' B' => jX prog 1 (A R' B') (aH.at_ 139 1 1) = some (A [(0, .ref 0 0), (1, rI a1), (2, rI a2), (6, rI s.1)] [(0, .arr 0 3 (s.2.map (PD.int .i64)))])) rfl ?_))
 rintro ⟨s1, s2⟩ R' B' q3 hI h
 refine qS<|gS rfl hI<|sM rfl<|sM rfl<|sF h (fun h => ?_) fun h => ?_
 ·refine sN<|cT<|qK<|qS<|qB<|gS rfl rfl<|sM rfl<|sA rfl<|sN<|bE h fun o32 ho32 h => WC.block (WC.loop (WL.oL ho32 (fun s R' B' => jX prog 1 (A R' B') (aH.at_ 139 1 4) = some (A [(0, .ref 0 0), (1, rI a1), (2, rI a2), (6, rI s1), (7, rI s.1)] [(0, .arr 0 3 (s.2.map (PD.int .i64)))])) (fun o e R' B' => e = .exit 2 ∧ jX prog 1 (A R' B') (aH.at_ 139 1 2) = some (A [(0, .ref 0 0), (1, rI a1), (2, rI a2), (6, rI o.1)] [(0, .arr 0 3 (o.2.map (PD.int .i64)))])) rfl ?_ ?_))
  ·rintro ⟨s5, s6⟩ R' B' q9 hI h
   refine qS<|WC.cI hI rfl<|sM rfl<|sM rfl<|sF h (fun h => ?_) fun h => ?_
   ·refine sM rfl<|sM rfl<|sM rfl<|bE h fun x12 hx12 h => WO.pX hx12 rfl rfl rfl rfl rfl rfl rfl rfl<|bE h fun x13 hx13 h => WO.pN hx13 rfl rfl rfl rfl rfl rfl<|sM rfl<|sM rfl<|sV (rI (rW (s5 - (1 : Int))))<|bE h fun x15 hx15 h => WO.pX hx15 rfl rfl rfl rfl rfl rfl rfl rfl<|bE h fun x16 hx16 h => WO.pN hx16 rfl rfl rfl rfl rfl rfl<|bE h fun x17 hx17 h => ?_
    refine cD (cmp_Less_int_ev hx17)<|sF h (fun h => ?_) fun h => ?_
    ·refine sN<|sO<|cT<|qK<|qS<|qB<|WC.pC rfl rfl<|sM rfl<|sM rfl<|sM rfl<|sM rfl<|sV (rI (rW (s5 - (1 : Int))))<|sM rfl<|sM rfl<|sV (rI (rW (s5 - (1 : Int))))<|bE h fun x20 hx20 h => ?_
     refine WO.pX hx20 rfl rfl rfl rfl rfl rfl rfl rfl<|bE h fun x21 hx21 h => WO.pN hx21 rfl rfl rfl rfl rfl rfl<|sM rfl<|sM rfl<|bE h fun x23 hx23 h => WO.pX hx23 rfl rfl rfl rfl rfl rfl rfl rfl<|bE h fun x24 hx24 h => WO.pN hx24 rfl rfl rfl rfl rfl rfl<|bE h fun x26 hx26 h => WO.pX hx26 rfl rfl rfl rfl rfl rfl rfl rfl<|bE h fun x27 hx27 h => WO.rZ (g := (PD.int .i64)) (sz := 1) (p := .int .i64 x21) hx27 (fun _ => rfl) (fun _ => rfl) rfl rfl rfl rfl rfl rfl rfl rfl rfl<|bE h fun x29 hx29 h => WO.pX hx29 rfl rfl rfl rfl rfl rfl rfl rfl ?_
     refine bE h fun x30 hx30 h => WO.rZ (g := (PD.int .i64)) (sz := 1) (p := .int .i64 x24) hx30 (fun _ => rfl) (fun _ => rfl) rfl rfl rfl rfl rfl rfl rfl rfl rfl ?_
     refine sN<|sO<|WC.region rfl rfl<|sM rfl<|sV (rI (rW (s5 - (1 : Int))))<|sA rfl<|sN ?_
     cases oI h
     exact ⟨rfl, rfl⟩
    refine sN<|sO<|cF<|qX ?_
    cases oI h
    exact ⟨nofun, rfl, rfl⟩
   refine sM rfl<|k3<|k3<|k3<|sK<|sU ?_
   refine sN<|sO<|cF<|qX ?_
   cases oI h
   exact ⟨nofun, rfl, rfl⟩
  intro e R' B' he hq
  obtain ⟨rfl, hI⟩ := hq
  refine qE<|WC.region hI rfl<|sM rfl<|sV (rI (rW (o32.1 + (1 : Int))))<|sA rfl<|sN ?_
  cases oI h
  exact ⟨rfl, rfl⟩
 refine sN<|cF<|qX<|uh h (fun z33 hkz33 hz => ?_)
 obtain rfl := Option.some.inj hz
 refine ⟨(fun he => by cases he), fun hz2 => ?_⟩
 subst hz2
 have h := hkz33
 refine qE ?_
 exact oI h▸qD
theorem jw : ∀ (nfu : Nat) {a1 : Int} {a2 : Int} {a3 : Int} {d0 : (List Int)} {r : (List Int)} (_ : gd nfu a1 a2 a3 d0 = some r), EvP prog aH ext 107 [.ref 0 0, rI a1, rI a2, rI a3] [.arr 0 3 (d0.map (PD.int .i64))] (.tup [], [.arr 0 3 (r.map (PD.int .i64))])
  | 0, _, _, _, _,  _, h => by cases h
  | nfu + 1, a1, a2, a3, d0,  r, h => by
   refine Ev.body rfl Tryz.func107 rfl (by kernel_rfl)<|gS rfl rfl<|sT<|sN<|gS rfl rfl<|sT<|sN<|bE h fun o6 ho6 h => WC.block (WC.loop (WL.oL ho6 (fun s R' B' => jX prog 1 (A R' B') (aH.at_ 107 1 2) = some (A [(0, .ref 0 0), (1, rI a1), (2, rI a2), (3, rI a3), (8, rB true), (9, rB true)] [(0, .arr 0 3 (d0.map (PD.int .i64)))])) (fun o e R' B' => e = .ret ∧ finish prog (aH.own 107) Tryz.f107 1 (A R' B') = some (.tup [], [.arr 0 3 (o.map (PD.int .i64))])) rfl ?_ ?_))
   ·rintro ⟨⟩ R' B' q1 hI h
    refine qB<|gS rfl hI<|sM rfl<|sM rfl<|sV (rI (rW (a2 - a1)))<|sA rfl<|sN<|qS<|gS rfl rfl<|sM rfl<|sF h (fun h => ?_) fun h => ?_
    ·refine sN<|cT<|gS rfl rfl<|sM rfl<|sM rfl<|sM rfl<|bE h fun x3 hx3 h => cR (.tup []) [(0, .arr 0 3 (x3.map (PD.int .i64)))] (hJ hx3)<|sN<|qR ?_
     cases oI h
     exact ⟨nofun, rfl, rfl⟩
    refine sN<|cF<|qK<|qS<|gS rfl rfl<|sM rfl<|sF h (fun h => ?_) fun h => ?_
    ·refine sN<|cT<|gS rfl rfl<|sM rfl<|sM rfl<|sM rfl ?_
     cases h
    refine sN<|cF<|qK<|qS<|gS rfl rfl<|sM rfl<|sU<|sN<|cF<|qK<|gS rfl rfl<|sM rfl<|sM rfl<|sM rfl ?_
    cases h
   intro e R' B' he hq
   obtain ⟨rfl, hf⟩ := hq
   cases oI h
   exact hf
theorem jL {a1 : Int} {a2 : Int} {a3 : Int} {d0 : (List Int)} {r : (List Int)} (h : ep a1 a2 a3 d0 = some r) : EvP prog aH ext 107 [.ref 0 0, rI a1, rI a2, rI a3] [.arr 0 3 (d0.map (PD.int .i64))] (.tup [], [.arr 0 3 (r.map (PD.int .i64))]) :=
  let ⟨n, hn⟩ := A4 h; jw n hn
theorem kD {d0 : (List Int)} {r : (List Int)} (h : fE d0 = some r) : EvP prog aH ext 76 [.ref 0 0] [.arr 0 3 (d0.map (PD.int .i64))] (.tup [], [.arr 0 3 (r.map (PD.int .i64))]) := by
 refine Ev.body rfl Tryz.func76 rfl (by kernel_rfl)<|gS rfl rfl<|sM rfl<|WO.uB rfl rfl rfl rfl rfl rfl rfl rfl rfl<|sA rfl<|sN<|WC.region rfl rfl<|sM rfl<|sM rfl<|sM rfl<|sV (.d (.int .u64 (IntKind.wrap .u64 (d0.length : Int))))<|bE h fun x1 hx1 h => cD (mj hx1)<|bE h fun x2 hx2 h => cR (.tup []) [(0, .arr 0 3 (x2.map (PD.int .i64)))] (jL hx2) ?_
 refine sN ?_
 exact oI h▸qD
theorem k7 {a0 : (List aA)} {r : Int} (h : ef a0 = some r) : EvP prog aH ext 45 [.d (.lst (a0.map aA.pd)), .d (.raw (.func (.func 46) #[] #[]))] [] (rI r, []) := by
 refine Ev.body rfl Tryz.func45 rfl (by kernel_rfl)<|gS rfl rfl<|sV (r0)<|sN<|gS rfl rfl<|sV .jY<|sN<|qS<|gS rfl rfl<|sM rfl<|sE (rI (a0.length : Int)) (oD _ _)<|sV (r0)<|sN<|bE h fun o10 ho10 h => WC.block (WC.loop (WL.oL ho10 (fun s R' B' => jX prog 0 (A R' B') (aH.at_ 45 0 3) = some (A [(1, .d (.raw (.func (.func 46) #[] #[]))), (5, .ref 304 0), (8, .d (.lst (a0.map aA.pd))), (9, rI (a0.length : Int)), (10, rI s.1)] [(304, .arr 0 3 (s.2.map (PD.int .i64)))])) (fun o e R' B' => e = .exit 0 ∧ jX prog 0 (A R' B') (aH.at_ 45 0 7) = some (A [(5, .ref 304 0)] [(304, .arr 0 3 (o.map (PD.int .i64)))])) rfl ?_ ?_))
 ·rintro ⟨s1, s2⟩ R' B' q4 hI h
  refine gS rfl hI<|sF h (fun h => ?_) fun h => ?_
  ·refine sN<|qS<|cT<|qK<|qS<|qB<|gS rfl rfl<|bE h fun x6 hx6 h => eG hx6 rfl<|sV (.d (aA.pd x6))<|sB (.ptr 112 0) 112 (.var [r0, r0])<|sS 112 (.var [rI x6.ak, rI x6.ae])<|sN<|WC.region rfl rfl<|sM rfl ?_
   refine sM rfl<|sV (.d (aA.pd x6))<|bE h fun x7 hx7 h => cD (kI hx7)<|sV (.d (.lst ([x7].map (PD.int .i64))))<|bE h fun x8 hx8 h => aR hx8 (fun _ => rfl) rfl<|sA rfl<|sN<|WC.region rfl rfl<|sV (rI (rW (s1 + (1 : Int))))<|sM rfl<|sN ?_
   cases oI h
   exact ⟨rfl, rfl⟩
  refine sN<|qS<|cF<|qX ?_
  cases oI h
  exact ⟨nofun, rfl, rfl⟩
 intro e R' B' he hq
 obtain ⟨rfl, hI⟩ := hq
 refine qE<|gS rfl hI<|sM rfl<|bE h fun x11 hx11 h => cR (.tup []) [(304, .arr 0 3 (x11.map (PD.int .i64)))] (kD hx11)<|sN<|gS rfl rfl<|sM rfl<|sM rfl<|WO.uB rfl rfl rfl rfl rfl rfl rfl rfl rfl<|sV (rI (rW ((x11.length : Int) - (1 : Int))))<|bE h fun x12 hx12 h => WO.sP hx12 rfl rfl rfl rfl rfl rfl<|bE h fun x14 hx14 h => WO.pX hx14 rfl rfl rfl rfl rfl rfl rfl rfl ?_
 refine bE h fun x15 hx15 h => WO.pN hx15 rfl rfl rfl rfl rfl rfl<|sA rfl<|sN<|qR ?_
 exact oI h▸qD
theorem kJ {a0 : aA} {r : Int} (h : fu a0 = some r) : EvP prog aH ext 47 [.d (aA.pd a0)] [] (rI r, []) := by
 refine Ev.body rfl Tryz.func47 rfl (by kernel_rfl)<|gS rfl rfl<|sB (.ptr 16 0) 16 (.var [rI a0.ak, rI a0.ae])<|sV (r0)<|sN<|gS rfl rfl<|sV (.ptr 16 1)<|sL rfl<|sA rfl<|sN<|qR ?_
 exact oI h▸qD
theorem k8 {a0 : (List aA)} {r : Int} (h : eh a0 = some r) : EvP prog aH ext 45 [.d (.lst (a0.map aA.pd)), .d (.raw (.func (.func 47) #[] #[]))] [] (rI r, []) := by
 refine Ev.body rfl Tryz.func45 rfl (by kernel_rfl)<|gS rfl rfl<|sV (r0)<|sN<|gS rfl rfl<|sV .jY<|sN<|qS<|gS rfl rfl<|sM rfl<|sE (rI (a0.length : Int)) (oD _ _)<|sV (r0)<|sN<|bE h fun o10 ho10 h => WC.block (WC.loop (WL.oL ho10 (fun s R' B' => jX prog 0 (A R' B') (aH.at_ 45 0 3) = some (A [(1, .d (.raw (.func (.func 47) #[] #[]))), (5, .ref 304 0), (8, .d (.lst (a0.map aA.pd))), (9, rI (a0.length : Int)), (10, rI s.1)] [(304, .arr 0 3 (s.2.map (PD.int .i64)))])) (fun o e R' B' => e = .exit 0 ∧ jX prog 0 (A R' B') (aH.at_ 45 0 7) = some (A [(5, .ref 304 0)] [(304, .arr 0 3 (o.map (PD.int .i64)))])) rfl ?_ ?_))
 ·rintro ⟨s1, s2⟩ R' B' q4 hI h
  refine gS rfl hI<|sF h (fun h => ?_) fun h => ?_
  ·refine sN<|qS<|cT<|qK<|qS<|qB<|gS rfl rfl<|bE h fun x6 hx6 h => eG hx6 rfl<|sV (.d (aA.pd x6))<|sB (.ptr 112 0) 112 (.var [r0, r0])<|sS 112 (.var [rI x6.ak, rI x6.ae])<|sN<|WC.region rfl rfl<|sM rfl ?_
   refine sM rfl<|sV (.d (aA.pd x6))<|bE h fun x7 hx7 h => cD (kJ hx7)<|sV (.d (.lst ([x7].map (PD.int .i64))))<|bE h fun x8 hx8 h => aR hx8 (fun _ => rfl) rfl<|sA rfl<|sN<|WC.region rfl rfl<|sV (rI (rW (s1 + (1 : Int))))<|sM rfl<|sN ?_
   cases oI h
   exact ⟨rfl, rfl⟩
  refine sN<|qS<|cF<|qX ?_
  cases oI h
  exact ⟨nofun, rfl, rfl⟩
 intro e R' B' he hq
 obtain ⟨rfl, hI⟩ := hq
 refine qE<|gS rfl hI<|sM rfl<|bE h fun x11 hx11 h => cR (.tup []) [(304, .arr 0 3 (x11.map (PD.int .i64)))] (kD hx11)<|sN<|gS rfl rfl<|sM rfl<|sM rfl<|WO.uB rfl rfl rfl rfl rfl rfl rfl rfl rfl<|sV (rI (rW ((x11.length : Int) - (1 : Int))))<|bE h fun x12 hx12 h => WO.sP hx12 rfl rfl rfl rfl rfl rfl<|bE h fun x14 hx14 h => WO.pX hx14 rfl rfl rfl rfl rfl rfl rfl rfl ?_
 refine bE h fun x15 hx15 h => WO.pN hx15 rfl rfl rfl rfl rfl rfl<|sA rfl<|sN<|qR ?_
 exact oI h▸qD
theorem mE {a0 : (List aA)} {r : aA × Int} (h : eC a0 = some r) : EvP prog aH ext 28 [.d (.lst (a0.map aA.pd))] [] (.tup [.d (aA.pd r.1), rI r.2], []) := by
 refine Ev.body rfl Tryz.func28 rfl (by kernel_rfl)<|gS rfl rfl<|sB (.ptr 32 0) 32 (.var [r0, r0])<|sV (r0)<|sN<|qS<|gS rfl rfl<|sM rfl<|sE (rI (a0.length : Int)) (oD _ _)<|sF h (fun h => ?_) fun h => ?_
 ·refine sN<|cT<|gS rfl rfl<|sV (.d (aA.pd (aA.mk 0 0)))<|sS 32 (.var [r0, r0])<|sV (rI 24)<|sN<|qR ?_
  exact oI h▸qD
 refine sN<|cF<|qK<|qS<|gS rfl rfl<|sM rfl<|bE h fun x2 hx2 h => pb h (fun hb3 h => ?_) (fun hb3 h => ?_)
 ·refine WO.pD (v := rB true) (u := []) rfl rfl (fun _ => rfl) rfl rfl rfl rfl rfl (dQ hx2) rfl rfl (congrArg (fun b => RV.d (.bool b)) hb3) rfl<|sN<|cT<|gS rfl rfl<|sV (.d (aA.pd (aA.mk 0 0)))<|sS 32 (.var [r0, r0])<|sV (rI 1)<|sN<|qR ?_
  exact oI h▸qD
 refine WO.pD (v := rB false) (u := []) rfl rfl (fun _ => rfl) rfl rfl rfl rfl rfl (dQ hx2) rfl rfl (congrArg (fun b => RV.d (.bool b)) hb3) rfl<|sN<|cF<|qK<|gS rfl rfl<|sM rfl<|bE h fun x4 hx4 h => cD (k7 hx4)<|sM rfl<|bE h fun x5 hx5 h => cD (k8 hx5)<|sV (.d (aA.pd (aA.mk x4 x5)))<|sS 32 (.var [rI x4, rI x5])<|sV (r0)<|sN ?_
 refine qR ?_
 exact oI h▸qD
theorem cW {a0 : aG} {a1 : aD} {a2 : (List ap)} {r : aP × Int} (h : bR a0 a1 a2 = some r) : EvP prog aH ext 11 [.d (aG.pd a0), .d (aD.pd a1), .d (.lst (a2.map ap.pd))] [] (.tup [.d (aP.pd r.1), rI r.2], []) := by
 refine Ev.body rfl Tryz.func11 rfl (by kernel_rfl)<|gS rfl rfl<|sB (.ptr 48 0) 48 (.var (aG.rc a0))<|sB (.ptr 64 0) 64 (.var [.d (.lst (a1.aQ.map au.pd))])<|sB (.ptr 96 0) 96 (.var zZ0)<|sV (r0)<|sN<|gS rfl rfl<|sV (.d (aG.pd a0))<|sV (.d (aD.pd a1))<|sM rfl<|bE h fun x1 hx1 h => cR (.tup [.d (a7.pd x1.1), rI x1.2]) [] (nT hx1)<|sM rfl<|sV (.d (a7.pd x1.1)) ?_
 refine sV (rI x1.2)<|sB (.ptr 128 0) 128 (.var [.jY, .jY, .jY])<|sS 128 (.var [.d (.lst (x1.1.cg.map ap.pd)), .d (.lst (x1.1.b9.map av.pd)), .d (.lst (x1.1.ew.map al.pd))])<|sA rfl<|sN<|qS<|gS rfl rfl<|sM rfl<|sF h (fun h => ?_) fun h => ?_
 ·refine sN<|cT<|gS rfl rfl<|sG (.agg zZ0)<|sM rfl<|sH 96 (.var zZ0)<|sA rfl<|sN<|qR ?_
  cases oI h
  exact qG
 refine sN<|cF<|qK<|gS rfl rfl<|sV (.d (.agg [.lst (x1.1.cg.map ap.pd), .lst (x1.1.b9.map av.pd), .lst (x1.1.ew.map al.pd)]))<|sV (.d (aG.pd a0))<|bE h fun x3 hx3 h => cR (.tup [.d (aw.pd x3.1), rI x3.2]) [] (nn hx3)<|sM rfl<|sV (.d (aw.pd x3.1))<|sV (rI x3.2)<|sB (.ptr 160 0) 160 (.var [r0, r0, r0, r0, r0, r0, r0, .jY, .jY, .jY, r0])<|sH 160 (.var (aw.rc x3.1))<|sA rfl<|sN ?_
 refine qS<|gS rfl rfl<|sM rfl<|sF h (fun h => ?_) fun h => ?_
 ·refine sN<|cT<|gS rfl rfl<|sG (.agg zZ0)<|sM rfl<|sH 96 (.var zZ0)<|sA rfl<|sN<|qR ?_
  cases oI h
  exact qG
 refine sN<|cF<|qK<|gS rfl rfl<|sV (.d (.agg [.int .i64 x3.1.ac.ak.fX, .int .i64 x3.1.ac.ak.fY, .int .i64 x3.1.ac.ak.fZ, .int .i64 x3.1.ac.ae.fX, .int .i64 x3.1.ac.ae.fY, .int .i64 x3.1.ac.ae.fZ, .int .i64 x3.1.az.aT, .lst (x3.1.az.ak.map (PD.int .i64)), .lst (x3.1.az.ae.map (PD.int .i64)), .lst (x3.1.aY.map av.pd), .int .i64 x3.1.bG]))<|sV (.ptr 48 19)<|sL rfl<|bE h fun x5 hx5 h => cR (.tup [.d (aF.pd x5.1), rI x5.2]) [] (locate_Locate_ev hx5)<|sM rfl<|sV (.d (aF.pd x5.1))<|sV (rI x5.2)<|sB (.ptr 176 0) 176 (.var zZ1)<|sH 176 (.var (aF.rc x5.1))<|sA rfl ?_
 refine sN<|qS<|gS rfl rfl<|sM rfl<|sF h (fun h => ?_) fun h => ?_
 ·refine sN<|cT<|gS rfl rfl<|sG (.agg zZ0)<|sM rfl<|sH 96 (.var zZ0)<|sA rfl<|sN<|qR ?_
  cases oI h
  exact qG
 refine sN<|cF<|qK<|gS rfl rfl<|sV (.ptr 128 0)<|sL rfl<|sV (.d (aF.pd x5.1))<|sG (.d (.agg [.lst (x1.1.cg.map ap.pd), .int .i64 x5.1.aC.fX, .int .i64 x5.1.aC.fY, .int .i64 x5.1.aC.fZ, .int .i64 x5.1.a8, .int .i64 x5.1.aS, .int .i64 x5.1.bc, .int .i64 x5.1.ar.ak.fX, .int .i64 x5.1.ar.ak.fY, .int .i64 x5.1.ar.ak.fZ, .int .i64 x5.1.ar.ae.fX, .int .i64 x5.1.ar.ae.fY, .int .i64 x5.1.ar.ae.fZ, .int .i64 0, .int .i64 0, .int .i64 0]))<|sB (.ptr 192 0) 192 (.var zZ0)<|sH 192 (.var [.d (.lst (x1.1.cg.map ap.pd)), rI x5.1.aC.fX, rI x5.1.aC.fY, rI x5.1.aC.fZ, rI x5.1.a8, rI x5.1.aS, rI x5.1.bc, rI x5.1.ar.ak.fX, rI x5.1.ar.ak.fY, rI x5.1.ar.ak.fZ, rI x5.1.ar.ae.fX, rI x5.1.ar.ae.fY, rI x5.1.ar.ae.fZ, r0, r0, r0])<|sN<|qS<|gS rfl rfl<|sV (.d (.agg [.lst (x1.1.cg.map ap.pd), .lst (x1.1.b9.map av.pd), .lst (x1.1.ew.map al.pd)]))<|sV (.d (aG.pd a0)) ?_
 refine sV (.ptr 176 6)<|sV (.d (aj.pd x5.1.ar))<|bE h fun x7 hx7 h => cD (mf hx7)<|sA rfl<|sN<|gS rfl rfl<|sM rfl<|sE (rI (x7.length : Int)) (oD _ _)<|sF h (fun h => ?_) fun h => ?_
 ·refine sN<|cT<|gS rfl rfl<|sM rfl<|sE (rI (x7.length : Int)) (oD _ _)<|sV (.ptr 192 15)<|sS 192 (.var [.d (.lst (x1.1.cg.map ap.pd)), rI x5.1.aC.fX, rI x5.1.aC.fY, rI x5.1.aC.fZ, rI x5.1.a8, rI x5.1.aS, rI x5.1.bc, rI x5.1.ar.ak.fX, rI x5.1.ar.ak.fY, rI x5.1.ar.ak.fZ, rI x5.1.ar.ae.fX, rI x5.1.ar.ae.fY, rI x5.1.ar.ae.fZ, r0, r0, rI (x7.length : Int)])<|sN<|gS rfl rfl<|sM rfl<|bE h fun x9 hx9 h => cR (.tup [.d (aA.pd x9.1), rI x9.2]) [] (mE hx9)<|sM rfl<|sV (.d (aA.pd x9.1))<|sV (rI x9.2) ?_
  refine sV (.ptr 192 13)<|sS 192 (.var [.d (.lst (x1.1.cg.map ap.pd)), rI x5.1.aC.fX, rI x5.1.aC.fY, rI x5.1.aC.fZ, rI x5.1.a8, rI x5.1.aS, rI x5.1.bc, rI x5.1.ar.ak.fX, rI x5.1.ar.ak.fY, rI x5.1.ar.ak.fZ, rI x5.1.ar.ae.fX, rI x5.1.ar.ae.fY, rI x5.1.ar.ae.fZ, rI x9.1.ak, rI x9.1.ae, rI (x7.length : Int)])<|sA rfl<|sN<|gS rfl rfl<|sM rfl<|sF h (fun h => ?_) fun h => ?_
  ·refine sN<|cT<|gS rfl rfl<|sG (.agg zZ0)<|sM rfl<|sH 96 (.var zZ0)<|sA rfl<|sN<|qR ?_
   cases oI h
   exact qG
  refine sN<|cF<|qK<|gS rfl rfl<|sV (.d (.agg [.lst (x1.1.cg.map ap.pd), .int .i64 x5.1.aC.fX, .int .i64 x5.1.aC.fY, .int .i64 x5.1.aC.fZ, .int .i64 x5.1.a8, .int .i64 x5.1.aS, .int .i64 x5.1.bc, .int .i64 x5.1.ar.ak.fX, .int .i64 x5.1.ar.ak.fY, .int .i64 x5.1.ar.ak.fZ, .int .i64 x5.1.ar.ae.fX, .int .i64 x5.1.ar.ae.fY, .int .i64 x5.1.ar.ae.fZ, .int .i64 x9.1.ak, .int .i64 x9.1.ae, .int .i64 (x7.length : Int)]))<|sH 96 (.var [.d (.lst (x1.1.cg.map ap.pd)), rI x5.1.aC.fX, rI x5.1.aC.fY, rI x5.1.aC.fZ, rI x5.1.a8, rI x5.1.aS, rI x5.1.bc, rI x5.1.ar.ak.fX, rI x5.1.ar.ak.fY, rI x5.1.ar.ak.fZ, rI x5.1.ar.ae.fX, rI x5.1.ar.ae.fY, rI x5.1.ar.ae.fZ, rI x9.1.ak, rI x9.1.ae, rI (x7.length : Int)])<|sV (r0)<|sN<|qR ?_
  cases oI h
  exact qG
 refine sN<|cF<|qK<|gS rfl rfl<|sV (.d (.agg [.lst (x1.1.cg.map ap.pd), .int .i64 x5.1.aC.fX, .int .i64 x5.1.aC.fY, .int .i64 x5.1.aC.fZ, .int .i64 x5.1.a8, .int .i64 x5.1.aS, .int .i64 x5.1.bc, .int .i64 x5.1.ar.ak.fX, .int .i64 x5.1.ar.ak.fY, .int .i64 x5.1.ar.ak.fZ, .int .i64 x5.1.ar.ae.fX, .int .i64 x5.1.ar.ae.fY, .int .i64 x5.1.ar.ae.fZ, .int .i64 0, .int .i64 0, .int .i64 0]))<|sH 96 (.var [.d (.lst (x1.1.cg.map ap.pd)), rI x5.1.aC.fX, rI x5.1.aC.fY, rI x5.1.aC.fZ, rI x5.1.a8, rI x5.1.aS, rI x5.1.bc, rI x5.1.ar.ak.fX, rI x5.1.ar.ak.fY, rI x5.1.ar.ak.fZ, rI x5.1.ar.ae.fX, rI x5.1.ar.ae.fY, rI x5.1.ar.ae.fZ, r0, r0, r0])<|sV (r0)<|sN<|qR ?_
 cases oI h
 exact qG
theorem kC {a0 : (List ap)} {a1 : (List ap)} {r : Bool} (h : gQ a0 a1 = some r) : EvP prog aH ext 29 [.d (.lst (a0.map ap.pd)), .d (.lst (a1.map ap.pd))] [] (rB r, []) := by
 refine Ev.body rfl Tryz.func29 rfl (by kernel_rfl)<|gS rfl rfl<|sU<|sN<|qS<|gS rfl rfl<|sM rfl<|sE (rI (a0.length : Int)) (oD _ _)<|sM rfl<|sE (rI (a1.length : Int)) (oD _ _)<|sF h (fun h => ?_) fun h => ?_
 ·refine sN<|cT<|gS rfl rfl<|sU<|sN<|qR ?_
  exact oI h▸qD
 refine sN<|cF<|qK<|qS<|gS rfl rfl<|sV (r0)<|sN<|bE h fun o9 ho9 h => WC.block (WC.loop (WL.oL ho9 (fun s R' B' => jX prog 0 (A R' B') (aH.at_ 29 0 4) = some (A [(0, .d (.lst (a0.map ap.pd))), (1, .d (.lst (a1.map ap.pd))), (5, rI s)] [])) (fun o e R' B' => match o with | .inl y => e = .exit 0 ∧ jX prog 0 (A R' B') (aH.at_ 29 0 8) = some (A [] []) | .inr r => e = .ret ∧ finish prog (aH.own 29) Tryz.f29 0 (A R' B') = some (rB r, [])) rfl ?_ ?_))
 ·rintro s2 R' B' q3 hI h
  refine qS<|gS rfl hI<|sM rfl<|sM rfl<|sE (rI (a0.length : Int)) (oD _ _)<|sF h (fun h => ?_) fun h => ?_
  ·refine sN<|cT<|qK<|qS<|qB<|WC.cI rfl rfl<|sM rfl<|sM rfl<|bE h fun x5 hx5 h => eG hx5 rfl<|sV (.d (ap.pd x5))<|sM rfl<|sM rfl<|bE h fun x6 hx6 h => eG hx6 rfl ?_
   refine sV (.d (ap.pd x6))<|pb h (fun hb7 h => ?_) (fun hb7 h => ?_)
   ·refine WO.uA (eqN_48 x5 x6) hb7 rfl rfl rfl rfl rfl ?_
    refine sN<|sO<|cT<|gS rfl rfl<|sU<|sN<|qR ?_
    cases oI h
    exact ⟨nofun, rfl, rfl⟩
   refine WO.uA (eqN_48 x5 x6) hb7 rfl rfl rfl rfl rfl ?_
   refine sN<|sO<|cF<|qK<|WC.region rfl rfl<|sM rfl<|sV (rI (rW (s2 + (1 : Int))))<|sA rfl<|sN ?_
   cases oI h
   exact ⟨rfl, rfl⟩
  refine sN<|cF<|qX ?_
  cases oI h
  exact ⟨nofun, rfl, rfl⟩
 intro e R' B' he hq
 rcases o9 with y10 | r11
 ·obtain ⟨rfl, hI⟩ := hq
  refine qE<|gS rfl hI<|sT<|sN<|qR ?_
  exact oI h▸qD
 obtain ⟨rfl, hf⟩ := hq
 cases oI h
 exact hf
theorem lc {a0 : aP} {a1 : aP} {r : Bool} (h : iY a0 a1 = some r) : EvP prog aH ext 12 [.d (aP.pd a0), .d (aP.pd a1)] [] (rB r, []) := by
 refine Ev.body rfl Tryz.func12 rfl (by kernel_rfl)<|gS rfl rfl<|sB (.ptr 32 0) 32 (.var (aP.rc a0))<|sB (.ptr 48 0) 48 (.var (aP.rc a1))<|sU<|sN<|gS rfl rfl<|sV (.ptr 32 0)<|sL rfl<|sV (.ptr 48 0)<|sL rfl<|bE h fun x1 hx1 h => pb h (fun hb2 h => ?_) (fun hb2 h => ?_)
 ·refine WO.pD (v := rB true) (u := []) rfl rfl (fun _ => rfl) rfl rfl rfl rfl rfl (kC hx1) rfl rfl (congrArg (fun b => RV.d (.bool b)) hb2) rfl<|sM rfl<|sV (.ptr 32 1)<|sV (.d (aF.pd a0.aq))<|sV (.ptr 48 1)<|sV (.d (aF.pd a1.aq))<|WO.bin (eqE_51 a0.aq a1.aq) rfl rfl rfl rfl rfl<|sF h (fun h => ?_) fun h => ?_
  ·refine sM rfl<|sV (.ptr 32 13)<|sV (.d (aA.pd a0.bL))<|sV (.ptr 48 13)<|sV (.d (aA.pd a1.bL))<|WO.bin (eqE_53 a0.bL a1.bL) rfl rfl rfl rfl rfl<|sF h (fun h => ?_) fun h => ?_
   ·refine sM rfl<|sV (.ptr 32 15)<|sL rfl<|sV (.ptr 48 15)<|sL rfl<|sV (rB (a0.iq == a1.iq))<|sV (rB (a0.iq == a1.iq))<|sA rfl<|sN<|qR ?_
    cases oI h
    exact qG
   refine sM rfl<|k3<|sK<|sK<|sU<|sA rfl<|sN<|qR ?_
   cases oI h
   exact qG
  refine sM rfl<|k3<|sK<|sK<|sU<|sM rfl<|k3<|sK<|sK<|sU<|sA rfl ?_
  refine sN<|qR ?_
  cases oI h
  exact qG
 refine WO.pD (v := rB false) (u := []) rfl rfl (fun _ => rfl) rfl rfl rfl rfl rfl (kC hx1) rfl rfl (congrArg (fun b => RV.d (.bool b)) hb2) rfl<|sM rfl<|k3<|sK<|sK<|sU<|sM rfl<|k3<|sK<|sK<|sU ?_
 refine sM rfl<|k3<|sK<|sK<|sU<|sA rfl<|sN<|qR ?_
 cases oI h
 exact qG
theorem kw  {r : Bool} (h : ia = some r) : EvP prog aH ext 13 [] [] (rB r, []) := by
 refine Ev.body rfl Tryz.func13 rfl (by kernel_rfl)<|gS rfl rfl<|sU<|sN<|gS rfl rfl<|bE h fun x1 hx1 h => cR (.ptr 144 0) [(144, .var [.d (.lst (x1.fL.map (PD.int .i64))), rI x1.fAt])] (mA hx1)<|sA rfl<|sN<|gS rfl rfl<|sM rfl<|bE h fun x2 hx2 h => cR (.d (aG.pd x2.1)) [(144, .var [.d (.lst (x2.2.fL.map (PD.int .i64))), rI x2.2.fAt])] (jA hx2)<|sM rfl<|bE h fun x3 hx3 h => ?_
 refine cR (.d (aD.pd x3.1)) [(144, .var [.d (.lst (x3.2.fL.map (PD.int .i64))), rI x3.2.fAt])] (lA hx3)<|sB (.ptr 32 0) 32 (.var [r0, r0, r0, r0, r0, r0, r0, .jY, .jY, r0, r0, r0, r0, r0, r0, .jY, .jY, r0, r0, r0])<|sB (.ptr 48 0) 48 (.var [.jY])<|sH 32 (.var (aG.rc x2.1))<|sS 48 (.var [.d (.lst (x3.1.aQ.map au.pd))])<|sN<|gS rfl rfl<|sV (.d (.agg [.int .i64 x2.1.ag.ac.ak.fX, .int .i64 x2.1.ag.ac.ak.fY, .int .i64 x2.1.ag.ac.ak.fZ, .int .i64 x2.1.ag.ac.ae.fX, .int .i64 x2.1.ag.ac.ae.fY, .int .i64 x2.1.ag.ac.ae.fZ, .int .i64 x2.1.ag.az.aT, .lst (x2.1.ag.az.ak.map (PD.int .i64)), .lst (x2.1.ag.az.ae.map (PD.int .i64)), .int .i64 x2.1.ag.bG, .int .i64 x2.1.ag.ba, .int .i64 x2.1.ag.gH, .int .i64 x2.1.ag.eP, .int .i64 x2.1.ag.eO, .int .i64 x2.1.bi.aZ.aT, .lst (x2.1.bi.aZ.ak.map (PD.int .i64)), .lst (x2.1.bi.aZ.ae.map (PD.int .i64)), .int .i64 x2.1.bi.bh, .int .i64 x2.1.bi.bg, .int .i64 x2.1.ba]))<|sV (.d (.agg [.lst (x3.1.aQ.map au.pd)]))<|bE h fun x4 hx4 h => cR (.tup [.d (aP.pd x4.1), rI x4.2]) [] (cW hx4)<|sM rfl<|sV (.d (aP.pd x4.1))<|sV (rI x4.2)<|sB (.ptr 64 0) 64 (.var zZ0) ?_
 refine sH 64 (.var (aP.rc x4.1))<|sA rfl<|sN<|gS rfl rfl<|bE h fun x5 hx5 h => cD (ku hx5)<|sG (.d (ap.pd (ap.mk x5 2500 2500 2500 10 0)))<|sB (.ptr 96 0) 96 (.var [rS [], rS [], rS [], rS [], r0, r0, r0, r0, r0])<|sH 96 (.var [rS x5.aU, rS x5.aL, rS x5.aq, rS x5.aX, rI 2500, rI 2500, rI 2500, rI 10, r0])<|sN<|gS rfl rfl<|sV (.d (.agg [.int .i64 x2.1.ag.ac.ak.fX, .int .i64 x2.1.ag.ac.ak.fY, .int .i64 x2.1.ag.ac.ak.fZ, .int .i64 x2.1.ag.ac.ae.fX, .int .i64 x2.1.ag.ac.ae.fY, .int .i64 x2.1.ag.ac.ae.fZ, .int .i64 x2.1.ag.az.aT, .lst (x2.1.ag.az.ak.map (PD.int .i64)), .lst (x2.1.ag.az.ae.map (PD.int .i64)), .int .i64 x2.1.ag.bG, .int .i64 x2.1.ag.ba, .int .i64 x2.1.ag.gH, .int .i64 x2.1.ag.eP, .int .i64 x2.1.ag.eO, .int .i64 x2.1.bi.aZ.aT, .lst (x2.1.bi.aZ.ak.map (PD.int .i64)), .lst (x2.1.bi.aZ.ae.map (PD.int .i64)), .int .i64 x2.1.bi.bh, .int .i64 x2.1.bi.bg, .int .i64 x2.1.ba]))<|sV (.d (.agg [.lst (x3.1.aQ.map au.pd)]))<|sV (.d (ap.pd (ap.mk x5 2500 2500 2500 10 0)))<|sG (.d (.lst ([(ap.mk x5 2500 2500 2500 10 0)].map ap.pd))) ?_
 refine bE h fun x6 hx6 h => cR (.tup [.d (aP.pd x6.1), rI x6.2]) [] (cW hx6)<|sM rfl<|sV (.d (aP.pd x6.1))<|sV (rI x6.2)<|sB (.ptr 112 0) 112 (.var zZ0)<|sH 112 (.var (aP.rc x6.1))<|sA rfl<|sN<|WC.cI rfl rfl<|sM rfl<|sF h (fun h => ?_) fun h => ?_
 ·refine sM rfl<|sM rfl<|sV (rB (x6.2 == (0 : Int)))<|sF h (fun h => ?_) fun h => ?_
  ·refine sM rfl<|sV (.ptr 112 0)<|sL rfl<|sE (rI (x6.1.fi.length : Int)) (oD _ _)<|sV (rB ((x6.1.fi.length : Int) == (1 : Int)))<|sF h (fun h => ?_) fun h => ?_
   ·refine sM rfl<|sV (.ptr 112 0)<|sL rfl<|bE h fun x10 hx10 h => eG hx10 rfl<|sV (.d (ap.pd x10))<|sV (.d (ap.pd (ap.mk x5 2500 2500 2500 10 0)))<|WO.bin (eqE_48 x10 (ap.mk x5 2500 2500 2500 10 0)) rfl rfl rfl rfl rfl<|sF h (fun h => ?_) fun h => ?_
    ·refine sM rfl<|sV (.ptr 112 1)<|sV (.ptr 112 5)<|sL rfl<|sV (rB (x6.1.aq.aS == (0 : Int)))<|sF h (fun h => ?_) fun h => ?_
     ·refine sM rfl<|sV (.d (.agg [.int .i64 x2.1.ag.ac.ak.fX, .int .i64 x2.1.ag.ac.ak.fY, .int .i64 x2.1.ag.ac.ak.fZ, .int .i64 x2.1.ag.ac.ae.fX, .int .i64 x2.1.ag.ac.ae.fY, .int .i64 x2.1.ag.ac.ae.fZ, .int .i64 x2.1.ag.az.aT, .lst (x2.1.ag.az.ak.map (PD.int .i64)), .lst (x2.1.ag.az.ae.map (PD.int .i64)), .int .i64 x2.1.ag.bG, .int .i64 x2.1.ag.ba, .int .i64 x2.1.ag.gH, .int .i64 x2.1.ag.eP, .int .i64 x2.1.ag.eO, .int .i64 x2.1.bi.aZ.aT, .lst (x2.1.bi.aZ.ak.map (PD.int .i64)), .lst (x2.1.bi.aZ.ae.map (PD.int .i64)), .int .i64 x2.1.bi.bh, .int .i64 x2.1.bi.bg, .int .i64 x2.1.ba]))<|bE h fun x13 hx13 h => cD (jx hx13)<|sV (rB (x13 == (0 : Int)))<|sV (rB (x13 == (0 : Int)))<|sA rfl ?_
      refine sN<|sO<|qR ?_
      cases oI h
      exact qG
     refine sM rfl<|k3<|sU<|sA rfl ?_
     refine sN<|sO<|qR ?_
     cases oI h
     exact qG
    refine sM rfl<|k3<|sK<|sU<|sM rfl<|k3<|sU<|sA rfl ?_
    refine sN<|sO<|qR ?_
    cases oI h
    exact qG
   refine sM rfl<|k3<|k3<|sU<|sM rfl<|k3<|sK<|sU<|sM rfl ?_
   refine k3<|sU<|sA rfl ?_
   refine sN<|sO<|qR ?_
   cases oI h
   exact qG
  refine sM rfl<|k3<|sK<|sU<|sM rfl<|k3<|k3<|sU<|sM rfl ?_
  refine k3<|sK<|sU<|sM rfl<|k3<|sU<|sA rfl ?_
  refine sN<|sO<|qR ?_
  cases oI h
  exact qG
 refine sM rfl<|sK<|sK<|sU<|sM rfl<|k3<|sK<|sU<|sM rfl<|k3<|sK ?_
 refine sK<|sK<|sU<|sM rfl<|k3<|sK<|sU<|sM rfl<|k3<|sU<|sA rfl ?_
 refine sN<|sO<|qR ?_
 cases oI h
 exact qG
theorem lL {a0 : (List Int)} {a1 : (List Int)} {r : Bool} (h : gA a0 a1 = some r) : EvP prog aH ext 3 [.d (.lst (a0.map (PD.int .i64))), .d (.lst (a1.map (PD.int .i64)))] [] (rB r, []) := by
 refine Ev.body rfl Tryz.func3 rfl (by kernel_rfl)<|gS rfl rfl<|sU<|sN<|gS rfl rfl<|sM rfl<|bE h fun x1 hx1 h => cR (.ptr 304 0) [(304, .var [.d (.lst (x1.fL.map (PD.int .i64))), rI x1.fAt])] (mA hx1)<|sA rfl<|sN<|gS rfl rfl<|sM rfl<|bE h fun x2 hx2 h => cR (.d (aG.pd x2.1)) [(304, .var [.d (.lst (x2.2.fL.map (PD.int .i64))), rI x2.2.fAt])] (jA hx2)<|sM rfl ?_
 refine bE h fun x3 hx3 h => cR (.d (aD.pd x3.1)) [(304, .var [.d (.lst (x3.2.fL.map (PD.int .i64))), rI x3.2.fAt])] (lA hx3)<|sB (.ptr 96 0) 96 (.var [r0, r0, r0, r0, r0, r0, r0, .jY, .jY, r0, r0, r0, r0, r0, r0, .jY, .jY, r0, r0, r0])<|sB (.ptr 112 0) 112 (.var [.jY])<|sH 96 (.var (aG.rc x2.1))<|sS 112 (.var [.d (.lst (x3.1.aQ.map au.pd))])<|sN<|gS rfl rfl<|sM rfl<|sV (.d (.agg [.int .i64 x2.1.ag.ac.ak.fX, .int .i64 x2.1.ag.ac.ak.fY, .int .i64 x2.1.ag.ac.ak.fZ, .int .i64 x2.1.ag.ac.ae.fX, .int .i64 x2.1.ag.ac.ae.fY, .int .i64 x2.1.ag.ac.ae.fZ, .int .i64 x2.1.ag.az.aT, .lst (x2.1.ag.az.ak.map (PD.int .i64)), .lst (x2.1.ag.az.ae.map (PD.int .i64)), .int .i64 x2.1.ag.bG, .int .i64 x2.1.ag.ba, .int .i64 x2.1.ag.gH, .int .i64 x2.1.ag.eP, .int .i64 x2.1.ag.eO, .int .i64 x2.1.bi.aZ.aT, .lst (x2.1.bi.aZ.ak.map (PD.int .i64)), .lst (x2.1.bi.aZ.ae.map (PD.int .i64)), .int .i64 x2.1.bi.bh, .int .i64 x2.1.bi.bg, .int .i64 x2.1.ba]))<|sV (.d (.agg [.lst (x3.1.aQ.map au.pd)]))<|bE h fun x4 hx4 h => cR (.d (.lst (x4.1.map ap.pd))) [(304, .var [.d (.lst (x4.2.fL.map (PD.int .i64))), rI x4.2.fAt])] (nW hx4)<|sA rfl<|sN ?_
 refine gS rfl rfl<|sB (.ref 448 0) 448 (.arr 0 48 (([] : List ap).map ap.pd))<|sM rfl<|bE h fun x5 hx5 h => aR hx5 (fun _ => rfl) rfl<|sA rfl<|sN<|qS<|gS rfl rfl<|sM rfl<|WO.uB rfl rfl rfl rfl rfl rfl rfl rfl rfl<|sV (r0)<|sN<|bE h fun o27 ho27 h => WC.block (WC.loop (WL.oL ho27 (fun s R' B' => jX prog 0 (A R' B') (aH.at_ 3 0 6) = some (A [(1, .d (.lst (a1.map (PD.int .i64)))), (5, .ptr 304 0), (6, .ptr 96 0), (7, .ptr 112 0), (8, .d (.lst (x4.1.map ap.pd))), (9, .ref 448 0), (32, rI (x5.length : Int)), (33, rI s.1)] [(96, .var (aG.rc x2.1)), (112, .var [.d (.lst (x3.1.aQ.map au.pd))]), (304, .var [.d (.lst (x4.2.fL.map (PD.int .i64))), rI x4.2.fAt]), (448, .arr 0 48 (s.2.map ap.pd))])) (fun o e R' B' => e = .exit 0 ∧ jX prog 0 (A R' B') (aH.at_ 3 0 12) = some (A [(5, .ptr 304 0), (6, .ptr 96 0), (7, .ptr 112 0), (8, .d (.lst (x4.1.map ap.pd))), (9, .ref 448 0)] [(96, .var (aG.rc x2.1)), (112, .var [.d (.lst (x3.1.aQ.map au.pd))]), (304, .var [.d (.lst (x4.2.fL.map (PD.int .i64))), rI x4.2.fAt]), (448, .arr 0 48 (o.map ap.pd))])) rfl ?_ ?_))
 ·rintro ⟨s6, s7⟩ R' B' q9 hI h
  refine gS rfl hI<|sF h (fun h => ?_) fun h => ?_
  ·refine sN<|qS<|cT<|qK<|qS<|qB<|gS rfl rfl<|sM rfl<|sA rfl<|sN<|gS rfl rfl<|sM rfl<|sM rfl<|sE (rI (a1.length : Int)) (oD _ _)<|sF h (fun h => ?_) fun h => ?_
   ·refine sN<|cT<|gS rfl rfl<|sM rfl<|sM rfl<|bE h fun x12 hx12 h => eG hx12 rfl<|sC rfl<|sM rfl<|WO.uB rfl rfl rfl rfl rfl rfl rfl rfl rfl<|bE h fun x13 hx13 h => cD (mz hx13)<|sA rfl<|sN<|WC.pC rfl rfl ?_
    refine sM rfl<|sM rfl<|sM rfl<|sM rfl<|sM rfl<|sM rfl<|bE h fun x15 hx15 h => WO.pX hx15 rfl rfl rfl rfl rfl rfl rfl rfl<|bE h fun x16 hx16 h => WO.pN hx16 rfl rfl rfl rfl rfl rfl<|sM rfl<|sM rfl<|bE h fun x18 hx18 h => WO.pX hx18 rfl rfl rfl rfl rfl rfl rfl rfl<|bE h fun x19 hx19 h => ?_
    refine WO.pN hx19 rfl rfl rfl rfl rfl rfl<|bE h fun x21 hx21 h => WO.pX hx21 rfl rfl rfl rfl rfl rfl rfl rfl<|bE h fun x22 hx22 h => WO.rZ (g := ap.pd) (sz := 9) (p := ap.pd x16) hx22 (by intro _; kernel_rfl) (by intro _; kernel_rfl) rfl rfl rfl rfl rfl rfl rfl rfl rfl<|bE h fun x24 hx24 h => WO.pX hx24 rfl rfl rfl rfl rfl rfl rfl rfl<|bE h fun x25 hx25 h => WO.rZ (g := ap.pd) (sz := 9) (p := ap.pd x19) hx25 (by intro _; kernel_rfl) (by intro _; kernel_rfl) rfl rfl rfl rfl rfl rfl rfl rfl rfl ?_
    refine sN<|sO<|WC.region rfl rfl<|sV (rI (rW (s6 + (1 : Int))))<|sM rfl<|sN ?_
    cases oI h
    exact ⟨rfl, rfl⟩
   refine sN<|cF<|qK<|WC.region rfl rfl<|sV (rI (rW (s6 + (1 : Int))))<|sM rfl<|sN ?_
   cases oI h
   exact ⟨rfl, rfl⟩
  refine sN<|qS<|cF<|qX ?_
  cases oI h
  exact ⟨nofun, rfl, rfl⟩
 intro e R' B' he hq
 obtain ⟨rfl, hI⟩ := hq
 refine qE<|WC.join (α := (List ap)) (fun x R' B' => jX prog 0 (A R' B') (aH.at_ 3 0 14) = some (A [(6, .ptr 96 0), (7, .ptr 112 0), (8, .d (.lst (x4.1.map ap.pd))), (9, .ref 448 0)] [(96, .var (aG.rc x2.1)), (112, .var [.d (.lst (x3.1.aQ.map au.pd))]), (448, .arr 0 48 (x.map ap.pd))])) (fun x => cJ x2 x3 x4 x = some r) ?_ ?_
 ·refine gS rfl hI<|sM rfl<|sE (rI (x4.1.length : Int)) (oD _ _)<|sF h (fun h => ?_) fun h => ?_
  ·refine sN<|cT<|WC.region rfl rfl<|sM rfl<|sM rfl<|sM rfl<|sM rfl<|sE (rI (x4.1.length : Int)) (oD _ _)<|bE h fun x45 hx45 h => cR (rI x45.1) [(304, .var [.d (.lst (x45.2.fL.map (PD.int .i64))), rI x45.2.fAt])] (bB hx45)<|bE h fun x46 hx46 h => eG hx46 rfl<|sV (.d (ap.pd x46))<|sG (.d (.lst ([x46].map ap.pd)))<|bE h fun x47 hx47 h => ?_
   exact aR hx47 (fun _ => rfl) rfl<|sA rfl<|sN<|⟨x47, rfl, h⟩
  exact sN<|cF<|qK<|⟨o27, rfl, h⟩
 rintro j28 R' B' hI h
 refine gS rfl hI<|sM rfl<|sV (.d (aI.pd (aI.mk [90, 90] [78, 79] [48, 48] [66, 72, 90])))<|sG (.d (ap.pd (ap.mk (aI.mk [90, 90] [78, 79] [48, 48] [66, 72, 90]) 1500 1500 1500 0 0)))<|sG (.d (.lst ([(ap.mk (aI.mk [90, 90] [78, 79] [48, 48] [66, 72, 90]) 1500 1500 1500 0 0)].map ap.pd)))<|bE h fun x29 hx29 h => aR hx29 (fun _ => rfl) rfl<|sA rfl<|sN<|gS rfl rfl<|sV (.d (.agg [.int .i64 x2.1.ag.ac.ak.fX, .int .i64 x2.1.ag.ac.ak.fY, .int .i64 x2.1.ag.ac.ak.fZ, .int .i64 x2.1.ag.ac.ae.fX, .int .i64 x2.1.ag.ac.ae.fY, .int .i64 x2.1.ag.ac.ae.fZ, .int .i64 x2.1.ag.az.aT, .lst (x2.1.ag.az.ak.map (PD.int .i64)), .lst (x2.1.ag.az.ae.map (PD.int .i64)), .int .i64 x2.1.ag.bG, .int .i64 x2.1.ag.ba, .int .i64 x2.1.ag.gH, .int .i64 x2.1.ag.eP, .int .i64 x2.1.ag.eO, .int .i64 x2.1.bi.aZ.aT, .lst (x2.1.bi.aZ.ak.map (PD.int .i64)), .lst (x2.1.bi.aZ.ae.map (PD.int .i64)), .int .i64 x2.1.bi.bh, .int .i64 x2.1.bi.bg, .int .i64 x2.1.ba]))<|sV (.d (.agg [.lst (x3.1.aQ.map au.pd)]))<|sM rfl<|bE h fun x30 hx30 h => cR (.tup [.d (aP.pd x30.1), rI x30.2]) [] (cW hx30) ?_
 refine sM rfl<|sV (.d (aP.pd x30.1))<|sV (rI x30.2)<|sB (.ptr 192 0) 192 (.var zZ0)<|sH 192 (.var (aP.rc x30.1))<|sA rfl<|sN<|gS rfl rfl<|sV (.d (.agg [.int .i64 x2.1.ag.ac.ak.fX, .int .i64 x2.1.ag.ac.ak.fY, .int .i64 x2.1.ag.ac.ak.fZ, .int .i64 x2.1.ag.ac.ae.fX, .int .i64 x2.1.ag.ac.ae.fY, .int .i64 x2.1.ag.ac.ae.fZ, .int .i64 x2.1.ag.az.aT, .lst (x2.1.ag.az.ak.map (PD.int .i64)), .lst (x2.1.ag.az.ae.map (PD.int .i64)), .int .i64 x2.1.ag.bG, .int .i64 x2.1.ag.ba, .int .i64 x2.1.ag.gH, .int .i64 x2.1.ag.eP, .int .i64 x2.1.ag.eO, .int .i64 x2.1.bi.aZ.aT, .lst (x2.1.bi.aZ.ak.map (PD.int .i64)), .lst (x2.1.bi.aZ.ae.map (PD.int .i64)), .int .i64 x2.1.bi.bh, .int .i64 x2.1.bi.bg, .int .i64 x2.1.ba]))<|sV (.d (.agg [.lst (x3.1.aQ.map au.pd)]))<|sM rfl<|bE h fun x31 hx31 h => cR (.tup [.d (aP.pd x31.1), rI x31.2]) [(448, .dead)] (cW hx31)<|sM rfl<|sV (.d (aP.pd x31.1)) ?_
 refine sV (rI x31.2)<|sB (.ptr 224 0) 224 (.var zZ0)<|sH 224 (.var (aP.rc x31.1))<|sA rfl<|sN<|qS<|gS rfl rfl<|sM rfl<|sM rfl<|sF h (fun h => ?_) fun h => ?_
 ·refine sM rfl<|k3<|sK<|sT<|sN<|cT<|gS rfl rfl<|sU<|sN<|qR ?_
  cases oI h
  exact qG
 refine sM rfl<|sV (.d (.agg [.lst (x30.1.fi.map ap.pd), .int .i64 x30.1.aq.aC.fX, .int .i64 x30.1.aq.aC.fY, .int .i64 x30.1.aq.aC.fZ, .int .i64 x30.1.aq.a8, .int .i64 x30.1.aq.aS, .int .i64 x30.1.aq.bc, .int .i64 x30.1.aq.ar.ak.fX, .int .i64 x30.1.aq.ar.ak.fY, .int .i64 x30.1.aq.ar.ak.fZ, .int .i64 x30.1.aq.ar.ae.fX, .int .i64 x30.1.aq.ar.ae.fY, .int .i64 x30.1.aq.ar.ae.fZ, .int .i64 x30.1.bL.ak, .int .i64 x30.1.bL.ae, .int .i64 x30.1.iq]))<|sV (.d (.agg [.lst (x31.1.fi.map ap.pd), .int .i64 x31.1.aq.aC.fX, .int .i64 x31.1.aq.aC.fY, .int .i64 x31.1.aq.aC.fZ, .int .i64 x31.1.aq.a8, .int .i64 x31.1.aq.aS, .int .i64 x31.1.aq.bc, .int .i64 x31.1.aq.ar.ak.fX, .int .i64 x31.1.aq.ar.ak.fY, .int .i64 x31.1.aq.ar.ak.fZ, .int .i64 x31.1.aq.ar.ae.fX, .int .i64 x31.1.aq.ar.ae.fY, .int .i64 x31.1.aq.ar.ae.fZ, .int .i64 x31.1.bL.ak, .int .i64 x31.1.bL.ae, .int .i64 x31.1.iq]))<|bE h fun x33 hx33 h => cD (lc hx33)<|sV (rB (!x33))<|sF h (fun h => ?_) fun h => ?_
 ·refine sN<|cT<|gS rfl rfl<|sU<|sN<|qR ?_
  cases oI h
  exact qG
 refine sN<|cF<|qK<|qS<|gS rfl rfl<|sM rfl<|sF h (fun h => ?_) fun h => ?_
 ·refine sN<|cT<|gS rfl rfl<|sM rfl<|sF h (fun h => ?_) fun h => ?_
  ·refine sM rfl<|bE h fun x37 hx37 h => cD (kw hx37)<|sV (rB x37)<|sA rfl<|sN<|qR ?_
   cases oI h
   exact qG
  refine sM rfl<|sK<|sU<|sA rfl<|sN<|qR ?_
  cases oI h
  exact qG
 refine sN<|cF<|qK<|gS rfl rfl<|sV (.d (.agg [.int .i64 x2.1.ag.ac.ak.fX, .int .i64 x2.1.ag.ac.ak.fY, .int .i64 x2.1.ag.ac.ak.fZ, .int .i64 x2.1.ag.ac.ae.fX, .int .i64 x2.1.ag.ac.ae.fY, .int .i64 x2.1.ag.ac.ae.fZ, .int .i64 x2.1.ag.az.aT, .lst (x2.1.ag.az.ak.map (PD.int .i64)), .lst (x2.1.ag.az.ae.map (PD.int .i64)), .int .i64 x2.1.ag.bG, .int .i64 x2.1.ag.ba, .int .i64 x2.1.ag.gH, .int .i64 x2.1.ag.eP, .int .i64 x2.1.ag.eO, .int .i64 x2.1.bi.aZ.aT, .lst (x2.1.bi.aZ.ak.map (PD.int .i64)), .lst (x2.1.bi.aZ.ae.map (PD.int .i64)), .int .i64 x2.1.bi.bh, .int .i64 x2.1.bi.bg, .int .i64 x2.1.ba]))<|sV (.d (.agg [.lst (x3.1.aQ.map au.pd)]))<|sV (.ptr 192 0)<|sL rfl<|bE h fun x38 hx38 h => cR (.tup [.d (aP.pd x38.1), rI x38.2]) [] (cW hx38)<|sM rfl<|sV (.d (aP.pd x38.1))<|sV (rI x38.2)<|sB (.ptr 256 0) 256 (.var zZ0)<|sH 256 (.var (aP.rc x38.1)) ?_
 refine sA rfl<|sN<|gS rfl rfl<|sM rfl<|sF h (fun h => ?_) fun h => ?_
 ·refine sM rfl<|sV (.d (.agg [.lst (x30.1.fi.map ap.pd), .int .i64 x30.1.aq.aC.fX, .int .i64 x30.1.aq.aC.fY, .int .i64 x30.1.aq.aC.fZ, .int .i64 x30.1.aq.a8, .int .i64 x30.1.aq.aS, .int .i64 x30.1.aq.bc, .int .i64 x30.1.aq.ar.ak.fX, .int .i64 x30.1.aq.ar.ak.fY, .int .i64 x30.1.aq.ar.ak.fZ, .int .i64 x30.1.aq.ar.ae.fX, .int .i64 x30.1.aq.ar.ae.fY, .int .i64 x30.1.aq.ar.ae.fZ, .int .i64 x30.1.bL.ak, .int .i64 x30.1.bL.ae, .int .i64 x30.1.iq]))<|sV (.d (.agg [.lst (x38.1.fi.map ap.pd), .int .i64 x38.1.aq.aC.fX, .int .i64 x38.1.aq.aC.fY, .int .i64 x38.1.aq.aC.fZ, .int .i64 x38.1.aq.a8, .int .i64 x38.1.aq.aS, .int .i64 x38.1.aq.bc, .int .i64 x38.1.aq.ar.ak.fX, .int .i64 x38.1.aq.ar.ak.fY, .int .i64 x38.1.aq.ar.ak.fZ, .int .i64 x38.1.aq.ar.ae.fX, .int .i64 x38.1.aq.ar.ae.fY, .int .i64 x38.1.aq.ar.ae.fZ, .int .i64 x38.1.bL.ak, .int .i64 x38.1.bL.ae, .int .i64 x38.1.iq]))<|bE h fun x40 hx40 h => cD (lc hx40)<|sF h (fun h => ?_) fun h => ?_
  ·refine sM rfl<|bE h fun x42 hx42 h => cD (kw hx42)<|sV (rB x42)<|sA rfl<|sN<|qR ?_
   cases oI h
   exact qG
  refine sM rfl<|sK<|sU<|sA rfl<|sN<|qR ?_
  cases oI h
  exact qG
 refine sM rfl<|k3<|sU<|sM rfl<|sK<|sU<|sA rfl<|sN<|qR ?_
 cases oI h
 exact qG
end Go.Dw.So
