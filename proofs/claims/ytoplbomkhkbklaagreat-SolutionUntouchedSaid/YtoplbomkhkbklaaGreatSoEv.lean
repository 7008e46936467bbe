
import Derived.Test.YtoplbomkhkbklaaGreatSoEvB

set_option maxRecDepth 100000
set_option maxHeartbeats 4000000
namespace Go.Dw.So
open Go.Proofs Go.Proofs.Tryz Go.Dw
theorem mN {a0 : bt} {a1 : aM} {a2 : Int} {a3 : Int} {a4 : Int} {r : aA × Int} (h : eH a0 a1 a2 a3 a4 = some r) : EvP prog aI ext 40 [.d (bt.pd a0), .d (aM.pd a1), rI a2, rI a3, rI a4] [] (.tup [.d (aA.pd r.1), rI r.2], []) := by
 refine Ev.body rfl Tryz.func40 rfl (by kernel_rfl)<|gS rfl rfl<|sB (.ptr 80 0) 80 (.var (bt.rc a0))<|sB (.ptr 96 0) 96 (.var [.d (.lst (a1.bo.map aB.pd))])<|sB (.ptr 160 0) 160 (.var [r0, r0])<|sV (r0)<|sN<|qS<|gS rfl rfl<|sV (.d (bt.pd a0))<|bE h fun x1 hx1 h => cD (ie hx1)<|sF h (fun h => ?_) fun h => ?_
 ·refine sN<|cT<|gS rfl rfl<|sV (.d (aA.pd (aA.mk 0 0)))<|sS 160 (.var [r0, r0])<|sV (rI 27)<|sN<|qR ?_
  exact oI h▸qD
 refine sN<|cF<|qK<|qS<|gS rfl rfl<|sM rfl<|sF h (fun h => ?_) fun h => ?_
 ·refine sM rfl<|sK<|sK<|sT<|sN<|cT<|gS rfl rfl<|sV (.d (aA.pd (aA.mk 0 0)))<|sS 160 (.var [r0, r0])<|sV (rI 2)<|sN<|qR ?_
  exact oI h▸qD
 refine sM rfl<|sM rfl<|sV (rB (decide (a2 > (1073741823 : Int))))<|sF h (fun h => ?_) fun h => ?_
 ·refine sN<|cT<|gS rfl rfl<|sV (.d (aA.pd (aA.mk 0 0)))<|sS 160 (.var [r0, r0])<|sV (rI 2)<|sN<|qR ?_
  exact oI h▸qD
 refine sN<|cF<|qK<|gS rfl rfl<|sV (.d (bt.pd a0))<|sV (.d (aM.pd a1))<|sM rfl<|bE h fun x5 hx5 h => cR (.tup [rI x5.1, rI x5.2]) [] (nB hx5)<|sM rfl<|sV (rI x5.1)<|sV (rI x5.2)<|sA rfl<|sA rfl<|sN ?_
 refine qS<|gS rfl rfl<|sM rfl<|sF h (fun h => ?_) fun h => ?_
 ·refine sN<|cT<|gS rfl rfl<|sV (.d (aA.pd (aA.mk 0 0)))<|sM rfl<|sS 160 (.var [r0, r0])<|sA rfl<|sN<|qR ?_
  exact oI h▸qD
 refine sN<|cF<|qK<|gS rfl rfl<|sV (.ptr 80 0)<|sV (.d (aK.pd a0.aZ))<|sM rfl<|sM rfl<|bE h fun x7 hx7 h => cR (.tup [rI x7.1, rI x7.2.1, rI x7.2.2]) [] (lg hx7)<|sM rfl<|sV (rI x7.1)<|sV (rI x7.2.1)<|sV (rI x7.2.2)<|sA rfl ?_
 refine sA rfl<|sA rfl<|sN<|qS<|gS rfl rfl<|sM rfl<|sF h (fun h => ?_) fun h => ?_
 ·refine sN<|cT<|gS rfl rfl<|sV (.d (aA.pd (aA.mk 0 0)))<|sM rfl<|sS 160 (.var [r0, r0])<|sA rfl<|sN<|qR ?_
  exact oI h▸qD
 refine sN<|cF<|qK<|gS rfl rfl<|sM rfl<|sV (rI (rW (x5.1 - (2 : Int))))<|bE h fun x9 hx9 h => cD (kZ hx9)<|bE h fun x10 hx10 h => cD (kF hx10)<|sM rfl<|sV (rI (rW (x10 + x7.1)))<|sM rfl<|sV (rI (rW (0 - x5.1)))<|sV (rI (rW ((rW (0 - x5.1)) - (6 : Int)))) ?_
 refine bE h fun x11 hx11 h => cD (kZ hx11)<|sV (rI (rW (0 - x11)))<|bE h fun x12 hx12 h => cD (oC hx12)<|sM rfl<|sV (rI (rW (x12 + x7.2.1)))<|sV (.d (aA.pd (aA.mk (rW (x10 + x7.1)) (rW (x12 + x7.2.1)))))<|sS 160 (.var [rI (rW (x10 + x7.1)), rI (rW (x12 + x7.2.1))])<|sV (r0)<|sN<|qR ?_
 exact oI h▸qD
theorem mo {a0 : a7} {a1 : aG} {a2 : ai} {r : (List aA)} (h : ci a0 a1 a2 = some r) : EvP prog aI ext 27 [.d (a7.pd a0), .d (aG.pd a1), .d (ai.pd a2)] [] (.d (.lst (r.map aA.pd)), []) := by
 refine Ev.body rfl Tryz.func27 rfl (by kernel_rfl)<|gS rfl rfl<|sB (.ptr 48 0) 48 (.var [.d (.lst (a0.cg.map aq.pd)), .d (.lst (a0.b8.map av.pd)), .d (.lst (a0.ez.map al.pd))])<|sB (.ptr 64 0) 64 (.var (aG.rc a1))<|sB (.ptr 80 0) 80 (.var (ai.rc a2))<|sV .hY<|sN<|gS rfl rfl<|sV .hY<|sN<|qS<|gS rfl rfl<|sV (.ptr 48 1)<|sL rfl<|sE (rI (a0.b8.length : Int)) (oQ _ _) ?_
 refine sV (r0)<|sN<|bE h fun o15 ho15 h => WC.block (WC.loop (WL.oW ho15 (fun s R' B' => lC prog 0 (A R' B') (aI.at_ 27 0 3) = some (A [(3, .ptr 48 0), (4, .ptr 64 0), (5, .ptr 80 0), (7, .ref 816 0), (13, .d (.lst (a0.b8.map av.pd))), (14, rI (a0.b8.length : Int)), (15, rI s.1)] [(48, .var [.d (.lst (a0.cg.map aq.pd)), .d (.lst (a0.b8.map av.pd)), .d (.lst (a0.ez.map al.pd))]), (64, .var (aG.rc a1)), (80, .var (ai.rc a2)), (816, .arr 0 53 (s.2.map aA.pd))])) (fun o e R' B' => e = .exit 0 ∧ lC prog 0 (A R' B') (aI.at_ 27 0 9) = some (A [(7, .ref 816 0)] [(816, .arr 0 53 (o.map aA.pd))])) rfl ?_ ?_))
 ·rintro ⟨s1, s2⟩ R' B' q4 hI h
  refine gS rfl hI<|sF h (fun h => ?_) fun h => ?_
  ·refine sN<|qS<|cT<|qK<|qS<|qB<|gS rfl rfl<|sM rfl<|bE h fun x6 hx6 h => eG hx6 rfl<|sV (.d (av.pd x6))<|sB (.ptr 144 0) 144 (.var zZ3)<|sA rfl<|sH 144 (.var (av.rc x6))<|sN ?_
   refine WC.cI rfl rfl<|sV (.ptr 64 14)<|sV (.d (bt.pd a1.bn))<|sV (.ptr 48 2)<|sL rfl<|sM rfl<|bE h fun x7 hx7 h => eG hx7 rfl<|sV (.cptr [.lst (x7.bi.bo.map aB.pd)])<|sV (.d (aM.pd x7.bi))<|sV (.ptr 48 0)<|sL rfl<|sM rfl<|bE h fun x8 hx8 h => eG hx8 rfl ?_
   refine sV (.cptr [.int .i64 x8.bp, .int .i64 x8.bI])<|sC rfl<|sV (.d (ai.pd a2))<|sV (.ptr 144 0)<|sV (.d (aa.pd x6.aL))<|bE h fun x9 hx9 h => cD (iS hx9)<|sV (.d (ai.pd a2))<|sV (.ptr 144 0)<|sV (.d (aa.pd x6.aL))<|bE h fun x10 hx10 h => cD (mc hx10)<|bE h fun x11 hx11 h => cR (.tup [.d (aA.pd x11.1), rI x11.2]) [] (mN hx11)<|sM rfl ?_
   refine sV (.d (aA.pd x11.1))<|sV (rI x11.2)<|sB (.ptr 160 0) 160 (.var [r0, r0])<|sS 160 (.var [rI x11.1.ak, rI x11.1.ae])<|sA rfl ?_
   refine sN<|sO<|gS rfl rfl<|sM rfl<|sF h (fun h => ?_) fun h => ?_
   ·refine sN<|cT<|WC.region rfl rfl<|sM rfl<|sV (.d (aA.pd x11.1))<|sV (.d (.lst ([x11.1].map aA.pd)))<|bE h fun x13 hx13 h => aR hx13 (fun _ => rfl) rfl<|sA rfl<|sN<|WC.region rfl rfl<|sV (rI (rW (s1 + (1 : Int))))<|sM rfl<|sN ?_
    cases oI h
    exact ⟨rfl, rfl⟩
   refine sN<|cF<|qK<|WC.region rfl rfl<|sV (rI (rW (s1 + (1 : Int))))<|sM rfl<|sN ?_
   cases oI h
   exact ⟨rfl, rfl⟩
  refine sN<|qS<|cF<|qX ?_
  cases oI h
  exact ⟨nofun, rfl, rfl⟩
 intro e R' B' he hq
 obtain ⟨rfl, hI⟩ := hq
 refine qE<|gS rfl hI<|sM rfl<|sA rfl<|sN<|qR ?_
 exact oI h▸qD
theorem gA {a0 : aA} {r : Bool} (h : fw a0 = some r) : EvP prog aI ext 44 [.d (aA.pd a0)] [] (rB r, []) := by
 refine Ev.body rfl Tryz.func44 rfl (by kernel_rfl)<|gS rfl rfl<|sB (.ptr 16 0) 16 (.var [rI a0.ak, rI a0.ae])<|sU<|sN<|gS rfl rfl<|sV (.ptr 16 0)<|sL rfl<|sV (.ptr 16 1)<|sL rfl<|sV (rB (decide (a0.ak > a0.ae)))<|sA rfl<|sN<|qR ?_
 exact oI h▸qD
theorem im {a0 : (List aA)} {r : Int} (h : dg a0 = some r) : EvP prog aI ext 75 [.d (.lst (a0.map aA.pd)), .d (.raw (.func (.func 44) #[] #[]))] [] (rI r, []) := by
 refine Ev.body rfl Tryz.func75 rfl (by kernel_rfl)<|gS rfl rfl<|sV (r0)<|sN<|qS<|gS rfl rfl<|sM rfl<|sE (rI (a0.length : Int)) (oQ _ _)<|sV (r0)<|sN<|bE h fun o8 ho8 h => WC.block (WC.loop (WL.oW ho8 (fun s R' B' => lC prog 0 (A R' B') (aI.at_ 75 0 2) = some (A [(0, .d (.lst (a0.map aA.pd))), (1, .d (.raw (.func (.func 44) #[] #[]))), (7, rI (a0.length : Int)), (8, rI s)] [])) (fun o e R' B' => match o with | .inl y => e = .exit 0 ∧ lC prog 0 (A R' B') (aI.at_ 75 0 7) = some (A [] []) | .inr r => e = .ret ∧ finish prog (aI.own 75) Tryz.f75 0 (A R' B') = some (rI r, [])) rfl ?_ ?_))
 ·rintro s1 R' B' q2 hI h
  refine gS rfl hI<|sF h (fun h => ?_) fun h => ?_
  ·refine sN<|qS<|cT<|qK<|qS<|qB<|gS rfl rfl<|sM rfl<|sA rfl<|sN<|gS rfl rfl<|sM rfl<|sM rfl<|sM rfl<|bE h fun x4 hx4 h => ?_
   refine eG hx4 rfl<|sV (.d (aA.pd x4))<|bE h fun x5 hx5 h => py h (fun hb6 h => ?_) (fun hb6 h => ?_)
   ·refine WO.pP (v := rB true) (u := []) rfl rfl (fun _ => rfl) rfl rfl rfl rfl rfl (gA hx5) rfl rfl (congrArg (fun b => RV.d (.bool b)) hb6) rfl<|sN<|cT<|gS rfl rfl<|sM rfl<|sA rfl<|sN<|qR ?_
    cases oI h
    exact ⟨nofun, rfl, rfl⟩
   refine WO.pP (v := rB false) (u := []) rfl rfl (fun _ => rfl) rfl rfl rfl rfl rfl (gA hx5) rfl rfl (congrArg (fun b => RV.d (.bool b)) hb6) rfl<|sN<|cF<|qK<|WC.region rfl rfl<|sV (rI (rW (s1 + (1 : Int))))<|sM rfl<|sN ?_
   cases oI h
   exact ⟨rfl, rfl⟩
  refine sN<|qS<|cF<|qX ?_
  cases oI h
  exact ⟨nofun, rfl, rfl⟩
 intro e R' B' he hq
 rcases o8 with y9 | r10
 ·obtain ⟨rfl, hI⟩ := hq
  refine qE<|gS rfl hI<|sV (rI (-1))<|sN<|qR ?_
  exact oI h▸qD
 obtain ⟨rfl, hf⟩ := hq
 cases oI h
 exact hf
theorem dQ {a0 : (List aA)} {r : Bool} (h : b9 a0 = some r) : EvP prog aI ext 43 [.d (.lst (a0.map aA.pd)), .d (.raw (.func (.func 44) #[] #[]))] [] (rB r, []) := by
 refine Ev.body rfl Tryz.func43 rfl (by kernel_rfl)<|gS rfl rfl<|sU<|sN<|gS rfl rfl<|sM rfl<|sM rfl<|bE h fun x1 hx1 h => cD (im hx1)<|sV (rB (decide (x1 ≥ (0 : Int))))<|sA rfl<|sN<|qR ?_
 exact oI h▸qD
theorem kQ {a0 : aA} {r : Int} (h : fx a0 = some r) : EvP prog aI ext 46 [.d (aA.pd a0)] [] (rI r, []) := by
 refine Ev.body rfl Tryz.func46 rfl (by kernel_rfl)<|gS rfl rfl<|sB (.ptr 16 0) 16 (.var [rI a0.ak, rI a0.ae])<|sV (r0)<|sN<|gS rfl rfl<|sV (.ptr 16 0)<|sL rfl<|sA rfl<|sN<|qR ?_
 exact oI h▸qD
theorem cmp_Less_int_ev {a0 : Int} {a1 : Int} {r : Bool} (h : jY a0 a1 = some r) : EvP prog aI ext 145 [rI a0, rI a1] [] (rB r, []) := by
 refine Ev.body rfl Tryz.func145 rfl (by kernel_rfl)<|gS rfl rfl<|sU<|sN<|gS rfl rfl<|sM rfl<|bE h fun x1 hx1 h => py h (fun hb2 h => ?_) (fun hb2 h => ?_)
 ·refine WO.pP (v := rB true) (u := []) rfl rfl (fun _ => rfl) rfl rfl rfl rfl rfl (eY hx1) rfl rfl (congrArg (fun b => RV.d (.bool b)) hb2) rfl<|sM rfl<|sM rfl<|bE h fun x3 hx3 h => cD (eY hx3)<|sV (rB (!x3))<|sF h (fun h => ?_) fun h => ?_
  ·refine sM rfl<|k3<|sT<|sA rfl<|sN<|qR ?_
   exact oI h▸qD
  refine sM rfl<|sM rfl<|sM rfl<|sV (rB (decide (a0 < a1)))<|sV (rB (decide (a0 < a1)))<|sA rfl<|sN<|qR ?_
  exact oI h▸qD
 refine WO.pP (v := rB false) (u := []) rfl rfl (fun _ => rfl) rfl rfl rfl rfl rfl (eY hx1) rfl rfl (congrArg (fun b => RV.d (.bool b)) hb2) rfl<|sM rfl<|k3<|sU<|sM rfl<|sM rfl<|sM rfl<|sV (rB (decide (a0 < a1)))<|sV (rB (decide (a0 < a1)))<|sA rfl<|sN<|qR ?_
 exact oI h▸qD
theorem hP {a1 : Int} {a2 : Int} {d0 : (List Int)} {r : (List Int)} (h : ce a1 a2 d0 = some r) : EvP prog aI ext 139 [.ref 0 0, rI a1, rI a2] [.arr 0 3 (d0.map (PD.int .i64))] (.tup [], [.arr 0 3 (r.map (PD.int .i64))]) := by
 refine Ev.body rfl Tryz.func139 rfl (by kernel_rfl)<|gS rfl rfl<|sM rfl<|sV (rI (rW (a1 + (1 : Int))))<|sA rfl<|sN<|bE h fun o35 ho35 h => ?_
 cases oI h
 refine WC.block (WC.loop (WL.yn ho35 (fun s R' B' => lC prog 1 (A R' B') (aI.at_ 139 1 1) = some (A [(0, .ref 0 0), (1, rI a1), (2, rI a2), (6, rI s.1)] [(0, .arr 0 3 (s.2.map (PD.int .i64)))])) rfl ?_))
 rintro ⟨s1, s2⟩ R' B' q3 hI h
 refine qS<|gS rfl hI<|sM rfl<|sM rfl<|sF h (fun h => ?_) fun h => ?_
 ·refine sN<|cT<|qK<|qS<|qB<|gS rfl rfl<|sM rfl<|sA rfl<|sN<|bE h fun o32 ho32 h => WC.block (WC.loop (WL.oW ho32 (fun s R' B' => lC prog 1 (A R' B') (aI.at_ 139 1 4) = some (A [(0, .ref 0 0), (1, rI a1), (2, rI a2), (6, rI s1), (7, rI s.1)] [(0, .arr 0 3 (s.2.map (PD.int .i64)))])) (fun o e R' B' => e = .exit 2 ∧ lC prog 1 (A R' B') (aI.at_ 139 1 2) = some (A [(0, .ref 0 0), (1, rI a1), (2, rI a2), (6, rI o.1)] [(0, .arr 0 3 (o.2.map (PD.int .i64)))])) rfl ?_ ?_))
  ·rintro ⟨s5, s6⟩ R' B' q9 hI h
   refine qS<|WC.cI hI rfl<|sM rfl<|sM rfl<|sF h (fun h => ?_) fun h => ?_
   ·refine sM rfl<|sM rfl<|sM rfl<|bE h fun x12 hx12 h => WO.qo hx12 rfl rfl rfl rfl rfl rfl rfl rfl<|bE h fun x13 hx13 h => WO.p7 hx13 rfl rfl rfl rfl rfl rfl<|sM rfl<|sM rfl<|sV (rI (rW (s5 - (1 : Int))))<|bE h fun x15 hx15 h => WO.qo hx15 rfl rfl rfl rfl rfl rfl rfl rfl<|bE h fun x16 hx16 h => WO.p7 hx16 rfl rfl rfl rfl rfl rfl<|bE h fun x17 hx17 h => ?_
    refine cD (cmp_Less_int_ev hx17)<|sF h (fun h => ?_) fun h => ?_
    ·refine sN<|sO<|cT<|qK<|qS<|qB<|WC.pQ rfl rfl<|sM rfl<|sM rfl<|sM rfl<|sM rfl<|sV (rI (rW (s5 - (1 : Int))))<|sM rfl<|sM rfl<|sV (rI (rW (s5 - (1 : Int))))<|bE h fun x20 hx20 h => ?_
     refine WO.qo hx20 rfl rfl rfl rfl rfl rfl rfl rfl<|bE h fun x21 hx21 h => WO.p7 hx21 rfl rfl rfl rfl rfl rfl<|sM rfl<|sM rfl<|bE h fun x23 hx23 h => WO.qo hx23 rfl rfl rfl rfl rfl rfl rfl rfl<|bE h fun x24 hx24 h => WO.p7 hx24 rfl rfl rfl rfl rfl rfl<|bE h fun x26 hx26 h => WO.qo hx26 rfl rfl rfl rfl rfl rfl rfl rfl<|bE h fun x27 hx27 h => WO.tV (g := (PD.int .i64)) (sz := 1) (p := .int .i64 x21) hx27 (fun _ => rfl) (fun _ => rfl) rfl rfl rfl rfl rfl rfl rfl rfl rfl<|bE h fun x29 hx29 h => WO.qo hx29 rfl rfl rfl rfl rfl rfl rfl rfl ?_
     refine bE h fun x30 hx30 h => WO.tV (g := (PD.int .i64)) (sz := 1) (p := .int .i64 x24) hx30 (fun _ => rfl) (fun _ => rfl) rfl rfl rfl rfl rfl rfl rfl rfl rfl ?_
     refine sN<|sO<|WC.region rfl rfl<|sM rfl<|sV (rI (rW (s5 - (1 : Int))))<|sA rfl<|sN ?_
     cases oI h
     exact ⟨rfl, rfl⟩
    refine sN<|sO<|cF<|qX ?_
    cases oI h
    exact ⟨nofun, rfl, rfl⟩
   refine sM rfl<|k3<|k3<|k3<|sK<|sU ?_
   refine sN<|sO<|cF<|qX ?_
   cases oI h
   exact ⟨nofun, rfl, rfl⟩
  intro e R' B' he hq
  obtain ⟨rfl, hI⟩ := hq
  refine qE<|WC.region hI rfl<|sM rfl<|sV (rI (rW (o32.1 + (1 : Int))))<|sA rfl<|sN ?_
  cases oI h
  exact ⟨rfl, rfl⟩
 refine sN<|cF<|qX<|uA h (fun z33 hkz33 hz => ?_)
 obtain rfl := Option.some.inj hz
 refine ⟨(fun he => by cases he), fun hz2 => ?_⟩
 subst hz2
 have h := hkz33
 refine qE ?_
 exact oI h▸qD
theorem jz : ∀ (nfu : Nat) {a1 : Int} {a2 : Int} {a3 : Int} {d0 : (List Int)} {r : (List Int)} (_ : gh nfu a1 a2 a3 d0 = some r), EvP prog aI ext 107 [.ref 0 0, rI a1, rI a2, rI a3] [.arr 0 3 (d0.map (PD.int .i64))] (.tup [], [.arr 0 3 (r.map (PD.int .i64))])
  | 0, _, _, _, _,  _, h => by cases h
  | nfu + 1, a1, a2, a3, d0,  r, h => by
   refine Ev.body rfl Tryz.func107 rfl (by kernel_rfl)<|gS rfl rfl<|sT<|sN<|gS rfl rfl<|sT<|sN<|bE h fun o6 ho6 h => WC.block (WC.loop (WL.oW ho6 (fun s R' B' => lC prog 1 (A R' B') (aI.at_ 107 1 2) = some (A [(0, .ref 0 0), (1, rI a1), (2, rI a2), (3, rI a3), (8, rB true), (9, rB true)] [(0, .arr 0 3 (d0.map (PD.int .i64)))])) (fun o e R' B' => e = .ret ∧ finish prog (aI.own 107) Tryz.f107 1 (A R' B') = some (.tup [], [.arr 0 3 (o.map (PD.int .i64))])) rfl ?_ ?_))
   ·rintro ⟨⟩ R' B' q1 hI h
    refine qB<|gS rfl hI<|sM rfl<|sM rfl<|sV (rI (rW (a2 - a1)))<|sA rfl<|sN<|qS<|gS rfl rfl<|sM rfl<|sF h (fun h => ?_) fun h => ?_
    ·refine sN<|cT<|gS rfl rfl<|sM rfl<|sM rfl<|sM rfl<|bE h fun x3 hx3 h => cR (.tup []) [(0, .arr 0 3 (x3.map (PD.int .i64)))] (hP hx3)<|sN<|qR ?_
     cases oI h
     exact ⟨nofun, rfl, rfl⟩
    refine sN<|cF<|qK<|qS<|gS rfl rfl<|sM rfl<|sF h (fun h => ?_) fun h => ?_
    ·refine sN<|cT<|gS rfl rfl<|sM rfl<|sM rfl<|sM rfl ?_
     cases h
    refine sN<|cF<|qK<|qS<|gS rfl rfl<|sM rfl<|sU<|sN<|cF<|qK<|gS rfl rfl<|sM rfl<|sM rfl<|sM rfl ?_
    cases h
   intro e R' B' he hq
   obtain ⟨rfl, hf⟩ := hq
   cases oI h
   exact hf
theorem jO {a1 : Int} {a2 : Int} {a3 : Int} {d0 : (List Int)} {r : (List Int)} (h : ev a1 a2 a3 d0 = some r) : EvP prog aI ext 107 [.ref 0 0, rI a1, rI a2, rI a3] [.arr 0 3 (d0.map (PD.int .i64))] (.tup [], [.arr 0 3 (r.map (PD.int .i64))]) :=
  let ⟨n, hn⟩ := Bf h; jz n hn
theorem kL {d0 : (List Int)} {r : (List Int)} (h : fH d0 = some r) : EvP prog aI ext 76 [.ref 0 0] [.arr 0 3 (d0.map (PD.int .i64))] (.tup [], [.arr 0 3 (r.map (PD.int .i64))]) := by
 refine Ev.body rfl Tryz.func76 rfl (by kernel_rfl)<|gS rfl rfl<|sM rfl<|WO.vR rfl rfl rfl rfl rfl rfl rfl rfl rfl<|sA rfl<|sN<|WC.region rfl rfl<|sM rfl<|sM rfl<|sM rfl<|sV (.d (.int .u64 (IntKind.wrap .u64 (d0.length : Int))))<|bE h fun x1 hx1 h => cD (mu hx1)<|bE h fun x2 hx2 h => cR (.tup []) [(0, .arr 0 3 (x2.map (PD.int .i64)))] (jO hx2) ?_
 refine sN ?_
 exact oI h▸qD
theorem lm {a0 : (List aA)} {r : Int} (h : ek a0 = some r) : EvP prog aI ext 45 [.d (.lst (a0.map aA.pd)), .d (.raw (.func (.func 46) #[] #[]))] [] (rI r, []) := by
 refine Ev.body rfl Tryz.func45 rfl (by kernel_rfl)<|gS rfl rfl<|sV (r0)<|sN<|gS rfl rfl<|sV .hY<|sN<|qS<|gS rfl rfl<|sM rfl<|sE (rI (a0.length : Int)) (oQ _ _)<|sV (r0)<|sN<|bE h fun o10 ho10 h => WC.block (WC.loop (WL.oW ho10 (fun s R' B' => lC prog 0 (A R' B') (aI.at_ 45 0 3) = some (A [(1, .d (.raw (.func (.func 46) #[] #[]))), (5, .ref 304 0), (8, .d (.lst (a0.map aA.pd))), (9, rI (a0.length : Int)), (10, rI s.1)] [(304, .arr 0 3 (s.2.map (PD.int .i64)))])) (fun o e R' B' => e = .exit 0 ∧ lC prog 0 (A R' B') (aI.at_ 45 0 7) = some (A [(5, .ref 304 0)] [(304, .arr 0 3 (o.map (PD.int .i64)))])) rfl ?_ ?_))
 ·rintro ⟨s1, s2⟩ R' B' q4 hI h
  refine gS rfl hI<|sF h (fun h => ?_) fun h => ?_
  ·refine sN<|qS<|cT<|qK<|qS<|qB<|gS rfl rfl<|bE h fun x6 hx6 h => eG hx6 rfl<|sV (.d (aA.pd x6))<|sB (.ptr 112 0) 112 (.var [r0, r0])<|sS 112 (.var [rI x6.ak, rI x6.ae])<|sN<|WC.region rfl rfl<|sM rfl ?_
   refine sM rfl<|sV (.d (aA.pd x6))<|bE h fun x7 hx7 h => cD (kQ hx7)<|sV (.d (.lst ([x7].map (PD.int .i64))))<|bE h fun x8 hx8 h => aR hx8 (fun _ => rfl) rfl<|sA rfl<|sN<|WC.region rfl rfl<|sV (rI (rW (s1 + (1 : Int))))<|sM rfl<|sN ?_
   cases oI h
   exact ⟨rfl, rfl⟩
  refine sN<|qS<|cF<|qX ?_
  cases oI h
  exact ⟨nofun, rfl, rfl⟩
 intro e R' B' he hq
 obtain ⟨rfl, hI⟩ := hq
 refine qE<|gS rfl hI<|sM rfl<|bE h fun x11 hx11 h => cR (.tup []) [(304, .arr 0 3 (x11.map (PD.int .i64)))] (kL hx11)<|sN<|gS rfl rfl<|sM rfl<|sM rfl<|WO.vR rfl rfl rfl rfl rfl rfl rfl rfl rfl<|sV (rI (rW ((x11.length : Int) - (1 : Int))))<|bE h fun x12 hx12 h => WO.tf hx12 rfl rfl rfl rfl rfl rfl<|bE h fun x14 hx14 h => WO.qo hx14 rfl rfl rfl rfl rfl rfl rfl rfl ?_
 refine bE h fun x15 hx15 h => WO.p7 hx15 rfl rfl rfl rfl rfl rfl<|sA rfl<|sN<|qR ?_
 exact oI h▸qD
theorem kR {a0 : aA} {r : Int} (h : fy a0 = some r) : EvP prog aI ext 47 [.d (aA.pd a0)] [] (rI r, []) := by
 refine Ev.body rfl Tryz.func47 rfl (by kernel_rfl)<|gS rfl rfl<|sB (.ptr 16 0) 16 (.var [rI a0.ak, rI a0.ae])<|sV (r0)<|sN<|gS rfl rfl<|sV (.ptr 16 1)<|sL rfl<|sA rfl<|sN<|qR ?_
 exact oI h▸qD
theorem ln {a0 : (List aA)} {r : Int} (h : eo a0 = some r) : EvP prog aI ext 45 [.d (.lst (a0.map aA.pd)), .d (.raw (.func (.func 47) #[] #[]))] [] (rI r, []) := by
 refine Ev.body rfl Tryz.func45 rfl (by kernel_rfl)<|gS rfl rfl<|sV (r0)<|sN<|gS rfl rfl<|sV .hY<|sN<|qS<|gS rfl rfl<|sM rfl<|sE (rI (a0.length : Int)) (oQ _ _)<|sV (r0)<|sN<|bE h fun o10 ho10 h => WC.block (WC.loop (WL.oW ho10 (fun s R' B' => lC prog 0 (A R' B') (aI.at_ 45 0 3) = some (A [(1, .d (.raw (.func (.func 47) #[] #[]))), (5, .ref 304 0), (8, .d (.lst (a0.map aA.pd))), (9, rI (a0.length : Int)), (10, rI s.1)] [(304, .arr 0 3 (s.2.map (PD.int .i64)))])) (fun o e R' B' => e = .exit 0 ∧ lC prog 0 (A R' B') (aI.at_ 45 0 7) = some (A [(5, .ref 304 0)] [(304, .arr 0 3 (o.map (PD.int .i64)))])) rfl ?_ ?_))
 ·rintro ⟨s1, s2⟩ R' B' q4 hI h
  refine gS rfl hI<|sF h (fun h => ?_) fun h => ?_
  ·refine sN<|qS<|cT<|qK<|qS<|qB<|gS rfl rfl<|bE h fun x6 hx6 h => eG hx6 rfl<|sV (.d (aA.pd x6))<|sB (.ptr 112 0) 112 (.var [r0, r0])<|sS 112 (.var [rI x6.ak, rI x6.ae])<|sN<|WC.region rfl rfl<|sM rfl ?_
   refine sM rfl<|sV (.d (aA.pd x6))<|bE h fun x7 hx7 h => cD (kR hx7)<|sV (.d (.lst ([x7].map (PD.int .i64))))<|bE h fun x8 hx8 h => aR hx8 (fun _ => rfl) rfl<|sA rfl<|sN<|WC.region rfl rfl<|sV (rI (rW (s1 + (1 : Int))))<|sM rfl<|sN ?_
   cases oI h
   exact ⟨rfl, rfl⟩
  refine sN<|qS<|cF<|qX ?_
  cases oI h
  exact ⟨nofun, rfl, rfl⟩
 intro e R' B' he hq
 obtain ⟨rfl, hI⟩ := hq
 refine qE<|gS rfl hI<|sM rfl<|bE h fun x11 hx11 h => cR (.tup []) [(304, .arr 0 3 (x11.map (PD.int .i64)))] (kL hx11)<|sN<|gS rfl rfl<|sM rfl<|sM rfl<|WO.vR rfl rfl rfl rfl rfl rfl rfl rfl rfl<|sV (rI (rW ((x11.length : Int) - (1 : Int))))<|bE h fun x12 hx12 h => WO.tf hx12 rfl rfl rfl rfl rfl rfl<|bE h fun x14 hx14 h => WO.qo hx14 rfl rfl rfl rfl rfl rfl rfl rfl ?_
 refine bE h fun x15 hx15 h => WO.p7 hx15 rfl rfl rfl rfl rfl rfl<|sA rfl<|sN<|qR ?_
 exact oI h▸qD
theorem mM {a0 : (List aA)} {r : aA × Int} (h : eF a0 = some r) : EvP prog aI ext 28 [.d (.lst (a0.map aA.pd))] [] (.tup [.d (aA.pd r.1), rI r.2], []) := by
 refine Ev.body rfl Tryz.func28 rfl (by kernel_rfl)<|gS rfl rfl<|sB (.ptr 32 0) 32 (.var [r0, r0])<|sV (r0)<|sN<|qS<|gS rfl rfl<|sM rfl<|sE (rI (a0.length : Int)) (oQ _ _)<|sF h (fun h => ?_) fun h => ?_
 ·refine sN<|cT<|gS rfl rfl<|sV (.d (aA.pd (aA.mk 0 0)))<|sS 32 (.var [r0, r0])<|sV (rI 24)<|sN<|qR ?_
  exact oI h▸qD
 refine sN<|cF<|qK<|qS<|gS rfl rfl<|sM rfl<|bE h fun x2 hx2 h => py h (fun hb3 h => ?_) (fun hb3 h => ?_)
 ·refine WO.pP (v := rB true) (u := []) rfl rfl (fun _ => rfl) rfl rfl rfl rfl rfl (dQ hx2) rfl rfl (congrArg (fun b => RV.d (.bool b)) hb3) rfl<|sN<|cT<|gS rfl rfl<|sV (.d (aA.pd (aA.mk 0 0)))<|sS 32 (.var [r0, r0])<|sV (rI 1)<|sN<|qR ?_
  exact oI h▸qD
 refine WO.pP (v := rB false) (u := []) rfl rfl (fun _ => rfl) rfl rfl rfl rfl rfl (dQ hx2) rfl rfl (congrArg (fun b => RV.d (.bool b)) hb3) rfl<|sN<|cF<|qK<|gS rfl rfl<|sM rfl<|bE h fun x4 hx4 h => cD (lm hx4)<|sM rfl<|bE h fun x5 hx5 h => cD (ln hx5)<|sV (.d (aA.pd (aA.mk x4 x5)))<|sS 32 (.var [rI x4, rI x5])<|sV (r0)<|sN ?_
 refine qR ?_
 exact oI h▸qD
theorem cV {a0 : aG} {a1 : aC} {a2 : (List aq)} {r : aQ × Int} (h : cj a0 a1 a2 = some r) : EvP prog aI ext 11 [.d (aG.pd a0), .d (aC.pd a1), .d (.lst (a2.map aq.pd))] [] (.tup [.d (aQ.pd r.1), rI r.2], []) := by
 refine Ev.body rfl Tryz.func11 rfl (by kernel_rfl)<|gS rfl rfl<|sB (.ptr 48 0) 48 (.var (aG.rc a0))<|sB (.ptr 64 0) 64 (.var [.d (.lst (a1.aO.map ap.pd))])<|sB (.ptr 96 0) 96 (.var zZ0)<|sV (r0)<|sN<|gS rfl rfl<|sV (.d (aG.pd a0))<|sV (.d (aC.pd a1))<|sM rfl<|bE h fun x1 hx1 h => cR (.tup [.d (a7.pd x1.1), rI x1.2]) [] (n9 hx1)<|sM rfl<|sV (.d (a7.pd x1.1)) ?_
 refine sV (rI x1.2)<|sB (.ptr 128 0) 128 (.var [.hY, .hY, .hY])<|sS 128 (.var [.d (.lst (x1.1.cg.map aq.pd)), .d (.lst (x1.1.b8.map av.pd)), .d (.lst (x1.1.ez.map al.pd))])<|sA rfl<|sN<|qS<|gS rfl rfl<|sM rfl<|sF h (fun h => ?_) fun h => ?_
 ·refine sN<|cT<|gS rfl rfl<|sG (.agg zZ0)<|sM rfl<|sH 96 (.var zZ0)<|sA rfl<|sN<|qR ?_
  cases oI h
  exact qG
 refine sN<|cF<|qK<|gS rfl rfl<|sV (.d (.agg [.lst (x1.1.cg.map aq.pd), .lst (x1.1.b8.map av.pd), .lst (x1.1.ez.map al.pd)]))<|sV (.d (aG.pd a0))<|bE h fun x3 hx3 h => cR (.tup [.d (aw.pd x3.1), rI x3.2]) [] (nC hx3)<|sM rfl<|sV (.d (aw.pd x3.1))<|sV (rI x3.2)<|sB (.ptr 160 0) 160 (.var [r0, r0, r0, r0, r0, r0, r0, .hY, .hY, .hY, r0])<|sH 160 (.var (aw.rc x3.1))<|sA rfl<|sN ?_
 refine qS<|gS rfl rfl<|sM rfl<|sF h (fun h => ?_) fun h => ?_
 ·refine sN<|cT<|gS rfl rfl<|sG (.agg zZ0)<|sM rfl<|sH 96 (.var zZ0)<|sA rfl<|sN<|qR ?_
  cases oI h
  exact qG
 refine sN<|cF<|qK<|gS rfl rfl<|sV (.d (.agg [.int .i64 x3.1.ac.ak.fX, .int .i64 x3.1.ac.ak.fY, .int .i64 x3.1.ac.ak.fZ, .int .i64 x3.1.ac.ae.fX, .int .i64 x3.1.ac.ae.fY, .int .i64 x3.1.ac.ae.fZ, .int .i64 x3.1.az.aU, .lst (x3.1.az.ak.map (PD.int .i64)), .lst (x3.1.az.ae.map (PD.int .i64)), .lst (x3.1.aY.map av.pd), .int .i64 x3.1.bG]))<|sV (.ptr 48 19)<|sL rfl<|bE h fun x5 hx5 h => cR (.tup [.d (aF.pd x5.1), rI x5.2]) [] (locate_Locate_ev hx5)<|sM rfl<|sV (.d (aF.pd x5.1))<|sV (rI x5.2)<|sB (.ptr 176 0) 176 (.var zZ1)<|sH 176 (.var (aF.rc x5.1))<|sA rfl ?_
 refine sN<|qS<|gS rfl rfl<|sM rfl<|sF h (fun h => ?_) fun h => ?_
 ·refine sN<|cT<|gS rfl rfl<|sG (.agg zZ0)<|sM rfl<|sH 96 (.var zZ0)<|sA rfl<|sN<|qR ?_
  cases oI h
  exact qG
 refine sN<|cF<|qK<|gS rfl rfl<|sV (.ptr 128 0)<|sL rfl<|sV (.d (aF.pd x5.1))<|sG (.d (.agg [.lst (x1.1.cg.map aq.pd), .int .i64 x5.1.aD.fX, .int .i64 x5.1.aD.fY, .int .i64 x5.1.aD.fZ, .int .i64 x5.1.a8, .int .i64 x5.1.aT, .int .i64 x5.1.bd, .int .i64 x5.1.au.ak.fX, .int .i64 x5.1.au.ak.fY, .int .i64 x5.1.au.ak.fZ, .int .i64 x5.1.au.ae.fX, .int .i64 x5.1.au.ae.fY, .int .i64 x5.1.au.ae.fZ, .int .i64 0, .int .i64 0, .int .i64 0]))<|sB (.ptr 192 0) 192 (.var zZ0)<|sH 192 (.var [.d (.lst (x1.1.cg.map aq.pd)), rI x5.1.aD.fX, rI x5.1.aD.fY, rI x5.1.aD.fZ, rI x5.1.a8, rI x5.1.aT, rI x5.1.bd, rI x5.1.au.ak.fX, rI x5.1.au.ak.fY, rI x5.1.au.ak.fZ, rI x5.1.au.ae.fX, rI x5.1.au.ae.fY, rI x5.1.au.ae.fZ, r0, r0, r0])<|sN<|qS<|gS rfl rfl<|sV (.d (.agg [.lst (x1.1.cg.map aq.pd), .lst (x1.1.b8.map av.pd), .lst (x1.1.ez.map al.pd)]))<|sV (.d (aG.pd a0)) ?_
 refine sV (.ptr 176 6)<|sV (.d (ai.pd x5.1.au))<|bE h fun x7 hx7 h => cD (mo hx7)<|sA rfl<|sN<|gS rfl rfl<|sM rfl<|sE (rI (x7.length : Int)) (oQ _ _)<|sF h (fun h => ?_) fun h => ?_
 ·refine sN<|cT<|gS rfl rfl<|sM rfl<|sE (rI (x7.length : Int)) (oQ _ _)<|sV (.ptr 192 15)<|sS 192 (.var [.d (.lst (x1.1.cg.map aq.pd)), rI x5.1.aD.fX, rI x5.1.aD.fY, rI x5.1.aD.fZ, rI x5.1.a8, rI x5.1.aT, rI x5.1.bd, rI x5.1.au.ak.fX, rI x5.1.au.ak.fY, rI x5.1.au.ak.fZ, rI x5.1.au.ae.fX, rI x5.1.au.ae.fY, rI x5.1.au.ae.fZ, r0, r0, rI (x7.length : Int)])<|sN<|gS rfl rfl<|sM rfl<|bE h fun x9 hx9 h => cR (.tup [.d (aA.pd x9.1), rI x9.2]) [] (mM hx9)<|sM rfl<|sV (.d (aA.pd x9.1))<|sV (rI x9.2) ?_
  refine sV (.ptr 192 13)<|sS 192 (.var [.d (.lst (x1.1.cg.map aq.pd)), rI x5.1.aD.fX, rI x5.1.aD.fY, rI x5.1.aD.fZ, rI x5.1.a8, rI x5.1.aT, rI x5.1.bd, rI x5.1.au.ak.fX, rI x5.1.au.ak.fY, rI x5.1.au.ak.fZ, rI x5.1.au.ae.fX, rI x5.1.au.ae.fY, rI x5.1.au.ae.fZ, rI x9.1.ak, rI x9.1.ae, rI (x7.length : Int)])<|sA rfl<|sN<|gS rfl rfl<|sM rfl<|sF h (fun h => ?_) fun h => ?_
  ·refine sN<|cT<|gS rfl rfl<|sG (.agg zZ0)<|sM rfl<|sH 96 (.var zZ0)<|sA rfl<|sN<|qR ?_
   cases oI h
   exact qG
  refine sN<|cF<|qK<|gS rfl rfl<|sV (.d (.agg [.lst (x1.1.cg.map aq.pd), .int .i64 x5.1.aD.fX, .int .i64 x5.1.aD.fY, .int .i64 x5.1.aD.fZ, .int .i64 x5.1.a8, .int .i64 x5.1.aT, .int .i64 x5.1.bd, .int .i64 x5.1.au.ak.fX, .int .i64 x5.1.au.ak.fY, .int .i64 x5.1.au.ak.fZ, .int .i64 x5.1.au.ae.fX, .int .i64 x5.1.au.ae.fY, .int .i64 x5.1.au.ae.fZ, .int .i64 x9.1.ak, .int .i64 x9.1.ae, .int .i64 (x7.length : Int)]))<|sH 96 (.var [.d (.lst (x1.1.cg.map aq.pd)), rI x5.1.aD.fX, rI x5.1.aD.fY, rI x5.1.aD.fZ, rI x5.1.a8, rI x5.1.aT, rI x5.1.bd, rI x5.1.au.ak.fX, rI x5.1.au.ak.fY, rI x5.1.au.ak.fZ, rI x5.1.au.ae.fX, rI x5.1.au.ae.fY, rI x5.1.au.ae.fZ, rI x9.1.ak, rI x9.1.ae, rI (x7.length : Int)])<|sV (r0)<|sN<|qR ?_
  cases oI h
  exact qG
 refine sN<|cF<|qK<|gS rfl rfl<|sV (.d (.agg [.lst (x1.1.cg.map aq.pd), .int .i64 x5.1.aD.fX, .int .i64 x5.1.aD.fY, .int .i64 x5.1.aD.fZ, .int .i64 x5.1.a8, .int .i64 x5.1.aT, .int .i64 x5.1.bd, .int .i64 x5.1.au.ak.fX, .int .i64 x5.1.au.ak.fY, .int .i64 x5.1.au.ak.fZ, .int .i64 x5.1.au.ae.fX, .int .i64 x5.1.au.ae.fY, .int .i64 x5.1.au.ae.fZ, .int .i64 0, .int .i64 0, .int .i64 0]))<|sH 96 (.var [.d (.lst (x1.1.cg.map aq.pd)), rI x5.1.aD.fX, rI x5.1.aD.fY, rI x5.1.aD.fZ, rI x5.1.a8, rI x5.1.aT, rI x5.1.bd, rI x5.1.au.ak.fX, rI x5.1.au.ak.fY, rI x5.1.au.ak.fZ, rI x5.1.au.ae.fX, rI x5.1.au.ae.fY, rI x5.1.au.ae.fZ, r0, r0, r0])<|sV (r0)<|sN<|qR ?_
 cases oI h
 exact qG
theorem kK {a0 : (List aq)} {a1 : (List aq)} {r : Bool} (h : gT a0 a1 = some r) : EvP prog aI ext 29 [.d (.lst (a0.map aq.pd)), .d (.lst (a1.map aq.pd))] [] (rB r, []) := by
 refine Ev.body rfl Tryz.func29 rfl (by kernel_rfl)<|gS rfl rfl<|sU<|sN<|qS<|gS rfl rfl<|sM rfl<|sE (rI (a0.length : Int)) (oQ _ _)<|sM rfl<|sE (rI (a1.length : Int)) (oQ _ _)<|sF h (fun h => ?_) fun h => ?_
 ·refine sN<|cT<|gS rfl rfl<|sU<|sN<|qR ?_
  exact oI h▸qD
 refine sN<|cF<|qK<|qS<|gS rfl rfl<|sV (r0)<|sN<|bE h fun o9 ho9 h => WC.block (WC.loop (WL.oW ho9 (fun s R' B' => lC prog 0 (A R' B') (aI.at_ 29 0 4) = some (A [(0, .d (.lst (a0.map aq.pd))), (1, .d (.lst (a1.map aq.pd))), (5, rI s)] [])) (fun o e R' B' => match o with | .inl y => e = .exit 0 ∧ lC prog 0 (A R' B') (aI.at_ 29 0 8) = some (A [] []) | .inr r => e = .ret ∧ finish prog (aI.own 29) Tryz.f29 0 (A R' B') = some (rB r, [])) rfl ?_ ?_))
 ·rintro s2 R' B' q3 hI h
  refine qS<|gS rfl hI<|sM rfl<|sM rfl<|sE (rI (a0.length : Int)) (oQ _ _)<|sF h (fun h => ?_) fun h => ?_
  ·refine sN<|cT<|qK<|qS<|qB<|WC.cI rfl rfl<|sM rfl<|sM rfl<|bE h fun x5 hx5 h => eG hx5 rfl<|sV (.d (aq.pd x5))<|sM rfl<|sM rfl<|bE h fun x6 hx6 h => eG hx6 rfl ?_
   refine sV (.d (aq.pd x6))<|py h (fun hb7 h => ?_) (fun hb7 h => ?_)
   ·refine WO.uM (eqN_48 x5 x6) hb7 rfl rfl rfl rfl rfl ?_
    refine sN<|sO<|cT<|gS rfl rfl<|sU<|sN<|qR ?_
    cases oI h
    exact ⟨nofun, rfl, rfl⟩
   refine WO.uM (eqN_48 x5 x6) hb7 rfl rfl rfl rfl rfl ?_
   refine sN<|sO<|cF<|qK<|WC.region rfl rfl<|sM rfl<|sV (rI (rW (s2 + (1 : Int))))<|sA rfl<|sN ?_
   cases oI h
   exact ⟨rfl, rfl⟩
  refine sN<|cF<|qX ?_
  cases oI h
  exact ⟨nofun, rfl, rfl⟩
 intro e R' B' he hq
 rcases o9 with y10 | r11
 ·obtain ⟨rfl, hI⟩ := hq
  refine qE<|gS rfl hI<|sT<|sN<|qR ?_
  exact oI h▸qD
 obtain ⟨rfl, hf⟩ := hq
 cases oI h
 exact hf
theorem lu {a0 : aQ} {a1 : aQ} {r : Bool} (h : jb a0 a1 = some r) : EvP prog aI ext 12 [.d (aQ.pd a0), .d (aQ.pd a1)] [] (rB r, []) := by
 refine Ev.body rfl Tryz.func12 rfl (by kernel_rfl)<|gS rfl rfl<|sB (.ptr 32 0) 32 (.var (aQ.rc a0))<|sB (.ptr 48 0) 48 (.var (aQ.rc a1))<|sU<|sN<|gS rfl rfl<|sV (.ptr 32 0)<|sL rfl<|sV (.ptr 48 0)<|sL rfl<|bE h fun x1 hx1 h => py h (fun hb2 h => ?_) (fun hb2 h => ?_)
 ·refine WO.pP (v := rB true) (u := []) rfl rfl (fun _ => rfl) rfl rfl rfl rfl rfl (kK hx1) rfl rfl (congrArg (fun b => RV.d (.bool b)) hb2) rfl<|sM rfl<|sV (.ptr 32 1)<|sV (.d (aF.pd a0.ar))<|sV (.ptr 48 1)<|sV (.d (aF.pd a1.ar))<|WO.bin (eqE_51 a0.ar a1.ar) rfl rfl rfl rfl rfl<|sF h (fun h => ?_) fun h => ?_
  ·refine sM rfl<|sV (.ptr 32 13)<|sV (.d (aA.pd a0.bL))<|sV (.ptr 48 13)<|sV (.d (aA.pd a1.bL))<|WO.bin (eqE_53 a0.bL a1.bL) rfl rfl rfl rfl rfl<|sF h (fun h => ?_) fun h => ?_
   ·refine sM rfl<|sV (.ptr 32 15)<|sL rfl<|sV (.ptr 48 15)<|sL rfl<|sV (rB (a0.iu == a1.iu))<|sV (rB (a0.iu == a1.iu))<|sA rfl<|sN<|qR ?_
    cases oI h
    exact qG
   refine sM rfl<|k3<|sK<|sK<|sU<|sA rfl<|sN<|qR ?_
   cases oI h
   exact qG
  refine sM rfl<|k3<|sK<|sK<|sU<|sM rfl<|k3<|sK<|sK<|sU<|sA rfl ?_
  refine sN<|qR ?_
  cases oI h
  exact qG
 refine WO.pP (v := rB false) (u := []) rfl rfl (fun _ => rfl) rfl rfl rfl rfl rfl (kK hx1) rfl rfl (congrArg (fun b => RV.d (.bool b)) hb2) rfl<|sM rfl<|k3<|sK<|sK<|sU<|sM rfl<|k3<|sK<|sK<|sU ?_
 refine sM rfl<|k3<|sK<|sK<|sU<|sA rfl<|sN<|qR ?_
 cases oI h
 exact qG
theorem kD  {r : Bool} (h : ic = some r) : EvP prog aI ext 13 [] [] (rB r, []) := by
 refine Ev.body rfl Tryz.func13 rfl (by kernel_rfl)<|gS rfl rfl<|sU<|sN<|gS rfl rfl<|bE h fun x1 hx1 h => cR (.ptr 144 0) [(144, .var [.d (.lst (x1.fL.map (PD.int .i64))), rI x1.fAt])] (mI hx1)<|sA rfl<|sN<|gS rfl rfl<|sM rfl<|bE h fun x2 hx2 h => cR (.d (aG.pd x2.1)) [(144, .var [.d (.lst (x2.2.fL.map (PD.int .i64))), rI x2.2.fAt])] (jD hx2)<|sM rfl<|bE h fun x3 hx3 h => ?_
 refine cR (.d (aC.pd x3.1)) [(144, .var [.d (.lst (x3.2.fL.map (PD.int .i64))), rI x3.2.fAt])] (lJ hx3)<|sB (.ptr 32 0) 32 (.var [r0, r0, r0, r0, r0, r0, r0, .hY, .hY, r0, r0, r0, r0, r0, r0, .hY, .hY, r0, r0, r0])<|sB (.ptr 48 0) 48 (.var [.hY])<|sH 32 (.var (aG.rc x2.1))<|sS 48 (.var [.d (.lst (x3.1.aO.map ap.pd))])<|sN<|gS rfl rfl<|sV (.d (.agg [.int .i64 x2.1.ag.ac.ak.fX, .int .i64 x2.1.ag.ac.ak.fY, .int .i64 x2.1.ag.ac.ak.fZ, .int .i64 x2.1.ag.ac.ae.fX, .int .i64 x2.1.ag.ac.ae.fY, .int .i64 x2.1.ag.ac.ae.fZ, .int .i64 x2.1.ag.az.aU, .lst (x2.1.ag.az.ak.map (PD.int .i64)), .lst (x2.1.ag.az.ae.map (PD.int .i64)), .int .i64 x2.1.ag.bG, .int .i64 x2.1.ag.bc, .int .i64 x2.1.ag.gJ, .int .i64 x2.1.ag.eR, .int .i64 x2.1.ag.eQ, .int .i64 x2.1.bn.aZ.aU, .lst (x2.1.bn.aZ.ak.map (PD.int .i64)), .lst (x2.1.bn.aZ.ae.map (PD.int .i64)), .int .i64 x2.1.bn.bj, .int .i64 x2.1.bn.bh, .int .i64 x2.1.bc]))<|sV (.d (.agg [.lst (x3.1.aO.map ap.pd)]))<|bE h fun x4 hx4 h => cR (.tup [.d (aQ.pd x4.1), rI x4.2]) [] (cV hx4)<|sM rfl<|sV (.d (aQ.pd x4.1))<|sV (rI x4.2)<|sB (.ptr 64 0) 64 (.var zZ0) ?_
 refine sH 64 (.var (aQ.rc x4.1))<|sA rfl<|sN<|gS rfl rfl<|bE h fun x5 hx5 h => cD (kB hx5)<|sG (.d (aq.pd (aq.mk x5 2500 2500 2500 10 0)))<|sB (.ptr 96 0) 96 (.var [rS [], rS [], rS [], rS [], r0, r0, r0, r0, r0])<|sH 96 (.var [rS x5.aV, rS x5.aL, rS x5.ar, rS x5.aX, rI 2500, rI 2500, rI 2500, rI 10, r0])<|sN<|gS rfl rfl<|sV (.d (.agg [.int .i64 x2.1.ag.ac.ak.fX, .int .i64 x2.1.ag.ac.ak.fY, .int .i64 x2.1.ag.ac.ak.fZ, .int .i64 x2.1.ag.ac.ae.fX, .int .i64 x2.1.ag.ac.ae.fY, .int .i64 x2.1.ag.ac.ae.fZ, .int .i64 x2.1.ag.az.aU, .lst (x2.1.ag.az.ak.map (PD.int .i64)), .lst (x2.1.ag.az.ae.map (PD.int .i64)), .int .i64 x2.1.ag.bG, .int .i64 x2.1.ag.bc, .int .i64 x2.1.ag.gJ, .int .i64 x2.1.ag.eR, .int .i64 x2.1.ag.eQ, .int .i64 x2.1.bn.aZ.aU, .lst (x2.1.bn.aZ.ak.map (PD.int .i64)), .lst (x2.1.bn.aZ.ae.map (PD.int .i64)), .int .i64 x2.1.bn.bj, .int .i64 x2.1.bn.bh, .int .i64 x2.1.bc]))<|sV (.d (.agg [.lst (x3.1.aO.map ap.pd)]))<|sV (.d (aq.pd (aq.mk x5 2500 2500 2500 10 0)))<|sG (.d (.lst ([(aq.mk x5 2500 2500 2500 10 0)].map aq.pd))) ?_
 refine bE h fun x6 hx6 h => cR (.tup [.d (aQ.pd x6.1), rI x6.2]) [] (cV hx6)<|sM rfl<|sV (.d (aQ.pd x6.1))<|sV (rI x6.2)<|sB (.ptr 112 0) 112 (.var zZ0)<|sH 112 (.var (aQ.rc x6.1))<|sA rfl<|sN<|WC.cI rfl rfl<|sM rfl<|sF h (fun h => ?_) fun h => ?_
 ·refine sM rfl<|sM rfl<|sV (rB (x6.2 == (0 : Int)))<|sF h (fun h => ?_) fun h => ?_
  ·refine sM rfl<|sV (.ptr 112 0)<|sL rfl<|sE (rI (x6.1.fm.length : Int)) (oQ _ _)<|sV (rB ((x6.1.fm.length : Int) == (1 : Int)))<|sF h (fun h => ?_) fun h => ?_
   ·refine sM rfl<|sV (.ptr 112 0)<|sL rfl<|bE h fun x10 hx10 h => eG hx10 rfl<|sV (.d (aq.pd x10))<|sV (.d (aq.pd (aq.mk x5 2500 2500 2500 10 0)))<|WO.bin (eqE_48 x10 (aq.mk x5 2500 2500 2500 10 0)) rfl rfl rfl rfl rfl<|sF h (fun h => ?_) fun h => ?_
    ·refine sM rfl<|sV (.ptr 112 1)<|sV (.ptr 112 5)<|sL rfl<|sV (rB (x6.1.ar.aT == (0 : Int)))<|sF h (fun h => ?_) fun h => ?_
     ·refine sM rfl<|sV (.d (.agg [.int .i64 x2.1.ag.ac.ak.fX, .int .i64 x2.1.ag.ac.ak.fY, .int .i64 x2.1.ag.ac.ak.fZ, .int .i64 x2.1.ag.ac.ae.fX, .int .i64 x2.1.ag.ac.ae.fY, .int .i64 x2.1.ag.ac.ae.fZ, .int .i64 x2.1.ag.az.aU, .lst (x2.1.ag.az.ak.map (PD.int .i64)), .lst (x2.1.ag.az.ae.map (PD.int .i64)), .int .i64 x2.1.ag.bG, .int .i64 x2.1.ag.bc, .int .i64 x2.1.ag.gJ, .int .i64 x2.1.ag.eR, .int .i64 x2.1.ag.eQ, .int .i64 x2.1.bn.aZ.aU, .lst (x2.1.bn.aZ.ak.map (PD.int .i64)), .lst (x2.1.bn.aZ.ae.map (PD.int .i64)), .int .i64 x2.1.bn.bj, .int .i64 x2.1.bn.bh, .int .i64 x2.1.bc]))<|bE h fun x13 hx13 h => cD (jA hx13)<|sV (rB (x13 == (0 : Int)))<|sV (rB (x13 == (0 : Int)))<|sA rfl ?_
      refine sN<|sO<|qR ?_
      cases oI h
      exact qG
     refine sM rfl<|k3<|sU<|sA rfl ?_
     refine sN<|sO<|qR ?_
     cases oI h
     exact qG
    refine sM rfl<|k3<|sK<|sU<|sM rfl<|k3<|sU<|sA rfl ?_
    refine sN<|sO<|qR ?_
    cases oI h
    exact qG
   refine sM rfl<|k3<|k3<|sU<|sM rfl<|k3<|sK<|sU<|sM rfl ?_
   refine k3<|sU<|sA rfl ?_
   refine sN<|sO<|qR ?_
   cases oI h
   exact qG
  refine sM rfl<|k3<|sK<|sU<|sM rfl<|k3<|k3<|sU<|sM rfl ?_
  refine k3<|sK<|sU<|sM rfl<|k3<|sU<|sA rfl ?_
  refine sN<|sO<|qR ?_
  cases oI h
  exact qG
 refine sM rfl<|sK<|sK<|sU<|sM rfl<|k3<|sK<|sU<|sM rfl<|k3<|sK ?_
 refine sK<|sK<|sU<|sM rfl<|k3<|sK<|sU<|sM rfl<|k3<|sU<|sA rfl ?_
 refine sN<|sO<|qR ?_
 cases oI h
 exact qG
theorem kC {a0 : (List Int)} {r : Bool} (h : e9 a0 = some r) : EvP prog aI ext 4 [.d (.lst (a0.map (PD.int .i64)))] [] (rB r, []) := by
 refine Ev.body rfl Tryz.func4 rfl (by kernel_rfl)<|gS rfl rfl<|sU<|sN<|gS rfl rfl<|sM rfl<|bE h fun x1 hx1 h => cR (.ptr 320 0) [(320, .var [.d (.lst (x1.fL.map (PD.int .i64))), rI x1.fAt])] (mI hx1)<|sA rfl<|sN<|gS rfl rfl<|sM rfl<|bE h fun x2 hx2 h => cR (.d (aG.pd x2.1)) [(320, .var [.d (.lst (x2.2.fL.map (PD.int .i64))), rI x2.2.fAt])] (jD hx2)<|sM rfl ?_
 refine bE h fun x3 hx3 h => cR (.d (aC.pd x3.1)) [(320, .var [.d (.lst (x3.2.fL.map (PD.int .i64))), rI x3.2.fAt])] (lJ hx3)<|sB (.ptr 64 0) 64 (.var [r0, r0, r0, r0, r0, r0, r0, .hY, .hY, r0, r0, r0, r0, r0, r0, .hY, .hY, r0, r0, r0])<|sB (.ptr 80 0) 80 (.var [.hY])<|sH 64 (.var (aG.rc x2.1))<|sS 80 (.var [.d (.lst (x3.1.aO.map ap.pd))])<|sN<|gS rfl rfl<|sM rfl<|sV (.d (.agg [.int .i64 x2.1.ag.ac.ak.fX, .int .i64 x2.1.ag.ac.ak.fY, .int .i64 x2.1.ag.ac.ak.fZ, .int .i64 x2.1.ag.ac.ae.fX, .int .i64 x2.1.ag.ac.ae.fY, .int .i64 x2.1.ag.ac.ae.fZ, .int .i64 x2.1.ag.az.aU, .lst (x2.1.ag.az.ak.map (PD.int .i64)), .lst (x2.1.ag.az.ae.map (PD.int .i64)), .int .i64 x2.1.ag.bG, .int .i64 x2.1.ag.bc, .int .i64 x2.1.ag.gJ, .int .i64 x2.1.ag.eR, .int .i64 x2.1.ag.eQ, .int .i64 x2.1.bn.aZ.aU, .lst (x2.1.bn.aZ.ak.map (PD.int .i64)), .lst (x2.1.bn.aZ.ae.map (PD.int .i64)), .int .i64 x2.1.bn.bj, .int .i64 x2.1.bn.bh, .int .i64 x2.1.bc]))<|sV (.d (.agg [.lst (x3.1.aO.map ap.pd)]))<|bE h fun x4 hx4 h => cR (.d (.lst (x4.1.map aq.pd))) [(320, .var [.d (.lst (x4.2.fL.map (PD.int .i64))), rI x4.2.fAt])] (od hx4)<|sA rfl<|sN ?_
 refine gS rfl rfl<|sV (r0)<|sN<|qS<|gS rfl rfl<|sM rfl<|sE (rI (x4.1.length : Int)) (oQ _ _)<|sV (r0)<|sN<|bE h fun o12 ho12 h => WC.block (WC.loop (WL.oW ho12 (fun s R' B' => lC prog 0 (A R' B') (aI.at_ 4 0 6) = some (A [(3, .ptr 320 0), (4, .ptr 64 0), (5, .ptr 80 0), (6, .d (.lst (x4.1.map aq.pd))), (7, rI s.1), (30, rI (x4.1.length : Int)), (31, rI s.2)] [(64, .var (aG.rc x2.1)), (80, .var [.d (.lst (x3.1.aO.map ap.pd))]), (320, .var [.d (.lst (x4.2.fL.map (PD.int .i64))), rI x4.2.fAt])])) (fun o e R' B' => e = .exit 0 ∧ lC prog 0 (A R' B') (aI.at_ 4 0 10) = some (A [(3, .ptr 320 0), (4, .ptr 64 0), (5, .ptr 80 0), (6, .d (.lst (x4.1.map aq.pd))), (7, rI o)] [(64, .var (aG.rc x2.1)), (80, .var [.d (.lst (x3.1.aO.map ap.pd))]), (320, .var [.d (.lst (x4.2.fL.map (PD.int .i64))), rI x4.2.fAt])])) rfl ?_ ?_))
 ·rintro ⟨s5, s6⟩ R' B' q8 hI h
  refine gS rfl hI<|sF h (fun h => ?_) fun h => ?_
  ·refine sN<|qS<|cT<|qK<|qS<|qB<|gS rfl rfl<|sM rfl<|sA rfl<|sN<|WC.region rfl rfl<|sM rfl<|sM rfl<|sM rfl<|bE h fun x10 hx10 h => ?_
   refine eG hx10 rfl<|sV (.cptr [.int .i64 x10.a8, .int .i64 x10.bw, .int .i64 x10.bO, .int .i64 x10.bp, .int .i64 x10.bI])<|sC rfl<|sV (rI (if x10.a8 > s5 then x10.a8 else s5))<|sA rfl<|sN<|WC.region rfl rfl<|sV (rI (rW (s6 + (1 : Int))))<|sM rfl<|sN ?_
   cases oI h
   exact ⟨rfl, rfl⟩
  refine sN<|qS<|cF<|qX ?_
  cases oI h
  exact ⟨nofun, rfl, rfl⟩
 intro e R' B' he hq
 obtain ⟨rfl, hI⟩ := hq
 refine qE<|gS rfl hI<|sB (.ptr 144 0) 144 (.var [.hY])<|sN<|qS<|gS rfl rfl<|sV (.ptr 80 0)<|sL rfl<|sE (rI (x3.1.aO.length : Int)) (oQ _ _)<|sV (r0)<|sN<|bE h fun o37 ho37 h => WC.block (WC.loop (WL.oW ho37 (fun s R' B' => lC prog 0 (A R' B') (aI.at_ 4 0 12) = some (A [(3, .ptr 320 0), (4, .ptr 64 0), (5, .ptr 80 0), (6, .d (.lst (x4.1.map aq.pd))), (7, rI o12), (9, .ptr 144 0), (43, .d (.lst (x3.1.aO.map ap.pd))), (44, rI (x3.1.aO.length : Int)), (45, rI s.1)] [(64, .var (aG.rc x2.1)), (80, .var [.d (.lst (x3.1.aO.map ap.pd))]), (144, .var [.ref 1568 0]), (320, .var [.d (.lst (s.2.1.map (PD.int .i64))), rI s.2.2.1]), (1568, .arr 0 64 (s.2.2.2.map ap.pd))])) (fun o e R' B' => e = .exit 2 ∧ lC prog 0 (A R' B') (aI.at_ 4 0 23) = some (A [(4, .ptr 64 0), (5, .ptr 80 0), (6, .d (.lst (x4.1.map aq.pd))), (9, .ptr 144 0)] [(64, .var (aG.rc x2.1)), (80, .var [.d (.lst (x3.1.aO.map ap.pd))]), (144, .var [.ref 1568 0]), (1568, .arr 0 64 (o.map ap.pd))])) rfl ?_ ?_))
 ·rintro ⟨s13, s14, s15, s16⟩ R' B' q18 hI h
  refine gS rfl hI<|sF h (fun h => ?_) fun h => ?_
  ·refine sN<|qS<|cT<|qK<|qS<|qB<|gS rfl rfl<|bE h fun x20 hx20 h => eG hx20 rfl<|sV (.d (ap.pd x20))<|sB (.ptr 176 0) 176 (.var [rS [], rS [], rS [], rS [], .hY])<|sS 176 (.var (ap.rc x20))<|sN<|gS rfl rfl<|sV (.ptr 176 4) ?_
   refine sL rfl<|sE (rI (x20.ba.length : Int)) (oQ _ _)<|sV (rI (rW ((x20.ba.length : Int) - (1 : Int))))<|sA rfl<|sN<|WC.cI rfl rfl<|sV (.ptr 176 0)<|sV (.d (aJ.pd x20.aH))<|sB (.ref 880 0) 880 (.arr 0 71 (([] : List al).map al.pd))<|sV (.ptr 176 4)<|sL rfl<|bE h fun x21 hx21 h => aR hx21 (fun _ => rfl) rfl<|sV (.agg [rS x20.aH.aV, rS x20.aH.aL, rS x20.aH.ar, rS x20.aH.aX, .ref 880 1])<|sB (.ptr 208 0) 208 (.var [rS [], rS [], rS [], rS [], .hY]) ?_
   refine sS 208 (.var [rS x20.aH.aV, rS x20.aH.aL, rS x20.aH.ar, rS x20.aH.aX, .ref 880 1]) ?_
   refine sN<|sO<|qS<|gS rfl rfl<|sV (.ptr 208 4)<|sL rfl<|sM rfl<|bE h fun x23 hx23 h => WO.qo hx23 rfl rfl rfl rfl rfl rfl rfl rfl<|bE h fun x24 hx24 h => WO.p7 hx24 rfl rfl rfl rfl rfl rfl<|sB (.ptr 224 0) 224 (.var zZ2)<|sH 224 (.var (al.rc x24))<|sN<|gS rfl rfl<|sV (.ptr 224 0) ?_
   refine sL rfl<|sM rfl<|sF h (fun h => ?_) fun h => ?_
   ·refine sN<|cT<|gS rfl rfl<|sV (.ptr 208 4)<|sL rfl<|sM rfl<|sM rfl<|sV (rI (rW (o12 + (1 : Int))))<|bE h fun x27 hx27 h => WO.qo hx27 rfl rfl rfl rfl rfl rfl rfl rfl<|sV (.elt 880 1 ((rW ((x20.ba.length : Int) - (1 : Int)))).toNat 1)<|bE h fun x28 hx28 h => WO.yT (g := al.pd) (u := []) (sz := 1) hx28 (fun _ => rfl) (fun _ => Nat.le_of_ble_eq_true rfl) rfl rfl rfl rfl rfl rfl rfl rfl rfl rfl rfl<|sN<|gS rfl rfl ?_
    refine sM rfl<|sV (rI (rW (o12 + (1 : Int))))<|sM rfl<|bE h fun x30 hx30 h => cR (rI x30.1) [(320, .var [.d (.lst (x30.2.fL.map (PD.int .i64))), rI x30.2.fAt])] (bC hx30)<|sV (rI (rW ((rW (o12 + (1 : Int))) + x30.1)))<|sM rfl<|bE h fun x31 hx31 h => cR (.d (aa.pd x31.1)) [(320, .var [.d (.lst (x31.2.fL.map (PD.int .i64))), rI x31.2.fAt])] (jW hx31)<|sM rfl<|bE h fun x32 hx32 h => cR (.d (aM.pd x32.1)) [(320, .var [.d (.lst (x32.2.fL.map (PD.int .i64))), rI x32.2.fAt])] (jB hx32)<|sV (.ptr 224 0)<|sS 224 (.var [rI (rW ((rW (o12 + (1 : Int))) + x30.1)), rI x24.fTo, rI x24.cf.bj, rI x24.cf.bh, rI x24.aS.fX, rI x24.aS.fY, rI x24.aS.fZ, .d (.lst (x24.bi.bo.map aB.pd))])<|sV (.ptr 224 4) ?_
    refine sS 224 (.var [rI (rW ((rW (o12 + (1 : Int))) + x30.1)), rI x24.fTo, rI x24.cf.bj, rI x24.cf.bh, rI x31.1.fX, rI x31.1.fY, rI x31.1.fZ, .d (.lst (x24.bi.bo.map aB.pd))])<|sV (.ptr 224 7)<|sS 224 (.var [rI (rW ((rW (o12 + (1 : Int))) + x30.1)), rI x24.fTo, rI x24.cf.bj, rI x24.cf.bh, rI x31.1.fX, rI x31.1.fY, rI x31.1.fZ, .d (.lst (x32.1.bo.map aB.pd))])<|sN<|WC.region rfl rfl<|sV (.ptr 208 4)<|sL rfl<|sV (.d (.agg [.int .i64 (rW ((rW (o12 + (1 : Int))) + x30.1)), .int .i64 x24.fTo, .int .i64 x24.cf.bj, .int .i64 x24.cf.bh, .int .i64 x31.1.fX, .int .i64 x31.1.fY, .int .i64 x31.1.fZ, .lst (x32.1.bo.map aB.pd)]))<|sG (.d (.lst ([(al.mk (rW ((rW (o12 + (1 : Int))) + x30.1)) x24.fTo x24.cf x31.1 x32.1)].map al.pd)))<|bE h fun x33 hx33 h => aR hx33 (fun _ => rfl) rfl<|sV (.ptr 208 4)<|sS 208 (.var [rS x20.aH.aV, rS x20.aH.aL, rS x20.aH.ar, rS x20.aH.aX, .ref 880 2])<|sN<|WC.region rfl rfl ?_
    refine sV (.ptr 144 0)<|sL rfl<|sV (.agg [rS x20.aH.aV, rS x20.aH.aL, rS x20.aH.ar, rS x20.aH.aX, .ref 880 2])<|sB (.d (.lst [ap.pd (ap.mk x20.aH x33)])) 880 .dead<|bE h fun x34 hx34 h => aR hx34 (fun _ => rfl) rfl<|sV (.ptr 144 0)<|sS 144 (.var [.ref 1568 1])<|sN<|WC.region rfl rfl<|sV (rI (rW (s13 + (1 : Int))))<|sM rfl<|sN ?_
    cases oI h
    exact ⟨rfl, rfl⟩
   refine sN<|cF<|qK<|WC.region rfl rfl<|sV (.ptr 144 0)<|sL rfl<|sV (.agg [rS x20.aH.aV, rS x20.aH.aL, rS x20.aH.ar, rS x20.aH.aX, .ref 880 1])<|sB (.d (.lst [ap.pd (ap.mk x20.aH x21)])) 880 .dead<|bE h fun x35 hx35 h => aR hx35 (fun _ => rfl) rfl<|sV (.ptr 144 0)<|sS 144 (.var [.ref 1568 1])<|sN<|WC.region rfl rfl<|sV (rI (rW (s13 + (1 : Int)))) ?_
   refine sM rfl<|sN ?_
   cases oI h
   exact ⟨rfl, rfl⟩
  refine sN<|qS<|cF<|qX ?_
  cases oI h
  exact ⟨nofun, rfl, rfl⟩
 intro e R' B' he hq
 obtain ⟨rfl, hI⟩ := hq
 refine qE<|gS rfl hI<|sV (.d (.agg [.int .i64 x2.1.ag.ac.ak.fX, .int .i64 x2.1.ag.ac.ak.fY, .int .i64 x2.1.ag.ac.ak.fZ, .int .i64 x2.1.ag.ac.ae.fX, .int .i64 x2.1.ag.ac.ae.fY, .int .i64 x2.1.ag.ac.ae.fZ, .int .i64 x2.1.ag.az.aU, .lst (x2.1.ag.az.ak.map (PD.int .i64)), .lst (x2.1.ag.az.ae.map (PD.int .i64)), .int .i64 x2.1.ag.bG, .int .i64 x2.1.ag.bc, .int .i64 x2.1.ag.gJ, .int .i64 x2.1.ag.eR, .int .i64 x2.1.ag.eQ, .int .i64 x2.1.bn.aZ.aU, .lst (x2.1.bn.aZ.ak.map (PD.int .i64)), .lst (x2.1.bn.aZ.ae.map (PD.int .i64)), .int .i64 x2.1.bn.bj, .int .i64 x2.1.bn.bh, .int .i64 x2.1.bc]))<|sV (.d (.agg [.lst (x3.1.aO.map ap.pd)]))<|sM rfl<|bE h fun x38 hx38 h => cR (.tup [.d (aQ.pd x38.1), rI x38.2]) [] (cV hx38)<|sM rfl<|sV (.d (aQ.pd x38.1))<|sV (rI x38.2)<|sB (.ptr 240 0) 240 (.var zZ0)<|sH 240 (.var (aQ.rc x38.1))<|sA rfl<|sN<|gS rfl rfl ?_
 refine sV (.d (.agg [.int .i64 x2.1.ag.ac.ak.fX, .int .i64 x2.1.ag.ac.ak.fY, .int .i64 x2.1.ag.ac.ak.fZ, .int .i64 x2.1.ag.ac.ae.fX, .int .i64 x2.1.ag.ac.ae.fY, .int .i64 x2.1.ag.ac.ae.fZ, .int .i64 x2.1.ag.az.aU, .lst (x2.1.ag.az.ak.map (PD.int .i64)), .lst (x2.1.ag.az.ae.map (PD.int .i64)), .int .i64 x2.1.ag.bG, .int .i64 x2.1.ag.bc, .int .i64 x2.1.ag.gJ, .int .i64 x2.1.ag.eR, .int .i64 x2.1.ag.eQ, .int .i64 x2.1.bn.aZ.aU, .lst (x2.1.bn.aZ.ak.map (PD.int .i64)), .lst (x2.1.bn.aZ.ae.map (PD.int .i64)), .int .i64 x2.1.bn.bj, .int .i64 x2.1.bn.bh, .int .i64 x2.1.bc]))<|sV (.agg [.ref 1568 0])<|sM rfl<|bE h fun x39 hx39 h => cR (.tup [.d (aQ.pd x39.1), rI x39.2]) [(1568, .dead)] (cV hx39)<|sM rfl<|sV (.d (aQ.pd x39.1))<|sV (rI x39.2)<|sB (.ptr 272 0) 272 (.var zZ0)<|sH 272 (.var (aQ.rc x39.1))<|sA rfl<|sN<|gS rfl rfl<|sM rfl<|sM rfl ?_
 refine sF h (fun h => ?_) fun h => ?_
 ·refine sM rfl<|sV (.d (.agg [.lst (x38.1.fm.map aq.pd), .int .i64 x38.1.ar.aD.fX, .int .i64 x38.1.ar.aD.fY, .int .i64 x38.1.ar.aD.fZ, .int .i64 x38.1.ar.a8, .int .i64 x38.1.ar.aT, .int .i64 x38.1.ar.bd, .int .i64 x38.1.ar.au.ak.fX, .int .i64 x38.1.ar.au.ak.fY, .int .i64 x38.1.ar.au.ak.fZ, .int .i64 x38.1.ar.au.ae.fX, .int .i64 x38.1.ar.au.ae.fY, .int .i64 x38.1.ar.au.ae.fZ, .int .i64 x38.1.bL.ak, .int .i64 x38.1.bL.ae, .int .i64 x38.1.iu]))<|sV (.d (.agg [.lst (x39.1.fm.map aq.pd), .int .i64 x39.1.ar.aD.fX, .int .i64 x39.1.ar.aD.fY, .int .i64 x39.1.ar.aD.fZ, .int .i64 x39.1.ar.a8, .int .i64 x39.1.ar.aT, .int .i64 x39.1.ar.bd, .int .i64 x39.1.ar.au.ak.fX, .int .i64 x39.1.ar.au.ak.fY, .int .i64 x39.1.ar.au.ak.fZ, .int .i64 x39.1.ar.au.ae.fX, .int .i64 x39.1.ar.au.ae.fY, .int .i64 x39.1.ar.au.ae.fZ, .int .i64 x39.1.bL.ak, .int .i64 x39.1.bL.ae, .int .i64 x39.1.iu]))<|bE h fun x41 hx41 h => cD (lu hx41)<|sF h (fun h => ?_) fun h => ?_
  ·refine sM rfl<|bE h fun x43 hx43 h => cD (kD hx43)<|sV (rB x43)<|sA rfl<|sN<|qR ?_
   cases oI h
   exact qG
  refine sM rfl<|sK<|sU<|sA rfl<|sN<|qR ?_
  cases oI h
  exact qG
 refine sM rfl<|k3<|sU<|sM rfl<|sK<|sU<|sA rfl<|sN<|qR ?_
 cases oI h
 exact qG
end Go.Dw.So
