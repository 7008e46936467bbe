
import Derived.Test.YtkcfodpngpmlcaaGreatDaFn
import Derived.Test.YtkcfodpngpmlcaaGreatDwShort
import Derived.Test.YtkcfodpngpmlcaaGreatDwNest
import Derived.Test.YtkcfodpngpmlcaaGreatProg
import Derived.Test.YtkcfodpngpmlcaaGreatDwClone
import Derived.Test.YtkcfodpngpmlcaaGreatDwSort






set_option maxRecDepth 100000
set_option maxHeartbeats 4000000
namespace Go.Dw.Da
open Go.Proofs Go.Proofs.Tryz Go.Dw
@[reducible] def rW (n : Int) : Int := IntKind.wrap .i64 n
@[reducible] def rI (n : Int) : RV := .d (.int .i64 n)
@[reducible] def r0 : RV := .d (.int .i64 0)
@[reducible] def rS (s : List UInt8) : RV := .d (.str s)
@[reducible] def rB (b : Bool) : RV := .d (.bool b)
@[reducible] def aK.rc (x : aK) : List RV := [.d (.int .i64 x.av.aZ.bB.fX), .d (.int .i64 x.av.aZ.bB.fY), .d (.int .i64 x.av.aZ.bB.fZ), .d (.int .i64 x.av.aZ.bj.fX), .d (.int .i64 x.av.aZ.bj.fY), .d (.int .i64 x.av.aZ.bj.fZ), .d (.int .i64 x.av.bT.dj), .d (.lst (x.av.bT.bB.map (PD.int .i64))), .d (.lst (x.av.bT.bj.map (PD.int .i64))), .d (.int .i64 x.av.fCap), .d (.int .i64 x.av.eD), .d (.int .i64 x.av.fSpan), .d (.int .i64 x.av.fLimit), .d (.int .i64 x.av.fLeast), .d (.int .i64 x.hT.bL.dj), .d (.lst (x.hT.bL.bB.map (PD.int .i64))), .d (.lst (x.hT.bL.bj.map (PD.int .i64))), .d (.int .i64 x.hT.fNum), .d (.int .i64 x.hT.fDen), .d (.int .i64 x.eD)]
@[reducible] def aa.rc (x : aa) : List RV := [.d (.str x.ah.aj), .d (.str x.ah.ak), .d (.str x.ah.ai), .d (.str x.ah.ap), .d (.int .i64 x.aP), .d (.int .i64 x.aA), .d (.int .i64 x.aU), .d (.int .i64 x.aq), .d (.int .i64 x.aw)]
@[reducible] def aG.rc (x : aG) : List RV := [.d (.int .i64 x.ck), .d (.int .i64 x.fTo), .d (.int .i64 x.fRate.fNum), .d (.int .i64 x.fRate.fDen), .d (.int .i64 x.cu.fX), .d (.int .i64 x.cu.fY), .d (.int .i64 x.cu.fZ), .d (.lst (x.gD.fb.map aF.pd))]
@[reducible] def bo.rc (x : bo) : List RV := [.d (.int .i64 x.bB.fX), .d (.int .i64 x.bB.fY), .d (.int .i64 x.bB.fZ), .d (.int .i64 x.bj.fX), .d (.int .i64 x.bj.fY), .d (.int .i64 x.bj.fZ)]
@[reducible] def az.rc (x : az) : List RV := [.d (.str x.ah.aj), .d (.str x.ah.ak), .d (.str x.ah.ai), .d (.str x.ah.ap), .d (.lst (x.fa.map aG.pd))]
def hintAt : FuncId → Nat → Nat → List Ghost := fun f nb id =>
  if f = 3 then (if nb = 0 then (if id = 9 then [.own 8 1312 52, .keep [4, 5, 6, 8, 35, 36] [1312]] else if id = 14 then [.keep [4, 5, 6, 8, 9, 10, 35, 36] [1312]] else if id = 15 then [.keep [4, 5, 6, 8, 9, 10, 35, 36] [1312]] else if id = 17 then [.keep [4, 5, 6, 8, 9, 10, 35, 36, 53, 54, 55] [1312]] else if id = 20 then [.keep [4, 5, 6, 8, 9, 10, 12, 35, 36, 53, 54, 55, 62, 63, 64] [192, 1312]] else if id = 25 then [.keep [4, 5, 6, 8, 9, 10, 35, 36, 53, 54, 55] [1312]] else if id = 26 then [.keep [4, 5, 6, 8, 9, 35, 36] [1312]] else if id = 28 then [.keep [4, 8] [1312]] else []) else []) else if f = 9 then (if nb = 1 then (if id = 4 then [.own 9 2192 52, .keep [0, 5, 6, 9, 10, 11, 12] [0, 80, 96, 160, 2192]] else if id = 12 then [.keep [0, 5, 6, 9, 10, 11, 12, 13, 14, 16] [0, 80, 96, 160, 208, 224, 2192]] else if id = 14 then [.keep [0, 5, 6, 9, 10, 11, 12, 13, 16] [0, 80, 96, 160, 208, 2192]] else if id = 18 then [.keep [0, 5, 6, 9, 10, 11, 12, 13] [0, 80, 96, 160, 208, 2192]] else if id = 21 then [.keep [9] [0, 2192]] else []) else []) else if f = 11 then (if nb = 1 then (if id = 3 then [.ownp (.cell 80 0) 1104 99, .keep [0, 1, 4, 5, 6] [0, 64, 80, 1104]] else if id = 16 then [.keep [4, 5] [0, 64, 80, 1104]] else []) else []) else if f = 14 then (if nb = 0 then (if id = 3 then [.own 3 816 52, .keep [0, 3, 4] [816]] else if id = 6 then [.keep [0, 3, 4, 5] [816]] else if id = 8 then [.keep [0, 3, 4, 5] [816]] else if id = 9 then [.keep [0, 3, 4, 5] [816]] else if id = 12 then [.keep [3] [816]] else []) else []) else if f = 15 then (if nb = 0 then (if id = 4 then [.keep [0, 1, 5] []] else if id = 8 then [.keep [] []] else []) else []) else if f = 22 then (if nb = 0 then (if id = 4 then [.keep [0, 1, 5] []] else if id = 5 then [.keep [0, 1, 5] []] else if id = 9 then [.keep [0, 1, 5, 6] []] else if id = 13 then [.keep [] []] else []) else []) else if f = 23 then (if nb = 0 then (if id = 4 then [.own 4 384 50, .keep [3, 4, 11, 12, 13] [160, 384]] else if id = 10 then [.keep [3, 4] [160, 384]] else if id = 12 then [.frzm 160, .own 7 880 74, .keep [3, 7, 41, 42, 43] [160, 880]] else if id = 14 then [.frzm 160, .keep [3, 7, 9, 41, 42, 43] [144, 160, 880]] else if id = 16 then [.keep [7] [880]] else []) else []) else if f = 37 then (if nb = 0 then (if id = 2 then [.keep [2, 4, 6, 13, 14, 15] [64, 96]] else if id = 5 then [.keep [2, 4, 6, 9, 13, 14, 15, 20, 21, 22] [64, 96, 144]] else if id = 10 then [.keep [2, 4, 6, 13, 14, 15] [64, 96]] else if id = 11 then [.keep [6] [96]] else []) else []) else if f = 40 then (if nb = 1 then (if id = 3 then [.keep [2, 3, 16, 17] [0, 32, 48, 96, 97]] else if id = 7 then [.keep [2, 3] [0, 32, 48, 96, 97]] else []) else []) else if f = 42 then (if nb = 1 then (if id = 3 then [.ownp (.cell 48 0) 1040 137, .keep [0, 2, 3, 4] [0, 32, 48, 1040]] else if id = 13 then [.keep [2, 3] [0, 32, 48, 1040]] else []) else []) else if f = 44 then (if nb = 0 then (if id = 5 then [.give 624, .ownn (.reg 6) 624 25 52, .keep [0, 5, 6, 15, 16, 17] [192, 624]] else if id = 8 then [.give 624, .ownn (.reg 6) 624 25 52, .keep [0, 5, 6, 8, 15, 16, 17] [128, 192, 624]] else if id = 9 then [.lend 624 none 784] else if id = 11 then [.give 624, .keep [6] [624]] else if id = 12 then [.give 624, .keep [6, 55, 56, 57] [624]] else if id = 13 then [.lend 624 (some 57) 960] else if id = 16 then [.give 624, .frzn (.reg 6), .keep [6] []] else []) else []) else if f = 45 then (if nb = 0 then (if id = 5 then [.keep [41, 42] []] else []) else []) else if f = 52 then (if nb = 0 then (if id = 5 then [.own 4 816 76, .keep [4, 13, 14, 15] [144, 816]] else if id = 12 then [.keep [4] [816]] else []) else []) else if f = 78 then (if nb = 1 then (if id = 4 then [.ownp (.cell 48 1) 432 3, .ownp (.cell 48 2) 512 3, .keep [0, 2, 3, 4, 5, 6] [0, 32, 48, 432, 512]] else if id = 9 then [.keep [2, 3] [0, 32, 48, 432, 512]] else []) else []) else if f = 90 then (if nb = 1 then (if id = 4 then [.keep [0, 3] [0]] else if id = 9 then [.keep [0, 3, 4, 5] [0]] else if id = 14 then [.keep [0, 3] [0]] else if id = 16 then [.keep [0] [0]] else []) else []) else if f = 91 then (if nb = 1 then (if id = 3 then [.bumpp (.reg 0), .keep [0] [0]] else if id = 5 then [.keep [0, 1, 5, 6] [0]] else if id = 11 then [.keep [0, 5] [0]] else []) else []) else if f = 100 then (if nb = 0 then (if id = 2 then [.keep [0, 1, 7, 8] []] else if id = 7 then [.keep [] []] else []) else []) else if f = 122 then (if nb = 0 then (if id = 3 then [.keep [3, 6, 7, 8] []] else if id = 8 then [.keep [3] []] else []) else []) else if f = 124 then (if nb = 1 then (if id = 2 then [.bumpp (.reg 0), .keep [0] [0]] else if id = 4 then [.keep [0, 3] [0]] else if id = 9 then [.keep [0, 3, 4, 5] [0]] else if id = 14 then [.keep [0, 3] [0]] else if id = 16 then [.bumpp (.reg 0), .keep [0] [0]] else []) else []) else if f = 125 then (if nb = 1 then (if id = 2 then [.keep [0, 1, 2, 6, 7, 8] [0]] else if id = 6 then [.keep [0, 1, 2, 6, 7] [0]] else if id = 7 then [.keep [0, 1, 2, 6] [0]] else if id = 9 then [.keep [0, 1, 2, 6, 7, 8] [0]] else if id = 13 then [.keep [0, 1, 2, 6, 7] [0]] else []) else []) else if f = 128 then (if nb = 0 then (if id = 2 then [.keep [0, 1, 2, 9, 10] []] else if id = 7 then [.keep [0, 1, 2] []] else []) else []) else if f = 131 then (if nb = 1 then (if id = 2 then [.keep [0, 1, 7, 8] [0]] else if id = 7 then [.keep [] [0]] else []) else []) else if f = 147 then (if nb = 1 then (if id = 1 then [.keep [0, 1, 2, 3, 8] [0]] else if id = 2 then [.keep [0, 1, 2, 3, 8] [0]] else if id = 4 then [.keep [0, 1, 2, 3, 8, 9] [0]] else []) else []) else if f = 157 then (if nb = 1 then (if id = 3 then [.keep [0, 1, 4, 10, 11] [0]] else if id = 8 then [.keep [0, 1, 10] [0]] else if id = 9 then [.keep [0, 10, 13] [0]] else if id = 15 then [.keep [0, 2, 4, 14, 15] [0]] else if id = 20 then [.keep [0, 2, 14] [0]] else if id = 21 then [.keep [0, 14, 17] [0]] else if id = 32 then [.keep [0, 1, 2, 3, 4, 18, 19, 20, 21] [0]] else if id = 33 then [.keep [0, 1, 2, 3, 4, 18, 19, 20, 21, 22] [0]] else if id = 38 then [.keep [0, 1, 2, 3, 4, 18, 19, 20] [0]] else if id = 41 then [.keep [0, 1, 3, 4, 18, 20, 24] [0]] else if id = 43 then [.keep [0, 3, 4, 18, 24] [0]] else []) else []) else if f = 194 then (if nb = 1 then (if id = 2 then [.keep [0, 2, 4, 10, 11] [0]] else if id = 8 then [.keep [0, 2, 4, 10] [0]] else []) else []) else if f = 216 then (if nb = 1 then (if id = 1 then [.keep [0, 1, 2, 3, 10] [0]] else []) else []) else []
def au : Hints := { at_ := hintAt, mt := fun f i => (f == 11 && i == 28) || (f == 23 && i == 10) || (f == 44 && i == 38) || (f == 91 && i == 41) || (f == 124 && i == 59), by_ := fun f i => (f == 72 && i == 0) || (f == 81 && i == 0) || (f == 88 && i == 0) || (f == 90 && i == 0) || (f == 91 && i == 0) || (f == 95 && i == 0) || (f == 124 && i == 0) || (f == 125 && i == 0) || (f == 131 && i == 0) || (f == 147 && i == 0) || (f == 157 && i == 0) || (f == 194 && i == 0) || (f == 216 && i == 0), own := fun f i => (f == 78 && i == 0) || (f == 80 && i == 0) || (f == 87 && i == 0) || (f == 91 && i == 0) || (f == 92 && i == 0) || (f == 123 && i == 0) || (f == 124 && i == 0) }
theorem eqE_50 (a b : ae) : binT prog .eql 50 (.d a.pd) (.d b.pd) = some (.bool ((a.aj == b.aj) && ((a.ak == b.ak) && ((a.ai == b.ai) && ((a.ap == b.ap) && true)))), true) := by kernel_rfl
theorem eqN_50 (a b : ae) : binT prog .neq 50 (.d a.pd) (.d b.pd) = some (.bool (!((a.aj == b.aj) && ((a.ak == b.ak) && ((a.ai == b.ai) && ((a.ap == b.ap) && true))))), true) := by kernel_rfl
theorem eqE_52 (a b : aa) : binT prog .eql 52 (.d a.pd) (.d b.pd) = some (.bool (((a.ah.aj == b.ah.aj) && ((a.ah.ak == b.ah.ak) && ((a.ah.ai == b.ah.ai) && ((a.ah.ap == b.ah.ap) && true)))) && ((a.aP == b.aP) && ((a.aA == b.aA) && ((a.aU == b.aU) && ((a.aq == b.aq) && ((a.aw == b.aw) && true)))))), true) := by kernel_rfl
theorem eqN_52 (a b : aa) : binT prog .neq 52 (.d a.pd) (.d b.pd) = some (.bool (!(((a.ah.aj == b.ah.aj) && ((a.ah.ak == b.ah.ak) && ((a.ah.ai == b.ah.ai) && ((a.ah.ap == b.ah.ap) && true)))) && ((a.aP == b.aP) && ((a.aA == b.aA) && ((a.aU == b.aU) && ((a.aq == b.aq) && ((a.aw == b.aw) && true))))))), true) := by kernel_rfl
theorem eqN_76 (a b : ag) : binT prog .neq 76 (.d a.pd) (.d b.pd) = some (.bool (!((a.ck == b.ck) && ((a.fTo == b.fTo) && true))), true) := by kernel_rfl
theorem keyT_50 : KeyT prog 50 ae.pd iW := ⟨fun a b => by kernel_rfl, fun a => by kernel_rfl, fun a b h => by
  simp only [iW, Bool.and_eq_true, beq_iff_eq] at h
  simp [ae.pd, pdSame, pdSames, pdSame1, h]⟩

theorem T_api_Pick_inj : ∀ x y : aa, x.pd = y.pd → x = y := by
  rintro ⟨⟨z1, z2, z3, z4⟩, z5, z6, z7, z8, z9⟩ ⟨⟨z10, z11, z12, z13⟩, z14, z15, z16, z17, z18⟩ h
  cases h; rfl
theorem iZ : ∀ x y : ae, x.pd = y.pd → x = y := by
  rintro ⟨z1, z2, z3, z4⟩ ⟨z5, z6, z7, z8⟩ h
  cases h; rfl
theorem T_api_Span_inj : ∀ x y : ag, x.pd = y.pd → x = y := by
  rintro ⟨z1, z2⟩ ⟨z3, z4⟩ h
  cases h; rfl
def ext0 : FuncId → Option CallD := fun _ => none
theorem f9 {a0 : (List UInt8)} {r : Bool} (h : cU a0 = some r) : EvP prog au ext0 167 [rS a0] [] (rB r, []) := by
 refine Ev.body rfl Tryz.func167 rfl (by kernel_rfl)<|gS rfl rfl<|sU<|sN<|gS rfl rfl<|sM rfl<|sM rfl<|sV (rB (!(a0 == a0)))<|sA rfl<|sN<|qR ?_
 cases oI h
 exact qD
theorem dm {a0 : (List UInt8)} {a1 : (List UInt8)} {r : Int} (h : bn a0 a1 = some r) : EvP prog au ext0 130 [rS a0, rS a1] [] (rI r, []) := by
 refine Ev.body rfl Tryz.func130 rfl (by kernel_rfl)<|gS rfl rfl<|sV (r0)<|sN<|gS rfl rfl<|sM rfl<|bE h fun x1 hx1 h => cD (f9 hx1)<|sA rfl<|sN<|gS rfl rfl<|sM rfl<|bE h fun x2 hx2 h => cD (f9 hx2)<|sA rfl ?_
 refine sN<|qS<|gS rfl rfl<|sF h (fun h => ?_) fun h => ?_
 ·refine sN<|cT<|qS<|gS rfl rfl<|sF h (fun h => ?_) fun h => ?_
  ·refine sN<|cT<|gS rfl rfl<|sV (r0)<|sN<|qR ?_
   cases oI h
   exact qD
  refine sN<|cF<|qK<|gS rfl rfl<|sV (rI (-1))<|sN<|qR ?_
  cases oI h
  exact qD
 refine sN<|cF<|qK<|qS<|gS rfl rfl<|sF h (fun h => ?_) fun h => ?_
 ·refine sN<|cT<|gS rfl rfl<|sV (rI 1)<|sN<|qR ?_
  cases oI h
  exact qD
 refine sN<|cF<|qK<|qS<|gS rfl rfl<|sM rfl<|sM rfl<|sF h (fun h => ?_) fun h => ?_
 ·refine sN<|cT<|gS rfl rfl<|sV (rI (-1))<|sN<|qR ?_
  cases oI h
  exact qD
 refine sN<|cF<|qK<|qS<|gS rfl rfl<|sM rfl<|sM rfl<|sF h (fun h => ?_) fun h => ?_
 ·refine sN<|cT<|gS rfl rfl<|sV (rI 1)<|sN<|qR ?_
  cases oI h
  exact qD
 refine sN<|cF<|qK<|gS rfl rfl<|sV (r0)<|sN<|qR ?_
 cases oI h
 exact qD
theorem iE {a0 : (List Int)} {r : Int} (h : d7 a0 = some r) : EvP prog au ext0 122 [.d (.lst (a0.map (PD.int .i64)))] [] (rI r, []) := by
 refine Ev.body rfl Tryz.func122 rfl (by kernel_rfl)<|gS rfl rfl<|sV (r0)<|sN<|gS rfl rfl<|sV (r0)<|sN<|qS<|gS rfl rfl<|sM rfl<|sE (rI (a0.length : Int)) (lenMap _ _)<|sV (r0)<|sN<|bE h fun o7 ho7 h => WC.block (WC.loop (WL.ofLoop ho7 (fun s R' B' => ghosts prog 0 (A R' B') (au.at_ 122 0 3) = some (A [(3, r0), (6, .d (.lst (a0.map (PD.int .i64)))), (7, rI (a0.length : Int)), (8, rI s)] [])) (fun o e R' B' => match o with | .inl y => e = .exit 0 ∧ ghosts prog 0 (A R' B') (au.at_ 122 0 8) = some (A [(3, r0)] []) | .inr r => e = .ret ∧ finish prog (au.own 122) Tryz.f122 0 (A R' B') = some (rI r, [])) rfl ?_ ?_))
 ·rintro s1 R' B' q2 hI h
  refine gS rfl hI<|sF h (fun h => ?_) fun h => ?_
  ·refine sN<|qS<|cT<|qK<|qS<|qB<|gS rfl rfl<|bE h fun x4 hx4 h => eG hx4 rfl<|sC rfl<|sA rfl<|sN<|gS rfl rfl<|sM rfl<|sM rfl ?_
   refine sF h (fun h => ?_) fun h => ?_
   ·refine sN<|cT<|gS rfl rfl<|sM rfl<|sA rfl<|sN<|qR ?_
    cases oI h
    exact ⟨nofun, rfl, rfl⟩
   refine sN<|cF<|qK<|WC.region rfl rfl<|sV (rI (rW (s1 + (1 : Int))))<|sM rfl<|sN ?_
   cases oI h
   exact ⟨rfl, rfl⟩
  refine sN<|qS<|cF<|qX ?_
  cases oI h
  exact ⟨nofun, rfl, rfl⟩
 intro e R' B' he hq
 rcases o7 with y8 | r9
 ·obtain ⟨rfl, hI⟩ := hq
  refine qE<|gS rfl hI<|sM rfl<|sA rfl<|sN<|qR ?_
  cases oI h
  exact qD
 obtain ⟨rfl, hf⟩ := hq
 cases oI h
 exact hf
theorem gM {a0 : ae} {a1 : ae} {r : Int} (h : bi a0 a1 = some r) : EvP prog au ext0 89 [.d (ae.pd a0), .d (ae.pd a1)] [] (rI r, []) := by
 refine Ev.body rfl Tryz.func89 rfl (by kernel_rfl)<|gS rfl rfl<|sB (.ptr 32 0) 32 (.var [rS a0.aj, rS a0.ak, rS a0.ai, rS a0.ap])<|sB (.ptr 48 0) 48 (.var [rS a1.aj, rS a1.ak, rS a1.ai, rS a1.ap])<|sV (r0)<|sN<|WC.regionDSeq rfl rfl<|sV (.ptr 32 0)<|sL rfl<|sV (.ptr 48 0)<|sL rfl<|bE h fun x1 hx1 h => cD (dm hx1)<|sV (.ptr 32 1)<|sL rfl ?_
 refine sV (.ptr 48 1)<|sL rfl<|bE h fun x2 hx2 h => cD (dm hx2)<|sV (.ptr 32 2)<|sL rfl<|sV (.ptr 48 2)<|sL rfl<|bE h fun x3 hx3 h => cD (dm hx3)<|sV (.ptr 32 3)<|sL rfl<|sV (.ptr 48 3)<|sL rfl<|bE h fun x4 hx4 h => ?_
 refine cD (dm hx4)<|sV (.d (.lst ([x1, x2, x3, x4].map (PD.int .i64))))<|bE h fun x5 hx5 h => cD (iE hx5)<|sA rfl ?_
 refine sN<|sO<|qR ?_
 cases oI h
 exact qD
theorem gX {a0 : Int} {r : Bool} (h : dO a0 = some r) : EvP prog au ext0 126 [rI a0] [] (rB r, []) := by
 refine Ev.body rfl Tryz.func126 rfl (by kernel_rfl)<|gS rfl rfl<|sU<|sN<|gS rfl rfl<|sM rfl<|sM rfl<|sV (rB (a0 != a0))<|sA rfl<|sN<|qR ?_
 cases oI h
 exact qD
theorem cH {a0 : Int} {a1 : Int} {r : Int} (h : bh a0 a1 = some r) : EvP prog au ext0 83 [rI a0, rI a1] [] (rI r, []) := by
 refine Ev.body rfl Tryz.func83 rfl (by kernel_rfl)<|gS rfl rfl<|sV (r0)<|sN<|gS rfl rfl<|sM rfl<|bE h fun x1 hx1 h => cD (gX hx1)<|sA rfl<|sN<|gS rfl rfl<|sM rfl<|bE h fun x2 hx2 h => cD (gX hx2)<|sA rfl ?_
 refine sN<|qS<|gS rfl rfl<|sF h (fun h => ?_) fun h => ?_
 ·refine sN<|cT<|qS<|gS rfl rfl<|sF h (fun h => ?_) fun h => ?_
  ·refine sN<|cT<|gS rfl rfl<|sV (r0)<|sN<|qR ?_
   cases oI h
   exact qD
  refine sN<|cF<|qK<|gS rfl rfl<|sV (rI (-1))<|sN<|qR ?_
  cases oI h
  exact qD
 refine sN<|cF<|qK<|qS<|gS rfl rfl<|sF h (fun h => ?_) fun h => ?_
 ·refine sN<|cT<|gS rfl rfl<|sV (rI 1)<|sN<|qR ?_
  cases oI h
  exact qD
 refine sN<|cF<|qK<|qS<|gS rfl rfl<|sM rfl<|sM rfl<|sF h (fun h => ?_) fun h => ?_
 ·refine sN<|cT<|gS rfl rfl<|sV (rI (-1))<|sN<|qR ?_
  cases oI h
  exact qD
 refine sN<|cF<|qK<|qS<|gS rfl rfl<|sM rfl<|sM rfl<|sF h (fun h => ?_) fun h => ?_
 ·refine sN<|cT<|gS rfl rfl<|sV (rI 1)<|sN<|qR ?_
  cases oI h
  exact qD
 refine sN<|cF<|qK<|gS rfl rfl<|sV (r0)<|sN<|qR ?_
 cases oI h
 exact qD
theorem ja {a0 : aa} {a1 : aa} {r : Int} (h : aN a0 a1 = some r) : EvP prog au ext0 73 [.d (aa.pd a0), .d (aa.pd a1)] [] (rI r, []) := by
 refine Ev.body rfl Tryz.func73 rfl (by kernel_rfl)<|gS rfl rfl<|sB (.ptr 32 0) 32 (.var (aa.rc a0))<|sB (.ptr 48 0) 48 (.var (aa.rc a1))<|sV (r0)<|sN<|WC.regionDSeq rfl rfl<|sV (.ptr 32 0)<|sV (.d (ae.pd a0.ah))<|sV (.ptr 48 0)<|sV (.d (ae.pd a1.ah))<|bE h fun x1 hx1 h => cD (gM hx1)<|sV (.ptr 32 4)<|sL rfl ?_
 refine sV (.ptr 48 4)<|sL rfl<|bE h fun x2 hx2 h => cD (cH hx2)<|sV (.ptr 32 5)<|sL rfl<|sV (.ptr 48 5)<|sL rfl<|bE h fun x3 hx3 h => cD (cH hx3)<|sV (.ptr 32 6)<|sL rfl<|sV (.ptr 48 6)<|sL rfl<|bE h fun x4 hx4 h => ?_
 refine cD (cH hx4)<|sV (.ptr 32 7)<|sL rfl<|sV (.ptr 48 7)<|sL rfl<|bE h fun x5 hx5 h => cD (cH hx5)<|sV (.ptr 32 8)<|sL rfl<|sV (.ptr 48 8)<|sL rfl<|bE h fun x6 hx6 h => cD (cH hx6)<|sV (.d (.lst ([x1, x2, x3, x4, x5, x6].map (PD.int .i64))))<|bE h fun x7 hx7 h => ?_
 refine cD (iE hx7)<|sA rfl ?_
 refine sN<|sO<|qR ?_
 cases oI h
 exact qG
theorem iH {a0 : ag} {a1 : ag} {r : Int} (h : ba a0 a1 = some r) : EvP prog au ext0 96 [.d (ag.pd a0), .d (ag.pd a1)] [] (rI r, []) := by
 refine Ev.body rfl Tryz.func96 rfl (by kernel_rfl)<|gS rfl rfl<|sB (.ptr 32 0) 32 (.var [rI a0.ck, rI a0.fTo])<|sB (.ptr 48 0) 48 (.var [rI a1.ck, rI a1.fTo])<|sV (r0)<|sN<|gS rfl rfl<|sV (.ptr 32 0)<|sL rfl<|sV (.ptr 48 0)<|sL rfl<|bE h fun x1 hx1 h => cD (cH hx1)<|sA rfl<|sN ?_
 refine qR ?_
 cases oI h
 exact qD
noncomputable def ext : FuncId → Option CallD := fun f => if f = 72 then some (sortD 73 52 aa.pd aN) else if f = 88 then some (sortD 89 50 ae.pd bi) else if f = 95 then some (sortD 96 76 ag.pd ba) else if f = 123 then some (cloneD 52 9 104) else if f = 87 then some (cloneD 50 4 64) else if f = 92 then some (cloneD 76 2 16) else none
theorem sort_72_73 {l r : List aa} (h : sortO aN l = some r) : EvP prog au ext 72 [.ref 0 0, .d (.raw (.func (.func 73) #[] #[]))] [.arr 0 52 (l.map aa.pd)] (.tup [], [.arr 0 52 (r.map aa.pd)]) := sort_ev rfl (sortD_of T_api_Pick_inj h)
theorem sort_88_89 {l r : List ae} (h : sortO bi l = some r) : EvP prog au ext 88 [.ref 0 0, .d (.raw (.func (.func 89) #[] #[]))] [.arr 0 50 (l.map ae.pd)] (.tup [], [.arr 0 50 (r.map ae.pd)]) := sort_ev rfl (sortD_of iZ h)
theorem sort_95_96 {l r : List ag} (h : sortO ba l = some r) : EvP prog au ext 95 [.ref 0 0, .d (.raw (.func (.func 96) #[] #[]))] [.arr 0 76 (l.map ag.pd)] (.tup [], [.arr 0 76 (r.map ag.pd)]) := sort_ev rfl (sortD_of T_api_Span_inj h)
theorem clone_123 {l r : List aa} (h : cloneO 104 l = some r) : EvP prog au ext 123 [.d (.lst (l.map aa.pd))] [] (.ref 0 0, [.arr 0 52 (r.map aa.pd)]) := clone_ev (g := aa.pd) rfl (fun _ => rfl) h
theorem clone_87 {l r : List ae} (h : cloneO 64 l = some r) : EvP prog au ext 87 [.d (.lst (l.map ae.pd))] [] (.ref 0 0, [.arr 0 50 (r.map ae.pd)]) := clone_ev (g := ae.pd) rfl (fun _ => rfl) h
theorem clone_92 {l r : List ag} (h : cloneO 16 l = some r) : EvP prog au ext 92 [.d (.lst (l.map ag.pd))] [] (.ref 0 0, [.arr 0 76 (r.map ag.pd)]) := clone_ev (g := ag.pd) rfl (fun _ => rfl) h
theorem keep_New_ev {a0 : (List Int)} {r : ac} (h : ic a0 = some r) : EvP prog au ext 8 [.d (.lst (a0.map (PD.int .i64)))] [] (.ptr 0 0, [.var [.d (.lst (r.fL.map (PD.int .i64))), rI r.fAt]]) := by
 refine Ev.body rfl Tryz.func8 rfl (by kernel_rfl)<|gS rfl rfl<|sV (.d (.raw (.pointer none)))<|sN<|gS rfl rfl<|sM rfl<|sM rfl<|sE (rI (a0.length : Int)) (lenMap _ _)<|sV (rI (if (2000 : Int) < (a0.length : Int) then (2000 : Int) else (a0.length : Int)))<|bE h fun x1 hx1 h => WO.cutL (sz := 1) (g := (PD.int .i64)) hx1 (fun _ => rfl) rfl rfl rfl rfl rfl rfl rfl rfl rfl rfl rfl<|sV (.d (ac.pd (ac.mk x1 0)))<|sB (.ptr 144 0) 144 (.var [.d (.lst (x1.map (PD.int .i64))), r0])<|sA rfl<|sN ?_
 refine qR ?_
 cases oI h
 exact qD
theorem Src_Raw_ev {d0 : ac} {r : Int × ac} (h : iK d0 = some r) : EvP prog au ext 76 [.ptr 0 0] [.var [.d (.lst (d0.fL.map (PD.int .i64))), rI d0.fAt]] (rI r.1, [.var [.d (.lst (r.2.fL.map (PD.int .i64))), rI r.2.fAt]]) := by
 refine Ev.body rfl Tryz.func76 rfl (by kernel_rfl)<|gS rfl rfl<|sV (r0)<|sN<|qS<|WC.regionDSeq rfl rfl<|sM rfl<|sV (.ptr 0 0)<|sV (.ptr 0 1)<|sL rfl<|sM rfl<|sV (.ptr 0 0)<|sV (.ptr 0 0)<|sL rfl<|sE (rI (d0.fL.length : Int)) (lenMap _ _) ?_
 refine sF h (fun h => ?_) fun h => ?_
 ·refine sN<|sO<|cT<|gS rfl rfl<|sV (r0)<|sN<|qR ?_
  cases oI h
  exact qD
 refine sN<|sO<|cF<|qK<|gS rfl rfl<|sM rfl<|sV (.ptr 0 0)<|sV (.ptr 0 1)<|sL rfl<|sV (rI (rW (d0.fAt + (1 : Int))))<|sV (.ptr 0 0)<|sV (.ptr 0 1)<|sS 0 (.var [.d (.lst (d0.fL.map (PD.int .i64))), rI (rW (d0.fAt + (1 : Int)))])<|sN<|WC.regionDSeq rfl rfl<|sM rfl ?_
 refine sV (.ptr 0 0)<|sV (.ptr 0 0)<|sL rfl<|sM rfl<|sV (.ptr 0 0)<|sV (.ptr 0 1)<|sL rfl<|sV (rI (rW ((rW (d0.fAt + (1 : Int))) - (1 : Int))))<|bE h fun x2 hx2 h => eG hx2 rfl<|sC rfl<|sA rfl ?_
 refine sN<|sO<|qR ?_
 cases oI h
 exact qD
theorem keep_Mod_ev {a0 : Int} {a1 : Int} {r : Int} (h : gF a0 a1 = some r) : EvP prog au ext 75 [rI a0, rI a1] [] (rI r, []) := by
 refine Ev.body rfl Tryz.func75 rfl (by kernel_rfl)<|gS rfl rfl<|sV (r0)<|sN<|qS<|gS rfl rfl<|sM rfl<|sF h (fun h => ?_) fun h => ?_
 ·refine sN<|cT<|gS rfl rfl<|sV (r0)<|sN<|qR ?_
  cases oI h
  exact qD
 refine sN<|cF<|qK<|gS rfl rfl<|sM rfl<|sM rfl<|bE h fun x2 hx2 h => WO.remG hx2 rfl rfl rfl rfl rfl rfl<|sA rfl<|sN<|qS<|gS rfl rfl<|sM rfl<|sF h (fun h => ?_) fun h => ?_
 ·refine sN<|cT<|WC.region rfl rfl<|sM rfl<|sM rfl<|sV (rI (rW (x2 + a1)))<|sA rfl<|sN<|gS rfl rfl<|sM rfl<|sA rfl<|sN<|qR ?_
  cases oI h
  exact qD
 refine sN<|cF<|qK<|gS rfl rfl<|sM rfl<|sA rfl<|sN<|qR ?_
 cases oI h
 exact qD
theorem aT {a1 : Int} {d0 : ac} {r : Int × ac} (h : cr a1 d0 = some r) : EvP prog au ext 35 [.ptr 0 0, rI a1] [.var [.d (.lst (d0.fL.map (PD.int .i64))), rI d0.fAt]] (rI r.1, [.var [.d (.lst (r.2.fL.map (PD.int .i64))), rI r.2.fAt]]) := by
 refine Ev.body rfl Tryz.func35 rfl (by kernel_rfl)<|gS rfl rfl<|sV (r0)<|sN<|gS rfl rfl<|sM rfl<|bE h fun x1 hx1 h => cR (rI x1.1) [(0, .var [.d (.lst (x1.2.fL.map (PD.int .i64))), rI x1.2.fAt])] (Src_Raw_ev hx1)<|sM rfl<|bE h fun x2 hx2 h => cD (keep_Mod_ev hx2)<|sA rfl<|sN<|qR ?_
 cases oI h
 exact qD
theorem ij {a1 : Int} {d0 : ac} {r : al × ac} (h : fk a1 d0 = some r) : EvP prog au ext 41 [.ptr 0 0, rI a1] [.var [.d (.lst (d0.fL.map (PD.int .i64))), rI d0.fAt]] (.d (al.pd r.1), [.var [.d (.lst (r.2.fL.map (PD.int .i64))), rI r.2.fAt]]) := by
 refine Ev.body rfl Tryz.func41 rfl (by kernel_rfl)<|gS rfl rfl<|sB (.ptr 64 0) 64 (.var [r0, r0, r0])<|sN<|gS rfl rfl<|sM rfl<|sM rfl<|sV (rI (rW ((2 : Int) * a1)))<|sV (rI (rW ((rW ((2 : Int) * a1)) + (1 : Int))))<|bE h fun x1 hx1 h => cR (rI x1.1) [(0, .var [.d (.lst (x1.2.fL.map (PD.int .i64))), rI x1.2.fAt])] (aT hx1)<|sM rfl<|sV (rI (rW (x1.1 - a1)))<|sM rfl<|sM rfl ?_
 refine sV (rI (rW ((2 : Int) * a1)))<|sV (rI (rW ((rW ((2 : Int) * a1)) + (1 : Int))))<|bE h fun x2 hx2 h => cR (rI x2.1) [(0, .var [.d (.lst (x2.2.fL.map (PD.int .i64))), rI x2.2.fAt])] (aT hx2)<|sM rfl<|sV (rI (rW (x2.1 - a1)))<|sM rfl<|sM rfl<|sV (rI (rW (a1 + (1 : Int))))<|bE h fun x3 hx3 h => cR (rI x3.1) [(0, .var [.d (.lst (x3.2.fL.map (PD.int .i64))), rI x3.2.fAt])] (aT hx3)<|sV (.d (al.pd (al.mk (rW (x1.1 - a1)) (rW (x2.1 - a1)) x3.1)))<|sS 64 (.var [rI (rW (x1.1 - a1)), rI (rW (x2.1 - a1)), rI x3.1])<|sN<|qR ?_
 cases oI h
 exact qD
theorem Src_Box_ev {a1 : Int} {a2 : Int} {d0 : ac} {r : bo × ac} (h : iJ a1 a2 d0 = some r) : EvP prog au ext 77 [.ptr 0 0, rI a1, rI a2] [.var [.d (.lst (d0.fL.map (PD.int .i64))), rI d0.fAt]] (.d (bo.pd r.1), [.var [.d (.lst (r.2.fL.map (PD.int .i64))), rI r.2.fAt]]) := by
 refine Ev.body rfl Tryz.func77 rfl (by kernel_rfl)<|gS rfl rfl<|sB (.ptr 96 0) 96 (.var [r0, r0, r0, r0, r0, r0])<|sN<|gS rfl rfl<|sM rfl<|sM rfl<|bE h fun x1 hx1 h => cR (.d (al.pd x1.1)) [(0, .var [.d (.lst (x1.2.fL.map (PD.int .i64))), rI x1.2.fAt])] (ij hx1)<|sB (.ptr 112 0) 112 (.var [r0, r0, r0])<|sS 112 (.var [rI x1.1.fX, rI x1.1.fY, rI x1.1.fZ])<|sN<|WC.regionDSeq rfl rfl<|sV (.d (al.pd x1.1))<|sV (.ptr 112 0) ?_
 refine sL rfl<|sM rfl<|sM rfl<|sV (rI (rW (a2 + (1 : Int))))<|bE h fun x2 hx2 h => cR (rI x2.1) [(0, .var [.d (.lst (x2.2.fL.map (PD.int .i64))), rI x2.2.fAt])] (aT hx2)<|sV (rI (rW (x1.1.fX + x2.1)))<|sV (.ptr 112 1)<|sL rfl<|sM rfl<|sM rfl<|sV (rI (rW (a2 + (1 : Int))))<|bE h fun x3 hx3 h => cR (rI x3.1) [(0, .var [.d (.lst (x3.2.fL.map (PD.int .i64))), rI x3.2.fAt])] (aT hx3)<|sV (rI (rW (x1.1.fY + x3.1))) ?_
 refine sV (.ptr 112 2)<|sL rfl<|sM rfl<|sM rfl<|sV (rI (rW (a2 + (1 : Int))))<|bE h fun x4 hx4 h => cR (rI x4.1) [(0, .var [.d (.lst (x4.2.fL.map (PD.int .i64))), rI x4.2.fAt])] (aT hx4)<|sV (rI (rW (x1.1.fZ + x4.1)))<|sV (.d (al.pd (al.mk (rW (x1.1.fX + x2.1)) (rW (x1.1.fY + x3.1)) (rW (x1.1.fZ + x4.1)))))<|sG (.d (bo.pd (bo.mk x1.1 (al.mk (rW (x1.1.fX + x2.1)) (rW (x1.1.fY + x3.1)) (rW (x1.1.fZ + x4.1))))))<|sH 96 (.var [rI x1.1.fX, rI x1.1.fY, rI x1.1.fZ, rI (rW (x1.1.fX + x2.1)), rI (rW (x1.1.fY + x3.1)), rI (rW (x1.1.fZ + x4.1))]) ?_
 refine sN<|sO<|qR ?_
 cases oI h
 exact qG
theorem cJ {a1 : (List Int)} {d0 : ac} {r : Int × ac} (h : c9 a1 d0 = some r) : EvP prog au ext 12 [.ptr 0 0, .d (.lst (a1.map (PD.int .i64)))] [.var [.d (.lst (d0.fL.map (PD.int .i64))), rI d0.fAt]] (rI r.1, [.var [.d (.lst (r.2.fL.map (PD.int .i64))), rI r.2.fAt]]) := by
 refine Ev.body rfl Tryz.func12 rfl (by kernel_rfl)<|gS rfl rfl<|sV (r0)<|sN<|gS rfl rfl<|sM rfl<|sM rfl<|sM rfl<|sE (rI (a1.length : Int)) (lenMap _ _)<|bE h fun x1 hx1 h => cR (rI x1.1) [(0, .var [.d (.lst (x1.2.fL.map (PD.int .i64))), rI x1.2.fAt])] (aT hx1)<|bE h fun x2 hx2 h => eG hx2 rfl<|sC rfl<|sA rfl ?_
 refine sN<|qR ?_
 cases oI h
 exact qD
theorem jh {d0 : ac} {r : bK × ac} (h : fJ d0 = some r) : EvP prog au ext 78 [.ptr 0 0] [.var [.d (.lst (d0.fL.map (PD.int .i64))), rI d0.fAt]] (.agg [rI r.1.dj, .ref 1 0, .ref 2 0], [.var [.d (.lst (r.2.fL.map (PD.int .i64))), rI r.2.fAt], .arr 0 3 (r.1.bB.map (PD.int .i64)), .arr 0 3 (r.1.bj.map (PD.int .i64))]) := by
 refine Ev.body rfl Tryz.func78 rfl (by kernel_rfl)<|gS rfl rfl<|sB (.ptr 32 0) 32 (.var [r0, .nils, .nils])<|sN<|gS rfl rfl<|sM rfl<|sV (.d (.lst ([20, 25, 40, 100].map (PD.int .i64))))<|bE h fun x1 hx1 h => cR (rI x1.1) [(0, .var [.d (.lst (x1.2.fL.map (PD.int .i64))), rI x1.2.fAt])] (cJ hx1)<|sV (.agg [rI x1.1, .nils, .nils])<|sB (.ptr 48 0) 48 (.var [r0, .nils, .nils])<|sS 48 (.var [rI x1.1, .nils, .nils])<|sN<|gS rfl rfl<|sM rfl ?_
 refine bE h fun x2 hx2 h => cR (rI x2.1) [(0, .var [.d (.lst (x2.2.fL.map (PD.int .i64))), rI x2.2.fAt])] (aT hx2)<|sV (r0)<|sA rfl<|sN<|qS<|gS rfl rfl<|sV (r0)<|sN<|bE h fun o24 ho24 h => WC.block (WC.loop (WL.ofLoop ho24 (fun s R' B' => ghosts prog 1 (A R' B') (au.at_ 78 1 4) = some (A [(0, .ptr 0 0), (2, .ptr 32 0), (3, .ptr 48 0), (4, rI s.1), (5, rI s.2.1), (6, rI s.2.2.1)] [(0, .var [.d (.lst (s.2.2.2.1.map (PD.int .i64))), rI s.2.2.2.2.1]), (32, .var [r0, .nils, .nils]), (48, .var [rI x1.1, .ref 432 0, .ref 512 0]), (432, .arr 0 3 (s.2.2.2.2.2.1.map (PD.int .i64))), (512, .arr 0 3 (s.2.2.2.2.2.2.map (PD.int .i64)))])) (fun o e R' B' => e = .exit 0 ∧ ghosts prog 1 (A R' B') (au.at_ 78 1 9) = some (A [(2, .ptr 32 0), (3, .ptr 48 0)] [(0, .var [.d (.lst (o.1.map (PD.int .i64))), rI o.2.1]), (32, .var [r0, .nils, .nils]), (48, .var [rI x1.1, .ref 432 0, .ref 512 0]), (432, .arr 0 3 (o.2.2.1.map (PD.int .i64))), (512, .arr 0 3 (o.2.2.2.map (PD.int .i64)))])) rfl ?_ ?_))
 ·rintro ⟨s3, s4, s5, s6, s7, s8, s9⟩ R' B' q14 hI h
  refine qS<|WC.regionDSeq hI rfl<|sM rfl<|sV (.ptr 48 0)<|sL rfl<|bE h fun x15 hx15 h => WO.quoG hx15 rfl rfl rfl rfl rfl rfl<|sM rfl<|bE h fun x16 hx16 h => cR (rI x16.1) [(0, .var [.d (.lst (x16.2.fL.map (PD.int .i64))), rI x16.2.fAt])] (aT hx16)<|sV (rI (rW (x15 + x16.1)))<|sF h (fun h => ?_) fun h => ?_
  ·refine sN<|sO<|cT<|qK<|qS<|qB<|WC.regionDSeq rfl rfl<|sV (.ptr 48 1)<|sL rfl<|sM rfl<|sV (.d (.lst ([s3].map (PD.int .i64))))<|bE h fun x18 hx18 h => aR hx18 (fun _ => rfl) rfl<|sV (.ptr 48 2)<|sL rfl<|sM rfl ?_
   refine sV (.d (.lst ([s4].map (PD.int .i64))))<|bE h fun x19 hx19 h => aR hx19 (fun _ => rfl) rfl<|sV (.ptr 48 1)<|sS 48 (.var [rI x1.1, .ref 432 1, .ref 512 0])<|sV (.ptr 48 2)<|sS 48 (.var [rI x1.1, .ref 432 1, .ref 512 1]) ?_
   refine sN<|sO<|WC.regionDSeq rfl rfl<|sM rfl<|sM rfl<|sV (.d (.lst ([0, 10, 20, 35].map (PD.int .i64))))<|bE h fun x20 hx20 h => cR (rI x20.1) [(0, .var [.d (.lst (x20.2.fL.map (PD.int .i64))), rI x20.2.fAt])] (cJ hx20)<|sV (.ptr 48 0)<|sL rfl<|bE h fun x21 hx21 h => WO.quoG hx21 rfl rfl rfl rfl rfl rfl<|sV (rI (rW (x20.1 + x21)))<|sV (rI (rW (s3 + (rW (x20.1 + x21)))))<|sA rfl ?_
   refine sN<|sO<|WC.region rfl rfl<|sM rfl<|sM rfl<|sV (rI (if (rW (s3 + (rW (x20.1 + x21)))) > s4 then (rW (s3 + (rW (x20.1 + x21)))) else s4))<|sM rfl<|sV (.d (.lst ([0, 0, 5, 30].map (PD.int .i64))))<|bE h fun x22 hx22 h => cR (rI x22.1) [(0, .var [.d (.lst (x22.2.fL.map (PD.int .i64))), rI x22.2.fAt])] (cJ hx22)<|sV (rI (rW ((if (rW (s3 + (rW (x20.1 + x21)))) > s4 then (rW (s3 + (rW (x20.1 + x21)))) else s4) + x22.1)))<|sA rfl<|sN<|WC.region rfl rfl<|sM rfl<|sV (rI (rW (s5 + (1 : Int)))) ?_
   refine sA rfl<|sN ?_
   cases oI h
   exact ⟨rfl, rfl⟩
  refine sN<|sO<|cF<|qX ?_
  cases oI h
  exact ⟨nofun, rfl, rfl⟩
 intro e R' B' he hq
 obtain ⟨rfl, hI⟩ := hq
 refine qE<|gS rfl hI<|sV (.agg [rI x1.1, .ref 432 0, .ref 512 0])<|sS 32 (.var [rI x1.1, .ref 432 0, .ref 512 0])<|sN<|qR ?_
 cases oI h
 exact qD
theorem iX {a1 : Int} {d0 : ac} {r : br × ac} (h : dI a1 d0 = some r) : EvP prog au ext 39 [.ptr 0 0, rI a1] [.var [.d (.lst (d0.fL.map (PD.int .i64))), rI d0.fAt]] (.d (br.pd r.1), [.var [.d (.lst (r.2.fL.map (PD.int .i64))), rI r.2.fAt]]) := by
 refine Ev.body rfl Tryz.func39 rfl (by kernel_rfl)<|gS rfl rfl<|sB (.ptr 64 0) 64 (.var [r0, r0, r0, r0, r0, r0, r0, .nils, .nils, r0, r0, r0, r0, r0])<|sN<|gS rfl rfl<|sM rfl<|sM rfl<|bE h fun x1 hx1 h => cR (.d (bo.pd x1.1)) [(0, .var [.d (.lst (x1.2.fL.map (PD.int .i64))), rI x1.2.fAt])] (Src_Box_ev hx1)<|sM rfl<|bE h fun x2 hx2 h => cR (.agg [rI x2.1.dj, .ref 144 0, .ref 145 0]) [(0, .var [.d (.lst (x2.2.fL.map (PD.int .i64))), rI x2.2.fAt]), (144, .arr 0 3 (x2.1.bB.map (PD.int .i64))), (145, .arr 0 3 (x2.1.bj.map (PD.int .i64)))] (jh hx2)<|sM rfl<|sV (.d (.lst ([10, 50, 200].map (PD.int .i64))))<|bE h fun x3 hx3 h => ?_
 refine cR (rI x3.1) [(0, .var [.d (.lst (x3.2.fL.map (PD.int .i64))), rI x3.2.fAt])] (cJ hx3)<|sM rfl<|sV (.d (.lst ([0, 0, 10, 40].map (PD.int .i64))))<|bE h fun x4 hx4 h => cR (rI x4.1) [(0, .var [.d (.lst (x4.2.fL.map (PD.int .i64))), rI x4.2.fAt])] (cJ hx4)<|sM rfl<|sV (.d (.lst ([0, 50, 200, 400].map (PD.int .i64))))<|bE h fun x5 hx5 h => cR (rI x5.1) [(0, .var [.d (.lst (x5.2.fL.map (PD.int .i64))), rI x5.2.fAt])] (cJ hx5)<|sM rfl<|sV (.d (.lst ([0, 5, 20].map (PD.int .i64))))<|bE h fun x6 hx6 h => cR (rI x6.1) [(0, .var [.d (.lst (x6.2.fL.map (PD.int .i64))), rI x6.2.fAt])] (cJ hx6)<|sM rfl<|bE h fun x7 hx7 h => ?_
 refine cR (rI x7.1) [(0, .var [.d (.lst (x7.2.fL.map (PD.int .i64))), rI x7.2.fAt])] (aT hx7)<|sV (rI (rW ((2 : Int) + x7.1)))<|sG (.agg [rI x1.1.bB.fX, rI x1.1.bB.fY, rI x1.1.bB.fZ, rI x1.1.bj.fX, rI x1.1.bj.fY, rI x1.1.bj.fZ, rI x2.1.dj, .ref 144 0, .ref 145 0, rI x3.1, rI x4.1, rI x5.1, rI x6.1, rI (rW ((2 : Int) + x7.1))])<|sH 64 (.var [rI x1.1.bB.fX, rI x1.1.bB.fY, rI x1.1.bB.fZ, rI x1.1.bj.fX, rI x1.1.bj.fY, rI x1.1.bj.fZ, rI x2.1.dj, .ref 144 0, .ref 145 0, rI x3.1, rI x4.1, rI x5.1, rI x6.1, rI (rW ((2 : Int) + x7.1))])<|sN<|qR ?_
 cases oI h
 exact qG
theorem Src_Scale_ev {d0 : ac} {r : dx × ac} (h : gB d0 = some r) : EvP prog au ext 40 [.ptr 0 0] [.var [.d (.lst (d0.fL.map (PD.int .i64))), rI d0.fAt]] (.d (dx.pd r.1), [.var [.d (.lst (r.2.fL.map (PD.int .i64))), rI r.2.fAt]]) := by
 refine Ev.body rfl Tryz.func40 rfl (by kernel_rfl)<|gS rfl rfl<|sB (.ptr 32 0) 32 (.var [r0, .nils, .nils, r0, r0])<|sN<|gS rfl rfl<|sM rfl<|bE h fun x1 hx1 h => cR (.agg [rI x1.1.dj, .ref 96 0, .ref 97 0]) [(0, .var [.d (.lst (x1.2.fL.map (PD.int .i64))), rI x1.2.fAt]), (96, .arr 0 3 (x1.1.bB.map (PD.int .i64))), (97, .arr 0 3 (x1.1.bj.map (PD.int .i64)))] (jh hx1)<|sM rfl<|bE h fun x2 hx2 h => cR (rI x2.1) [(0, .var [.d (.lst (x2.2.fL.map (PD.int .i64))), rI x2.2.fAt])] (aT hx2)<|sM rfl<|bE h fun x3 hx3 h => cR (rI x3.1) [(0, .var [.d (.lst (x3.2.fL.map (PD.int .i64))), rI x3.2.fAt])] (aT hx3)<|sV (rI (rW ((1 : Int) + x3.1))) ?_
 refine sV (.agg [rI x1.1.dj, .ref 96 0, .ref 97 0, rI x2.1, rI (rW ((1 : Int) + x3.1))])<|sB (.ptr 48 0) 48 (.var [r0, .nils, .nils, r0, r0])<|sS 48 (.var [rI x1.1.dj, .ref 96 0, .ref 97 0, rI x2.1, rI (rW ((1 : Int) + x3.1))])<|sN<|qS<|gS rfl rfl<|sV (.ptr 48 0)<|sV (.ptr 48 1)<|sL rfl<|WO.lenR rfl rfl rfl rfl rfl rfl rfl rfl rfl<|sV (r0)<|sN<|bE h fun o26 ho26 h => WC.block (WC.loop (WL.ofLoop ho26 (fun s R' B' => ghosts prog 1 (A R' B') (au.at_ 40 1 3) = some (A [(2, .ptr 32 0), (3, .ptr 48 0), (16, rI (x1.1.bB.length : Int)), (17, rI s.1)] [(0, .var [.d (.lst (x3.2.fL.map (PD.int .i64))), rI x3.2.fAt]), (32, .var [r0, .nils, .nils, r0, r0]), (48, .var [rI x1.1.dj, .ref 96 0, .ref 97 0, rI x2.1, rI (rW ((1 : Int) + x3.1))]), (96, .arr 0 3 (s.2.1.map (PD.int .i64))), (97, .arr 0 3 (s.2.2.map (PD.int .i64)))])) (fun o e R' B' => e = .exit 0 ∧ ghosts prog 1 (A R' B') (au.at_ 40 1 7) = some (A [(2, .ptr 32 0), (3, .ptr 48 0)] [(0, .var [.d (.lst (x3.2.fL.map (PD.int .i64))), rI x3.2.fAt]), (32, .var [r0, .nils, .nils, r0, r0]), (48, .var [rI x1.1.dj, .ref 96 0, .ref 97 0, rI x2.1, rI (rW ((1 : Int) + x3.1))]), (96, .arr 0 3 (o.1.map (PD.int .i64))), (97, .arr 0 3 (o.2.map (PD.int .i64)))])) rfl ?_ ?_))
 ·rintro ⟨s4, s5, s6⟩ R' B' q9 hI h
  refine gS rfl hI<|sF h (fun h => ?_) fun h => ?_
  ·refine sN<|qS<|cT<|qK<|qS<|qB<|gS rfl rfl<|sM rfl<|sA rfl<|sN<|WC.regionD rfl rfl<|sV (.ptr 48 0)<|sV (.ptr 48 1)<|sL rfl<|sM rfl ?_
   refine sV (.ptr 48 0)<|sV (.ptr 48 2)<|sL rfl<|sM rfl<|sV (.ptr 48 0)<|sV (.ptr 48 1)<|sL rfl<|sM rfl<|bE h fun x12 hx12 h => WO.eltG hx12 rfl rfl rfl rfl rfl rfl rfl rfl<|bE h fun x13 hx13 h => WO.loadE hx13 rfl rfl rfl rfl rfl rfl<|bE h fun x14 hx14 h => WO.quoG hx14 rfl rfl rfl rfl rfl rfl<|sV (.ptr 48 0) ?_
   refine sV (.ptr 48 2)<|sL rfl<|sM rfl<|bE h fun x16 hx16 h => WO.eltG hx16 rfl rfl rfl rfl rfl rfl rfl rfl<|bE h fun x17 hx17 h => WO.loadE hx17 rfl rfl rfl rfl rfl rfl<|bE h fun x18 hx18 h => WO.quoG hx18 rfl rfl rfl rfl rfl rfl<|bE h fun x20 hx20 h => WO.eltG hx20 rfl rfl rfl rfl rfl rfl rfl rfl<|bE h fun x21 hx21 h => WO.storeE (g := (PD.int .i64)) (sz := 1) (p := .int .i64 x14) hx21 (fun _ => rfl) (fun _ => rfl) rfl rfl rfl rfl rfl rfl rfl rfl rfl<|bE h fun x23 hx23 h => WO.eltG hx23 rfl rfl rfl rfl rfl rfl rfl rfl ?_
   refine bE h fun x24 hx24 h => WO.storeE (g := (PD.int .i64)) (sz := 1) (p := .int .i64 x18) hx24 (fun _ => rfl) (fun _ => rfl) rfl rfl rfl rfl rfl rfl rfl rfl rfl ?_
   refine sN<|sO<|WC.region rfl rfl<|sV (rI (rW (s4 + (1 : Int))))<|sM rfl<|sN ?_
   cases oI h
   exact ⟨rfl, rfl⟩
  refine sN<|qS<|cF<|qX ?_
  cases oI h
  exact ⟨nofun, rfl, rfl⟩
 intro e R' B' he hq
 obtain ⟨rfl, hI⟩ := hq
 refine qE<|gS rfl hI<|sV (.agg [rI x1.1.dj, .ref 96 0, .ref 97 0, rI x2.1, rI (rW ((1 : Int) + x3.1))])<|sS 32 (.var [rI x1.1.dj, .ref 96 0, .ref 97 0, rI x2.1, rI (rW ((1 : Int) + x3.1))])<|sN<|qR ?_
 cases oI h
 exact qD
theorem Src_Settings_ev {a1 : Int} {d0 : ac} {r : aK × ac} (h : eJ a1 d0 = some r) : EvP prog au ext 10 [.ptr 0 0, rI a1] [.var [.d (.lst (d0.fL.map (PD.int .i64))), rI d0.fAt]] (.d (aK.pd r.1), [.var [.d (.lst (r.2.fL.map (PD.int .i64))), rI r.2.fAt]]) := by
 refine Ev.body rfl Tryz.func10 rfl (by kernel_rfl)<|gS rfl rfl<|sB (.ptr 64 0) 64 (.var [r0, r0, r0, r0, r0, r0, r0, .nils, .nils, r0, r0, r0, r0, r0, r0, .nils, .nils, r0, r0, r0])<|sN<|gS rfl rfl<|sM rfl<|sM rfl<|bE h fun x1 hx1 h => cR (.d (br.pd x1.1)) [(0, .var [.d (.lst (x1.2.fL.map (PD.int .i64))), rI x1.2.fAt])] (iX hx1)<|sM rfl<|bE h fun x2 hx2 h => cR (.d (dx.pd x2.1)) [(0, .var [.d (.lst (x2.2.fL.map (PD.int .i64))), rI x2.2.fAt])] (Src_Scale_ev hx2)<|sM rfl<|sV (.d (.lst ([0, 0, 10, 40].map (PD.int .i64))))<|bE h fun x3 hx3 h => ?_
 refine cR (rI x3.1) [(0, .var [.d (.lst (x3.2.fL.map (PD.int .i64))), rI x3.2.fAt])] (cJ hx3)<|sG (.d (.agg [.int .i64 x1.1.aZ.bB.fX, .int .i64 x1.1.aZ.bB.fY, .int .i64 x1.1.aZ.bB.fZ, .int .i64 x1.1.aZ.bj.fX, .int .i64 x1.1.aZ.bj.fY, .int .i64 x1.1.aZ.bj.fZ, .int .i64 x1.1.bT.dj, .lst (x1.1.bT.bB.map (PD.int .i64)), .lst (x1.1.bT.bj.map (PD.int .i64)), .int .i64 x1.1.fCap, .int .i64 x1.1.eD, .int .i64 x1.1.fSpan, .int .i64 x1.1.fLimit, .int .i64 x1.1.fLeast, .int .i64 x2.1.bL.dj, .lst (x2.1.bL.bB.map (PD.int .i64)), .lst (x2.1.bL.bj.map (PD.int .i64)), .int .i64 x2.1.fNum, .int .i64 x2.1.fDen, .int .i64 x3.1]))<|sH 64 (.var [rI x1.1.aZ.bB.fX, rI x1.1.aZ.bB.fY, rI x1.1.aZ.bB.fZ, rI x1.1.aZ.bj.fX, rI x1.1.aZ.bj.fY, rI x1.1.aZ.bj.fZ, rI x1.1.bT.dj, .d (.lst (x1.1.bT.bB.map (PD.int .i64))), .d (.lst (x1.1.bT.bj.map (PD.int .i64))), rI x1.1.fCap, rI x1.1.eD, rI x1.1.fSpan, rI x1.1.fLimit, rI x1.1.fLeast, rI x2.1.bL.dj, .d (.lst (x2.1.bL.bB.map (PD.int .i64))), .d (.lst (x2.1.bL.bj.map (PD.int .i64))), rI x2.1.fNum, rI x2.1.fDen, rI x3.1])<|sN<|qR ?_
 cases oI h
 exact qG
theorem ir {d0 : ac} {r : bJ × ac} (h : dZ d0 = some r) : EvP prog au ext 42 [.ptr 0 0] [.var [.d (.lst (d0.fL.map (PD.int .i64))), rI d0.fAt]] (.d (bJ.pd r.1), [.var [.d (.lst (r.2.fL.map (PD.int .i64))), rI r.2.fAt]]) := by
 refine Ev.body rfl Tryz.func42 rfl (by kernel_rfl)<|gS rfl rfl<|sB (.ptr 32 0) 32 (.var [.nils])<|sN<|gS rfl rfl<|sB (.ptr 48 0) 48 (.var [.nils])<|sN<|qS<|gS rfl rfl<|sM rfl<|bE h fun x1 hx1 h => cR (rI x1.1) [(0, .var [.d (.lst (x1.2.fL.map (PD.int .i64))), rI x1.2.fAt])] (aT hx1)<|sA rfl<|sN<|bE h fun o28 ho28 h => ?_
 refine WC.block (WC.loop (WL.ofLoop ho28 (fun s R' B' => ghosts prog 1 (A R' B') (au.at_ 42 1 3) = some (A [(0, .ptr 0 0), (2, .ptr 32 0), (3, .ptr 48 0), (4, rI s.1)] [(0, .var [.d (.lst (s.2.1.map (PD.int .i64))), rI s.2.2.1]), (32, .var [.nils]), (48, .var [.ref 1040 0]), (1040, .arr 0 137 (s.2.2.2.map aF.pd))])) (fun o e R' B' => e = .exit 0 ∧ ghosts prog 1 (A R' B') (au.at_ 42 1 13) = some (A [(2, .ptr 32 0), (3, .ptr 48 0)] [(0, .var [.d (.lst (o.1.map (PD.int .i64))), rI o.2.1]), (32, .var [.nils]), (48, .var [.ref 1040 0]), (1040, .arr 0 137 (o.2.2.map aF.pd))])) rfl ?_ ?_))
 ·rintro ⟨s2, s3, s4, s5⟩ R' B' q9 hI h
  refine qS<|gS rfl hI<|sM rfl<|sF h (fun h => ?_) fun h => ?_
  ·refine sN<|cT<|qK<|qS<|qB<|gS rfl rfl<|sM rfl<|bE h fun x11 hx11 h => cR (rI x11.1) [(0, .var [.d (.lst (x11.2.fL.map (PD.int .i64))), rI x11.2.fAt])] (aT hx11)<|sG (.agg [rI x11.1, r0, r0, r0, r0, r0, r0, .nils, r0, r0])<|sB (.ptr 80 0) 80 (.var [r0, r0, r0, r0, r0, r0, r0, .nils, r0, r0])<|sH 80 (.var [rI x11.1, r0, r0, r0, r0, r0, r0, .nils, r0, r0])<|sN<|qS<|gS rfl rfl ?_
   refine sV (.ptr 80 0)<|sL rfl<|sN<|qB<|gS rfl rfl<|sF h (fun h => ?_) fun h => ?_
   ·refine sA rfl<|sN<|cT<|WC.region rfl rfl<|sM rfl<|sV (.d (.lst ([0, 1, 9, 99, 1048575].map (PD.int .i64))))<|bE h fun x13 hx13 h => cR (rI x13.1) [(0, .var [.d (.lst (x13.2.fL.map (PD.int .i64))), rI x13.2.fAt])] (cJ hx13)<|sV (rI (rW ((1 : Int) + x13.1)))<|sM rfl<|sV (.d (.lst ([0, 0, 2, 9, 999].map (PD.int .i64))))<|bE h fun x14 hx14 h => cR (rI x14.1) [(0, .var [.d (.lst (x14.2.fL.map (PD.int .i64))), rI x14.2.fAt])] (cJ hx14)<|sV (rI (rW ((1 : Int) + x14.1)))<|sV (.ptr 80 1) ?_
    refine sV (.ptr 80 1)<|sS 80 (.var [rI x11.1, rI (rW ((1 : Int) + x13.1)), r0, r0, r0, r0, r0, .nils, r0, r0])<|sV (.ptr 80 4)<|sV (.ptr 80 4)<|sS 80 (.var [rI x11.1, rI (rW ((1 : Int) + x13.1)), r0, r0, rI (rW ((1 : Int) + x14.1)), r0, r0, .nils, r0, r0])<|sN<|WC.region rfl rfl<|sV (.ptr 48 0)<|sL rfl<|sV (.agg [rI x11.1, rI (rW ((1 : Int) + x13.1)), r0, r0, rI (rW ((1 : Int) + x14.1)), r0, r0, .nils, r0, r0])<|sG (.d (.lst ([(aF.mk x11.1 (c8.mk (rW ((1 : Int) + x13.1)) 0 0) (c8.mk (rW ((1 : Int) + x14.1)) 0 0) [] 0 0)].map aF.pd)))<|bE h fun x15 hx15 h => aR hx15 (fun _ => rfl) rfl<|sV (.ptr 48 0)<|sS 48 (.var [.ref 1040 1]) ?_
    refine sN<|WC.region rfl rfl<|sM rfl<|sV (rI (rW (s2 - (1 : Int))))<|sA rfl<|sN ?_
    cases oI h
    exact ⟨rfl, rfl⟩
   refine sA rfl<|sN<|cF<|gS rfl rfl<|sF h (fun h => ?_) fun h => ?_
   ·refine sA rfl<|sN<|cT<|WC.region rfl rfl<|sM rfl<|bE h fun x17 hx17 h => cR (rI x17.1) [(0, .var [.d (.lst (x17.2.fL.map (PD.int .i64))), rI x17.2.fAt])] (aT hx17)<|sM rfl<|bE h fun x18 hx18 h => cR (rI x18.1) [(0, .var [.d (.lst (x18.2.fL.map (PD.int .i64))), rI x18.2.fAt])] (aT hx18)<|sV (rI (rW (x18.1 - (3 : Int))))<|sM rfl<|bE h fun x19 hx19 h => cR (rI x19.1) [(0, .var [.d (.lst (x19.2.fL.map (PD.int .i64))), rI x19.2.fAt])] (aT hx19)<|sV (rI (rW (x19.1 - (1 : Int)))) ?_
    refine sV (.d (c8.pd (c8.mk x17.1 (rW (x18.1 - (3 : Int))) (rW (x19.1 - (1 : Int))))))<|sM rfl<|bE h fun x20 hx20 h => cR (rI x20.1) [(0, .var [.d (.lst (x20.2.fL.map (PD.int .i64))), rI x20.2.fAt])] (aT hx20)<|sV (rI (rW ((1 : Int) + x20.1)))<|sM rfl<|bE h fun x21 hx21 h => cR (rI x21.1) [(0, .var [.d (.lst (x21.2.fL.map (PD.int .i64))), rI x21.2.fAt])] (aT hx21)<|sM rfl<|bE h fun x22 hx22 h => cR (rI x22.1) [(0, .var [.d (.lst (x22.2.fL.map (PD.int .i64))), rI x22.2.fAt])] (aT hx22)<|sV (.d (c8.pd (c8.mk (rW ((1 : Int) + x20.1)) x21.1 x22.1)))<|sV (.ptr 80 1)<|sS 80 (.var [rI x11.1, rI x17.1, rI (rW (x18.1 - (3 : Int))), rI (rW (x19.1 - (1 : Int))), r0, r0, r0, .nils, r0, r0])<|sV (.ptr 80 4) ?_
    refine sS 80 (.var [rI x11.1, rI x17.1, rI (rW (x18.1 - (3 : Int))), rI (rW (x19.1 - (1 : Int))), rI (rW ((1 : Int) + x20.1)), rI x21.1, rI x22.1, .nils, r0, r0])<|sN<|WC.region rfl rfl<|sV (.ptr 48 0)<|sL rfl<|sV (.agg [rI x11.1, rI x17.1, rI (rW (x18.1 - (3 : Int))), rI (rW (x19.1 - (1 : Int))), rI (rW ((1 : Int) + x20.1)), rI x21.1, rI x22.1, .nils, r0, r0])<|sG (.d (.lst ([(aF.mk x11.1 (c8.mk x17.1 (rW (x18.1 - (3 : Int))) (rW (x19.1 - (1 : Int)))) (c8.mk (rW ((1 : Int) + x20.1)) x21.1 x22.1) [] 0 0)].map aF.pd)))<|bE h fun x23 hx23 h => aR hx23 (fun _ => rfl) rfl<|sV (.ptr 48 0)<|sS 48 (.var [.ref 1040 1])<|sN<|WC.region rfl rfl<|sM rfl<|sV (rI (rW (s2 - (1 : Int)))) ?_
    refine sA rfl<|sN ?_
    cases oI h
    exact ⟨rfl, rfl⟩
   refine sA rfl<|sN<|cF<|WC.region rfl rfl<|sM rfl<|bE h fun x24 hx24 h => cR (rI x24.1) [(0, .var [.d (.lst (x24.2.fL.map (PD.int .i64))), rI x24.2.fAt])] (aT hx24)<|sV (rI (rW ((1 : Int) + x24.1)))<|sV (.d (.lst ([(rW ((1 : Int) + x24.1)), 2, 1].map (PD.int .i64))))<|sM rfl<|bE h fun x25 hx25 h => cR (rI x25.1) [(0, .var [.d (.lst (x25.2.fL.map (PD.int .i64))), rI x25.2.fAt])] (aT hx25)<|sV (.ptr 80 7)<|sS 80 (.var [rI x11.1, r0, r0, r0, r0, r0, r0, .d (.lst ([(rW ((1 : Int) + x24.1)), 2, 1].map (PD.int .i64))), r0, r0])<|sV (.ptr 80 8) ?_
   refine sS 80 (.var [rI x11.1, r0, r0, r0, r0, r0, r0, .d (.lst ([(rW ((1 : Int) + x24.1)), 2, 1].map (PD.int .i64))), rI 1, r0])<|sV (.ptr 80 9)<|sS 80 (.var [rI x11.1, r0, r0, r0, r0, r0, r0, .d (.lst ([(rW ((1 : Int) + x24.1)), 2, 1].map (PD.int .i64))), rI 1, rI x25.1])<|sN<|WC.region rfl rfl<|sV (.ptr 48 0)<|sL rfl<|sV (.d (.agg [.int .i64 x11.1, .int .i64 0, .int .i64 0, .int .i64 0, .int .i64 0, .int .i64 0, .int .i64 0, .lst ([(rW ((1 : Int) + x24.1)), 2, 1].map (PD.int .i64)), .int .i64 1, .int .i64 x25.1]))<|sG (.d (.lst ([(aF.mk x11.1 (c8.mk 0 0 0) (c8.mk 0 0 0) [(rW ((1 : Int) + x24.1)), 2, 1] 1 x25.1)].map aF.pd)))<|bE h fun x26 hx26 h => aR hx26 (fun _ => rfl) rfl<|sV (.ptr 48 0)<|sS 48 (.var [.ref 1040 1])<|sN<|WC.region rfl rfl ?_
   refine sM rfl<|sV (rI (rW (s2 - (1 : Int))))<|sA rfl<|sN ?_
   cases oI h
   exact ⟨rfl, rfl⟩
  refine sN<|cF<|qX ?_
  cases oI h
  exact ⟨nofun, rfl, rfl⟩
 intro e R' B' he hq
 obtain ⟨rfl, hI⟩ := hq
 refine qE<|gS rfl hI<|sV (.agg [.ref 1040 0])<|sS 32 (.var [.ref 1040 0])<|sN<|qR ?_
 cases oI h
 exact qD
theorem fx {a0 : Int} {r : ae} (h : da a0 = some r) : EvP prog au ext 36 [rI a0] [] (.d (ae.pd r), []) := by
 refine Ev.body rfl Tryz.func36 rfl (by kernel_rfl)<|gS rfl rfl<|sB (.ptr 32 0) 32 (.var [rS [], rS [], rS [], rS []])<|sN<|gS rfl rfl<|sV (.d (.lst ([[83, 49], [83, 50], [83, 51], [83, 52], [83, 53], [83, 54]].map PD.str)))<|sM rfl<|bE h fun x1 hx1 h => cD (keep_Mod_ev hx1)<|bE h fun x2 hx2 h => eG hx2 rfl<|sC rfl<|sV (.d (ae.pd (ae.mk [65, 66] x2 [48, 48] [66, 72, 90])))<|sS 32 (.var [rS [65, 66], rS x2, rS [48, 48], rS [66, 72, 90]])<|sN ?_
 refine qR ?_
 cases oI h
 exact qD
theorem Src_Sites_ev {a1 : Int} {d0 : ac} {r : aC × ac} (h : gC a1 d0 = some r) : EvP prog au ext 11 [.ptr 0 0, rI a1] [.var [.d (.lst (d0.fL.map (PD.int .i64))), rI d0.fAt]] (.d (aC.pd r.1), [.var [.d (.lst (r.2.fL.map (PD.int .i64))), rI r.2.fAt]]) := by
 refine Ev.body rfl Tryz.func11 rfl (by kernel_rfl)<|gS rfl rfl<|sB (.ptr 64 0) 64 (.var [.nils])<|sN<|gS rfl rfl<|sB (.ptr 80 0) 80 (.var [.nils])<|sN<|qS<|gS rfl rfl<|sV (r0)<|sN<|bE h fun o34 ho34 h => WC.block (WC.loop (WL.ofLoop ho34 (fun s R' B' => ghosts prog 1 (A R' B') (au.at_ 11 1 3) = some (A [(0, .ptr 0 0), (1, rI a1), (4, .ptr 64 0), (5, .ptr 80 0), (6, rI s.1)] [(0, .var [.d (.lst (s.2.1.map (PD.int .i64))), rI s.2.2.1]), (64, .var [.nils]), (80, .var [.ref 1104 0]), (1104, .arr 0 99 (s.2.2.2.map az.pd))])) (fun o e R' B' => e = .exit 0 ∧ ghosts prog 1 (A R' B') (au.at_ 11 1 16) = some (A [(4, .ptr 64 0), (5, .ptr 80 0)] [(0, .var [.d (.lst (o.1.map (PD.int .i64))), rI o.2.1]), (64, .var [.nils]), (80, .var [.ref 1104 0]), (1104, .arr 0 99 (o.2.2.map az.pd))])) rfl ?_ ?_))
 ·rintro ⟨s1, s2, s3, s4⟩ R' B' q8 hI h
  refine qS<|gS rfl hI<|sM rfl<|sM rfl<|sF h (fun h => ?_) fun h => ?_
  ·refine sM rfl<|sM rfl<|sV (rB (decide (s1 < (6 : Int))))<|sF h (fun h => ?_) fun h => ?_
   ·refine sN<|cT<|qK<|qS<|qB<|gS rfl rfl<|sV (.d (bp.pd (bp.mk 100 1)))<|sM rfl<|bE h fun x11 hx11 h => cR (.d (al.pd x11.1)) [(0, .var [.d (.lst (x11.2.fL.map (PD.int .i64))), rI x11.2.fAt])] (ij hx11)<|sM rfl<|bE h fun x12 hx12 h => cR (.d (bJ.pd x12.1)) [(0, .var [.d (.lst (x12.2.fL.map (PD.int .i64))), rI x12.2.fAt])] (ir hx12)<|sG (.d (.agg [.int .i64 0, .int .i64 100000, .int .i64 100, .int .i64 1, .int .i64 x11.1.fX, .int .i64 x11.1.fY, .int .i64 x11.1.fZ, .lst (x12.1.fb.map aF.pd)]))<|sB (.ptr 112 0) 112 (.var [r0, r0, r0, r0, r0, r0, r0, .nils]) ?_
    refine sH 112 (.var [r0, rI 100000, rI 100, rI 1, rI x11.1.fX, rI x11.1.fY, rI x11.1.fZ, .d (.lst (x12.1.fb.map aF.pd))])<|sN<|WC.regionDSeq rfl rfl<|sM rfl<|bE h fun x13 hx13 h => cD (fx hx13)<|sV (.d (.agg [.int .i64 0, .int .i64 100000, .int .i64 100, .int .i64 1, .int .i64 x11.1.fX, .int .i64 x11.1.fY, .int .i64 x11.1.fZ, .lst (x12.1.fb.map aF.pd)]))<|sB (.ref 448 0) 448 (.arr 0 96 ([(aG.mk 0 100000 (bp.mk 100 1) x11.1 x12.1)].map aG.pd))<|sV (.agg [rS x13.aj, rS x13.ak, rS x13.ai, rS x13.ap, .ref 448 0])<|sB (.ptr 128 0) 128 (.var [rS [], rS [], rS [], rS [], .nils])<|sS 128 (.var [rS x13.aj, rS x13.ak, rS x13.ai, rS x13.ap, .ref 448 0]) ?_
    refine sN<|sO<|qS<|gS rfl rfl<|sM rfl<|bE h fun x14 hx14 h => cR (rI x14.1) [(0, .var [.d (.lst (x14.2.fL.map (PD.int .i64))), rI x14.2.fAt])] (aT hx14)<|sN<|qB<|gS rfl rfl<|sF h (fun h => ?_) fun h => ?_
    ·refine sA rfl<|sN<|cT<|gS rfl rfl<|sV (.d (.agg [.int .i64 0, .int .i64 100000, .int .i64 100, .int .i64 1, .int .i64 x11.1.fX, .int .i64 x11.1.fY, .int .i64 x11.1.fZ, .lst (x12.1.fb.map aF.pd)]))<|sB (.ptr 144 0) 144 (.var [r0, r0, r0, r0, r0, r0, r0, .nils])<|sH 144 (.var [r0, rI 100000, rI 100, rI 1, rI x11.1.fX, rI x11.1.fY, rI x11.1.fZ, .d (.lst (x12.1.fb.map aF.pd))])<|sN<|gS rfl rfl<|sM rfl<|bE h fun x16 hx16 h => cR (rI x16.1) [(0, .var [.d (.lst (x16.2.fL.map (PD.int .i64))), rI x16.2.fAt])] (aT hx16)<|sV (rI (rW ((1500 : Int) + x16.1)))<|sM rfl<|bE h fun x17 hx17 h => ?_
     refine cR (.d (al.pd x17.1)) [(0, .var [.d (.lst (x17.2.fL.map (PD.int .i64))), rI x17.2.fAt])] (ij hx17)<|sM rfl<|bE h fun x18 hx18 h => cR (.d (bJ.pd x18.1)) [(0, .var [.d (.lst (x18.2.fL.map (PD.int .i64))), rI x18.2.fAt])] (ir hx18)<|sV (.ptr 144 0)<|sS 144 (.var [rI (rW ((1500 : Int) + x16.1)), rI 100000, rI 100, rI 1, rI x11.1.fX, rI x11.1.fY, rI x11.1.fZ, .d (.lst (x12.1.fb.map aF.pd))])<|sV (.ptr 144 4)<|sS 144 (.var [rI (rW ((1500 : Int) + x16.1)), rI 100000, rI 100, rI 1, rI x17.1.fX, rI x17.1.fY, rI x17.1.fZ, .d (.lst (x12.1.fb.map aF.pd))])<|sV (.ptr 144 7)<|sS 144 (.var [rI (rW ((1500 : Int) + x16.1)), rI 100000, rI 100, rI 1, rI x17.1.fX, rI x17.1.fY, rI x17.1.fZ, .d (.lst (x18.1.fb.map aF.pd))])<|sN<|gS rfl rfl<|sV (.ptr 128 4)<|sL rfl<|sV (.ptr 144 0) ?_
     refine sL rfl<|bE h fun x20 hx20 h => WO.eltG hx20 rfl rfl rfl rfl rfl rfl rfl rfl<|sV (.elt 448 0 ((0 : Int)).toNat 1)<|bE h fun x21 hx21 h => WO.storeF (g := aG.pd) (u := []) (sz := 1) hx21 (fun _ => rfl) (fun _ => Nat.le_of_ble_eq_true rfl) rfl rfl rfl rfl rfl rfl rfl rfl rfl rfl rfl<|sN<|WC.region rfl rfl<|sV (.ptr 128 4)<|sL rfl<|sV (.d (.agg [.int .i64 (rW ((1500 : Int) + x16.1)), .int .i64 100000, .int .i64 100, .int .i64 1, .int .i64 x17.1.fX, .int .i64 x17.1.fY, .int .i64 x17.1.fZ, .lst (x18.1.fb.map aF.pd)]))<|sG (.d (.lst ([(aG.mk (rW ((1500 : Int) + x16.1)) 100000 (bp.mk 100 1) x17.1 x18.1)].map aG.pd)))<|bE h fun x23 hx23 h => aR hx23 (fun _ => rfl) rfl<|sV (.ptr 128 4) ?_
     refine sS 128 (.var [rS x13.aj, rS x13.ak, rS x13.ai, rS x13.ap, .ref 448 1])<|sN<|WC.region rfl rfl<|sV (.ptr 80 0)<|sL rfl<|sV (.agg [rS x13.aj, rS x13.ak, rS x13.ai, rS x13.ap, .ref 448 1])<|sB (.d (.lst [az.pd (az.mk x13 x23)])) 448 .dead<|bE h fun x24 hx24 h => aR hx24 (fun _ => rfl) rfl<|sV (.ptr 80 0)<|sS 80 (.var [.ref 1104 1])<|sN<|WC.region rfl rfl<|sM rfl<|sV (rI (rW (s1 + (1 : Int)))) ?_
     refine sA rfl<|sN ?_
     cases oI h
     exact ⟨rfl, rfl⟩
    refine sA rfl<|sN<|cF<|gS rfl rfl<|sF h (fun h => ?_) fun h => ?_
    ·refine sA rfl<|sN<|cT<|WC.regionD rfl rfl<|sV (.ptr 128 4)<|sL rfl<|sM rfl<|bE h fun x26 hx26 h => cR (rI x26.1) [(0, .var [.d (.lst (x26.2.fL.map (PD.int .i64))), rI x26.2.fAt])] (aT hx26)<|bE h fun x28 hx28 h => WO.eltG hx28 rfl rfl rfl rfl rfl rfl rfl rfl<|sV (.elt 448 0 ((0 : Int)).toNat 0)<|bE h fun x29 hx29 h => WO.storeF (g := aG.pd) (u := []) (sz := 1) hx29 (fun _ => rfl) (fun _ => Nat.le_of_ble_eq_true rfl) rfl rfl rfl rfl rfl rfl rfl rfl rfl rfl rfl ?_
     refine sN<|sO<|WC.region rfl rfl<|sV (.ptr 80 0)<|sL rfl<|sV (.agg [rS x13.aj, rS x13.ak, rS x13.ai, rS x13.ap, .ref 448 0])<|sB (.d (.lst [az.pd (az.mk x13 x29)])) 448 .dead<|bE h fun x31 hx31 h => aR hx31 (fun _ => rfl) rfl<|sV (.ptr 80 0)<|sS 80 (.var [.ref 1104 1])<|sN<|WC.region rfl rfl<|sM rfl<|sV (rI (rW (s1 + (1 : Int))))<|sA rfl ?_
     refine sN ?_
     cases oI h
     exact ⟨rfl, rfl⟩
    refine sA rfl<|sN<|cF<|qK<|WC.region rfl rfl<|sV (.ptr 80 0)<|sL rfl<|sV (.agg [rS x13.aj, rS x13.ak, rS x13.ai, rS x13.ap, .ref 448 0])<|sB (.d (.lst [az.pd (az.mk x13 [(aG.mk 0 100000 (bp.mk 100 1) x11.1 x12.1)])])) 448 .dead<|bE h fun x32 hx32 h => aR hx32 (fun _ => rfl) rfl<|sV (.ptr 80 0)<|sS 80 (.var [.ref 1104 1])<|sN<|WC.region rfl rfl ?_
    refine sM rfl<|sV (rI (rW (s1 + (1 : Int))))<|sA rfl<|sN ?_
    cases oI h
    exact ⟨rfl, rfl⟩
   refine sN<|cF<|qX ?_
   cases oI h
   exact ⟨nofun, rfl, rfl⟩
  refine sM rfl<|sK<|sK<|sU<|sN<|cF<|qX ?_
  cases oI h
  exact ⟨nofun, rfl, rfl⟩
 intro e R' B' he hq
 obtain ⟨rfl, hI⟩ := hq
 refine qE<|gS rfl hI<|sV (.agg [.ref 1104 0])<|sS 64 (.var [.ref 1104 0])<|sN<|qR ?_
 cases oI h
 exact qD
theorem ik {a1 : Int} {a2 : Int} {d0 : ac} {r : Int × ac} (h : fm a1 a2 d0 = some r) : EvP prog au ext 74 [.ptr 0 0, rI a1, rI a2] [.var [.d (.lst (d0.fL.map (PD.int .i64))), rI d0.fAt]] (rI r.1, [.var [.d (.lst (r.2.fL.map (PD.int .i64))), rI r.2.fAt]]) := by
 refine Ev.body rfl Tryz.func74 rfl (by kernel_rfl)<|gS rfl rfl<|sV (r0)<|sN<|gS rfl rfl<|sM rfl<|sM rfl<|sM rfl<|sM rfl<|sV (rI (rW (a2 - a1)))<|sV (rI (rW ((rW (a2 - a1)) + (1 : Int))))<|bE h fun x1 hx1 h => cR (rI x1.1) [(0, .var [.d (.lst (x1.2.fL.map (PD.int .i64))), rI x1.2.fAt])] (aT hx1)<|sV (rI (rW (a1 + x1.1)))<|sA rfl ?_
 refine sN<|qR ?_
 cases oI h
 exact qD
theorem jf {a1 : bo} {d0 : ac} {r : al × ac} (h : fI a1 d0 = some r) : EvP prog au ext 34 [.ptr 0 0, .d (bo.pd a1)] [.var [.d (.lst (d0.fL.map (PD.int .i64))), rI d0.fAt]] (.d (al.pd r.1), [.var [.d (.lst (r.2.fL.map (PD.int .i64))), rI r.2.fAt]]) := by
 refine Ev.body rfl Tryz.func34 rfl (by kernel_rfl)<|gS rfl rfl<|sB (.ptr 48 0) 48 (.var (bo.rc a1))<|sB (.ptr 64 0) 64 (.var [r0, r0, r0])<|sN<|WC.regionDSeq rfl rfl<|sM rfl<|sV (.ptr 48 0)<|sV (.ptr 48 0)<|sL rfl<|sV (.ptr 48 3)<|sV (.ptr 48 3)<|sL rfl<|bE h fun x1 hx1 h => cR (rI x1.1) [(0, .var [.d (.lst (x1.2.fL.map (PD.int .i64))), rI x1.2.fAt])] (ik hx1) ?_
 refine sM rfl<|sV (.ptr 48 0)<|sV (.ptr 48 1)<|sL rfl<|sV (.ptr 48 3)<|sV (.ptr 48 4)<|sL rfl<|bE h fun x2 hx2 h => cR (rI x2.1) [(0, .var [.d (.lst (x2.2.fL.map (PD.int .i64))), rI x2.2.fAt])] (ik hx2)<|sM rfl<|sV (.ptr 48 0)<|sV (.ptr 48 2)<|sL rfl<|sV (.ptr 48 3)<|sV (.ptr 48 5) ?_
 refine sL rfl<|bE h fun x3 hx3 h => cR (rI x3.1) [(0, .var [.d (.lst (x3.2.fL.map (PD.int .i64))), rI x3.2.fAt])] (ik hx3)<|sV (.d (al.pd (al.mk x1.1 x2.1 x3.1)))<|sS 64 (.var [rI x1.1, rI x2.1, rI x3.1]) ?_
 refine sN<|sO<|qR ?_
 cases oI h
 exact qD
theorem keep_place_ev {a0 : aC} {a1 : ae} {a2 : Int} {r : al × Bool} (h : fK a0 a1 a2 = some r) : EvP prog au ext 37 [.d (aC.pd a0), .d (ae.pd a1), rI a2] [] (.tup [.d (al.pd r.1), rB r.2], []) := by
 refine Ev.body rfl Tryz.func37 rfl (by kernel_rfl)<|gS rfl rfl<|sB (.ptr 48 0) 48 (.var [.d (.lst (a0.bC.map az.pd))])<|sB (.ptr 64 0) 64 (.var [rS a1.aj, rS a1.ak, rS a1.ai, rS a1.ap])<|sB (.ptr 96 0) 96 (.var [r0, r0, r0])<|sU<|sN<|qS<|gS rfl rfl<|sV (.ptr 48 0)<|sL rfl<|sE (rI (a0.bC.length : Int)) (lenMap _ _)<|sV (r0)<|sN<|bE h fun o18 ho18 h => ?_
 refine WC.block (WC.loop (WL.ofLoop ho18 (fun s R' B' => ghosts prog 0 (A R' B') (au.at_ 37 0 2) = some (A [(2, rI a2), (4, .ptr 64 0), (6, .ptr 96 0), (13, .d (.lst (a0.bC.map az.pd))), (14, rI (a0.bC.length : Int)), (15, rI s)] [(64, .var [rS a1.aj, rS a1.ak, rS a1.ai, rS a1.ap]), (96, .var [r0, r0, r0])])) (fun o e R' B' => match o with | .inl y => e = .exit 0 ∧ ghosts prog 0 (A R' B') (au.at_ 37 0 11) = some (A [(6, .ptr 96 0)] [(96, .var [r0, r0, r0])]) | .inr r => e = .ret ∧ finish prog (au.own 37) Tryz.f37 0 (A R' B') = some (.tup [.d (al.pd r.1), rB r.2], [])) rfl ?_ ?_))
 ·rintro s1 R' B' q2 hI h
  refine gS rfl hI<|sF h (fun h => ?_) fun h => ?_
  ·refine sN<|qS<|cT<|qK<|qS<|qB<|gS rfl rfl<|bE h fun x4 hx4 h => eG hx4 rfl<|sV (.d (az.pd x4))<|sB (.ptr 144 0) 144 (.var [rS [], rS [], rS [], rS [], .nils])<|sS 144 (.var (az.rc x4))<|sN<|gS rfl rfl<|sV (.ptr 144 4) ?_
   refine sL rfl<|sE (rI (x4.fa.length : Int)) (lenMap _ _)<|sV (r0)<|sN<|bE h fun o14 ho14 h => WC.block (WC.loop (WL.ofLoop ho14 (fun s R' B' => ghosts prog 0 (A R' B') (au.at_ 37 0 5) = some (A [(2, rI a2), (4, .ptr 64 0), (6, .ptr 96 0), (9, .ptr 144 0), (13, .d (.lst (a0.bC.map az.pd))), (14, rI (a0.bC.length : Int)), (15, rI s1), (20, .d (.lst (x4.fa.map aG.pd))), (21, rI (x4.fa.length : Int)), (22, rI s)] [(64, .var [rS a1.aj, rS a1.ak, rS a1.ai, rS a1.ap]), (96, .var [r0, r0, r0]), (144, .var (az.rc x4))])) (fun o e R' B' => match o with | .inl y => e = .exit 2 ∧ ghosts prog 0 (A R' B') (au.at_ 37 0 10) = some (A [(2, rI a2), (4, .ptr 64 0), (6, .ptr 96 0), (13, .d (.lst (a0.bC.map az.pd))), (14, rI (a0.bC.length : Int)), (15, rI y)] [(64, .var [rS a1.aj, rS a1.ak, rS a1.ai, rS a1.ap]), (96, .var [r0, r0, r0])]) | .inr r => e = .ret ∧ finish prog (au.own 37) Tryz.f37 0 (A R' B') = some (.tup [.d (al.pd r.1), rB r.2], [])) rfl ?_ ?_))
   ·rintro s5 R' B' q7 hI h
    refine gS rfl hI<|sF h (fun h => ?_) fun h => ?_
    ·refine sN<|qS<|cT<|qK<|qS<|qB<|gS rfl rfl<|bE h fun x9 hx9 h => eG hx9 rfl<|sV (.d (aG.pd x9))<|sB (.ptr 176 0) 176 (.var [r0, r0, r0, r0, r0, r0, r0, .nils])<|sH 176 (.var (aG.rc x9))<|sN<|gS rfl rfl<|sV (.ptr 144 0) ?_
     refine sV (.d (ae.pd x4.ah))<|sV (.d (ae.pd a1))<|ite_elim h (fun hb10 h => ?_) (fun hb10 h => ?_)
     ·refine WO.binS (eqE_50 x4.ah a1) hb10 rfl rfl rfl rfl rfl<|sM rfl<|sV (.ptr 176 0)<|sL rfl<|sM rfl<|sV (rB (decide (x9.ck ≤ a2)))<|sF h (fun h => ?_) fun h => ?_
      ·refine sM rfl<|sM rfl<|sV (.ptr 176 1)<|sL rfl<|sV (rB (decide (a2 < x9.fTo)))<|sF h (fun h => ?_) fun h => ?_
       ·refine sN<|cT<|gS rfl rfl<|sV (.ptr 176 4)<|sV (.d (al.pd x9.cu))<|sS 96 (.var [rI x9.cu.fX, rI x9.cu.fY, rI x9.cu.fZ])<|sT<|sN<|qR ?_
        cases oI h
        exact ⟨nofun, rfl, rfl⟩
       refine sN<|cF<|qK<|WC.region rfl rfl<|sV (rI (rW (s5 + (1 : Int))))<|sM rfl<|sN ?_
       cases oI h
       exact ⟨rfl, rfl⟩
      refine sM rfl<|k3<|sK<|sU<|sN<|cF<|qK<|WC.region rfl rfl<|sV (rI (rW (s5 + (1 : Int))))<|sM rfl<|sN ?_
      cases oI h
      exact ⟨rfl, rfl⟩
     refine WO.binS (eqE_50 x4.ah a1) hb10 rfl rfl rfl rfl rfl<|sM rfl<|k3<|sK<|sU<|sM rfl<|k3<|sK<|sU<|sN<|cF ?_
     refine qK<|WC.region rfl rfl<|sV (rI (rW (s5 + (1 : Int))))<|sM rfl<|sN ?_
     cases oI h
     exact ⟨rfl, rfl⟩
    refine sN<|qS<|cF<|qX ?_
    cases oI h
    exact ⟨nofun, rfl, rfl⟩
   intro e R' B' he hq
   rcases o14 with y15 | r16
   ·obtain ⟨rfl, hI⟩ := hq
    refine qE<|WC.region hI rfl<|sV (rI (rW (y15 + (1 : Int))))<|sM rfl<|sN ?_
    cases oI h
    exact ⟨rfl, rfl⟩
   obtain ⟨rfl, hf⟩ := hq
   cases oI h
   exact ⟨nofun, rfl, hf⟩
  refine sN<|qS<|cF<|qX ?_
  cases oI h
  exact ⟨nofun, rfl, rfl⟩
 intro e R' B' he hq
 rcases o18 with y19 | r20
 ·obtain ⟨rfl, hI⟩ := hq
  refine qE<|gS rfl hI<|sV (.d (al.pd (al.mk 0 0 0)))<|sS 96 (.var [r0, r0, r0])<|sU<|sN<|qR ?_
  cases oI h
  exact qD
 obtain ⟨rfl, hf⟩ := hq
 cases oI h
 exact hf
theorem i8 {a0 : Int} {r : Int} (h : gY a0 = some r) : EvP prog au ext 38 [rI a0] [] (rI r, []) := by
 refine Ev.body rfl Tryz.func38 rfl (by kernel_rfl)<|gS rfl rfl<|sV (r0)<|sN<|gS rfl rfl<|sM rfl<|sM rfl<|sV (rI (rW (a0 * a0)))<|sA rfl<|sN<|qR ?_
 cases oI h
 exact qD
theorem Src_Picks_ev {a1 : aK} {a2 : aC} {a3 : Int} {d0 : ac} {r : (List aa) × ac} (h : gA a1 a2 a3 d0 = some r) : EvP prog au ext 9 [.ptr 0 0, .d (aK.pd a1), .d (aC.pd a2), rI a3] [.var [.d (.lst (d0.fL.map (PD.int .i64))), rI d0.fAt]] (.d (.lst (r.1.map aa.pd)), [.var [.d (.lst (r.2.fL.map (PD.int .i64))), rI r.2.fAt]]) := by
 refine Ev.body rfl Tryz.func9 rfl (by kernel_rfl)<|gS rfl rfl<|sB (.ptr 80 0) 80 (.var (aK.rc a1))<|sB (.ptr 96 0) 96 (.var [.d (.lst (a2.bC.map az.pd))])<|sV .nils<|sN<|gS rfl rfl<|sV .nils<|sN<|gS rfl rfl<|sM rfl<|sV (.ptr 80 0)<|sV (.ptr 80 0)<|sV (.d (bo.pd a1.av.aZ))<|bE h fun x1 hx1 h => ?_
 refine cR (.d (al.pd x1.1)) [(0, .var [.d (.lst (x1.2.fL.map (PD.int .i64))), rI x1.2.fAt])] (jf hx1)<|sM rfl<|bE h fun x2 hx2 h => cR (rI x2.1) [(0, .var [.d (.lst (x2.2.fL.map (PD.int .i64))), rI x2.2.fAt])] (aT hx2)<|sV (rI (rW ((1000 : Int) + x2.1)))<|sB (.ptr 160 0) 160 (.var [r0, r0, r0])<|sS 160 (.var [rI x1.1.fX, rI x1.1.fY, rI x1.1.fZ])<|sA rfl<|sN<|qS<|gS rfl rfl<|sM rfl<|sM rfl<|sV (rI (rW (a3 + (1 : Int))))<|bE h fun x3 hx3 h => ?_
 refine cR (rI x3.1) [(0, .var [.d (.lst (x3.2.fL.map (PD.int .i64))), rI x3.2.fAt])] (aT hx3)<|sA rfl<|sN<|bE h fun o61 ho61 h => WC.block (WC.loop (WL.ofLoop ho61 (fun s R' B' => ghosts prog 1 (A R' B') (au.at_ 9 1 4) = some (A [(0, .ptr 0 0), (5, .ptr 80 0), (6, .ptr 96 0), (9, .ref 2192 0), (10, .ptr 160 0), (11, rI s.1), (12, rI s.2.1)] [(0, .var [.d (.lst (s.2.2.1.map (PD.int .i64))), rI s.2.2.2.1]), (80, .var (aK.rc a1)), (96, .var [.d (.lst (a2.bC.map az.pd))]), (160, .var [rI s.2.2.2.2.2.1, rI s.2.2.2.2.2.2.1, rI s.2.2.2.2.2.2.2]), (2192, .arr 0 52 (s.2.2.2.2.1.map aa.pd))])) (fun o e R' B' => e = .exit 0 ∧ ghosts prog 1 (A R' B') (au.at_ 9 1 21) = some (A [(9, .ref 2192 0)] [(0, .var [.d (.lst (o.2.1.map (PD.int .i64))), rI o.2.2]), (2192, .arr 0 52 (o.1.map aa.pd))])) rfl ?_ ?_))
 ·rintro ⟨s4, s5, s6, s7, s8, s9, s10, s11⟩ R' B' q15 hI h
  refine qS<|gS rfl hI<|sM rfl<|sF h (fun h => ?_) fun h => ?_
  ·refine sN<|cT<|qK<|qS<|qB<|gS rfl rfl<|sM rfl<|bE h fun x17 hx17 h => cR (rI x17.1) [(0, .var [.d (.lst (x17.2.fL.map (PD.int .i64))), rI x17.2.fAt])] (aT hx17)<|bE h fun x18 hx18 h => cD (fx hx18)<|sM rfl<|sV (.d (.lst ([0, 1, 50, 1000, 1048576].map (PD.int .i64))))<|bE h fun x19 hx19 h => cR (rI x19.1) [(0, .var [.d (.lst (x19.2.fL.map (PD.int .i64))), rI x19.2.fAt])] (cJ hx19) ?_
   refine sM rfl<|bE h fun x20 hx20 h => cR (rI x20.1) [(0, .var [.d (.lst (x20.2.fL.map (PD.int .i64))), rI x20.2.fAt])] (aT hx20)<|sV (rI (rW (x20.1 - (1 : Int))))<|sG (.d (aa.pd (aa.mk x18 0 0 0 x19.1 (rW (x20.1 - (1 : Int))))))<|sB (.ptr 208 0) 208 (.var [rS [], rS [], rS [], rS [], r0, r0, r0, r0, r0])<|sH 208 (.var [rS x18.aj, rS x18.ak, rS x18.ai, rS x18.ap, r0, r0, r0, rI x19.1, rI (rW (x20.1 - (1 : Int)))])<|sN<|gS rfl rfl<|sM rfl<|bE h fun x21 hx21 h => cR (rI x21.1) [(0, .var [.d (.lst (x21.2.fL.map (PD.int .i64))), rI x21.2.fAt])] (aT hx21)<|sV (rI (rW ((1000 : Int) + x21.1)))<|sV (.ptr 208 5)<|sS 208 (.var [rS x18.aj, rS x18.ak, rS x18.ai, rS x18.ap, r0, rI (rW ((1000 : Int) + x21.1)), r0, rI x19.1, rI (rW (x20.1 - (1 : Int)))]) ?_
   refine sN<|WC.join (α := Int × Int × (List Int) × Int × (List aa) × Int × Int × Int × Int) (fun x R' B' => ghosts prog 1 (A R' B') (au.at_ 9 1 18) = some (A [(0, .ptr 0 0), (5, .ptr 80 0), (6, .ptr 96 0), (9, .ref 2192 0), (10, .ptr 160 0), (11, rI x.1), (12, rI x.2.1), (13, .ptr 208 0)] [(0, .var [.d (.lst (x.2.2.1.map (PD.int .i64))), rI x.2.2.2.1]), (80, .var (aK.rc a1)), (96, .var [.d (.lst (a2.bC.map az.pd))]), (160, .var [rI x.2.2.2.2.2.1, rI x.2.2.2.2.2.2.1, rI x.2.2.2.2.2.2.2.1]), (208, .var [rS x18.aj, rS x18.ak, rS x18.ai, rS x18.ap, r0, rI x.2.2.2.2.2.2.2.2, r0, rI x19.1, rI (rW (x20.1 - (1 : Int)))]), (2192, .arr 0 52 (x.2.2.2.2.1.map aa.pd))])) (fun x => c6 x18 x19 x20 x.1 x.2.1 x.2.2.1 x.2.2.2.1 x.2.2.2.2.1 x.2.2.2.2.2.1 x.2.2.2.2.2.2.1 x.2.2.2.2.2.2.2.1 x.2.2.2.2.2.2.2.2 = some q15) ?_ ?_
   ·refine gS rfl rfl<|sM rfl<|bE h fun x35 hx35 h => cR (rI x35.1) [(0, .var [.d (.lst (x35.2.fL.map (PD.int .i64))), rI x35.2.fAt])] (aT hx35)<|sN<|qB<|gS rfl rfl<|sF h (fun h => ?_) fun h => ?_
    ·refine sA rfl<|sN<|cT<|WC.region rfl rfl<|sM rfl<|sV (.ptr 80 0)<|sV (.ptr 80 0)<|sV (.d (bo.pd a1.av.aZ))<|bE h fun x37 hx37 h => cR (.d (al.pd x37.1)) [(0, .var [.d (.lst (x37.2.fL.map (PD.int .i64))), rI x37.2.fAt])] (jf hx37)<|sM rfl<|sM rfl<|bE h fun x38 hx38 h => cR (rI x38.1) [(0, .var [.d (.lst (x38.2.fL.map (PD.int .i64))), rI x38.2.fAt])] (aT hx38)<|sV (rI (rW (s4 + x38.1))) ?_
     exact sS 160 (.var [rI x37.1.fX, rI x37.1.fY, rI x37.1.fZ])<|sA rfl<|sN<|⟨((rW (s4 + x38.1)), s5, x38.2.fL, x38.2.fAt, s8, x37.1.fX, x37.1.fY, x37.1.fZ, (rW ((1000 : Int) + x21.1))), rfl, h⟩
    refine sA rfl<|sN<|cF<|gS rfl rfl<|sF h (fun h => ?_) fun h => ?_
    ·exact sA rfl<|sN<|cT<|qK<|⟨(s4, s5, x35.2.fL, x35.2.fAt, s8, s9, s10, s11, (rW ((1000 : Int) + x21.1))), rfl, h⟩
    refine sA rfl<|sN<|cF<|gS rfl rfl<|sV (.d (aC.pd a2))<|sV (.ptr 208 0)<|sV (.d (ae.pd x18))<|sM rfl<|bE h fun x40 hx40 h => cR (.tup [.d (al.pd x40.1), rB x40.2]) [] (keep_place_ev hx40)<|sM rfl<|sV (.d (al.pd x40.1))<|sV (rB x40.2)<|sB (.ptr 224 0) 224 (.var [r0, r0, r0])<|sS 224 (.var [rI x40.1.fX, rI x40.1.fY, rI x40.1.fZ]) ?_
    refine sA rfl<|sN<|gS rfl rfl<|sF h (fun h => ?_) fun h => ?_
    ·refine sN<|cT<|gS rfl rfl<|sV (r0)<|sN<|qS<|bE h fun o56 ho56 h => WC.block (WC.loop (WL.ofLoop ho56 (fun s R' B' => ghosts prog 1 (A R' B') (au.at_ 9 1 12) = some (A [(0, .ptr 0 0), (5, .ptr 80 0), (6, .ptr 96 0), (9, .ref 2192 0), (10, .ptr 160 0), (11, rI s4), (12, rI s5), (13, .ptr 208 0), (14, .ptr 224 0), (16, rI s)] [(0, .var [.d (.lst (x35.2.fL.map (PD.int .i64))), rI x35.2.fAt]), (80, .var (aK.rc a1)), (96, .var [.d (.lst (a2.bC.map az.pd))]), (160, .var [rI s9, rI s10, rI s11]), (208, .var [rS x18.aj, rS x18.ak, rS x18.ai, rS x18.ap, r0, rI (rW ((1000 : Int) + x21.1)), r0, rI x19.1, rI (rW (x20.1 - (1 : Int)))]), (224, .var [rI x40.1.fX, rI x40.1.fY, rI x40.1.fZ]), (2192, .arr 0 52 (s8.map aa.pd))])) (fun o e R' B' => e = .exit 3 ∧ ghosts prog 1 (A R' B') (au.at_ 9 1 14) = some (A [(0, .ptr 0 0), (5, .ptr 80 0), (6, .ptr 96 0), (9, .ref 2192 0), (10, .ptr 160 0), (11, rI o.1), (12, rI o.2.1), (13, .ptr 208 0), (16, rI o.2.2.1)] [(0, .var [.d (.lst (x35.2.fL.map (PD.int .i64))), rI x35.2.fAt]), (80, .var (aK.rc a1)), (96, .var [.d (.lst (a2.bC.map az.pd))]), (160, .var [rI o.2.2.2.2.1, rI o.2.2.2.2.2.1, rI o.2.2.2.2.2.2]), (208, .var [rS x18.aj, rS x18.ak, rS x18.ai, rS x18.ap, r0, rI (rW ((1000 : Int) + x21.1)), r0, rI x19.1, rI (rW (x20.1 - (1 : Int)))]), (2192, .arr 0 52 (o.2.2.2.1.map aa.pd))])) rfl ?_ ?_))
     ·rintro s42 R' B' q50 hI h
      refine qS<|WC.regionDSeq hI rfl<|sM rfl<|sM rfl<|sV (rI (rW (s42 * s42)))<|sV (.ptr 224 0)<|sL rfl<|sV (.ptr 160 0)<|sL rfl<|sV (rI (rW (x40.1.fX - s9)))<|bE h fun x51 hx51 h => cD (i8 hx51)<|sV (.ptr 224 1)<|sL rfl<|sV (.ptr 160 1) ?_
      refine sL rfl<|sV (rI (rW (x40.1.fY - s10)))<|bE h fun x52 hx52 h => cD (i8 hx52)<|sV (rI (rW (x51 + x52)))<|sV (.ptr 224 2)<|sL rfl<|sV (.ptr 160 2)<|sL rfl<|sV (rI (rW (x40.1.fZ - s11)))<|bE h fun x53 hx53 h => cD (i8 hx53)<|sV (rI (rW ((rW (x51 + x52)) + x53)))<|sF h (fun h => ?_) fun h => ?_
      ·refine sN<|sO<|cT<|qK<|qB<|WC.region rfl rfl<|sM rfl<|sV (rI (rW (s42 + (1 : Int))))<|sA rfl<|sN ?_
       cases oI h
       exact ⟨rfl, rfl⟩
      refine sN<|sO<|cF<|qX ?_
      cases oI h
      exact ⟨nofun, rfl, rfl⟩
     intro e R' B' he hq
     obtain ⟨rfl, hI⟩ := hq
     refine qE<|WC.regionD hI rfl<|sM rfl<|sV (.ptr 80 0)<|sV (.ptr 80 6)<|sV (.ptr 80 7)<|sL rfl<|sM rfl<|sV (.ptr 80 0)<|sV (.ptr 80 6)<|sV (.ptr 80 6)<|sL rfl<|bE h fun x57 hx57 h => WO.quoG hx57 rfl rfl rfl rfl rfl rfl<|sV (.ptr 80 0) ?_
     refine sV (.ptr 80 6)<|sV (.ptr 80 7)<|sL rfl<|sE (rI (a1.av.bT.bB.length : Int)) (lenMap _ _)<|sV (rI (rW ((a1.av.bT.bB.length : Int) - (1 : Int))))<|sV (rI (if (rW ((a1.av.bT.bB.length : Int) - (1 : Int))) < x57 then (rW ((a1.av.bT.bB.length : Int) - (1 : Int))) else x57))<|bE h fun x58 hx58 h => eG hx58 rfl<|sC rfl<|sV (rI (rW (o56.1 + x58)))<|sM rfl<|bE h fun x59 hx59 h => cR (rI x59.1) [(0, .var [.d (.lst (x59.2.fL.map (PD.int .i64))), rI x59.2.fAt])] (aT hx59)<|sV (rI (rW ((rW (o56.1 + x58)) + x59.1)))<|sV (.ptr 208 5) ?_
     refine sS 208 (.var [rS x18.aj, rS x18.ak, rS x18.ai, rS x18.ap, r0, rI (rW ((rW (o56.1 + x58)) + x59.1)), r0, rI x19.1, rI (rW (x20.1 - (1 : Int)))]) ?_
     exact sN<|sO<|⟨(o56.1, o56.2.1, x59.2.fL, x59.2.fAt, o56.2.2.2.1, o56.2.2.2.2.1, o56.2.2.2.2.2.1, o56.2.2.2.2.2.2, (rW ((rW (o56.1 + x58)) + x59.1))), rfl, h⟩
    exact sN<|cF<|qK<|⟨(s4, s5, x35.2.fL, x35.2.fAt, s8, s9, s10, s11, (rW ((1000 : Int) + x21.1))), rfl, h⟩
   rintro ⟨j22, j23, j24, j25, j26, j27, j28, j29, j30⟩ R' B' hI h
   refine WC.regionDSeq hI rfl<|sV (.ptr 208 5)<|sL rfl<|sM rfl<|bE h fun x31 hx31 h => cR (rI x31.1) [(0, .var [.d (.lst (x31.2.fL.map (PD.int .i64))), rI x31.2.fAt])] (aT hx31)<|sV (rI (rW (j30 + x31.1)))<|sV (.ptr 208 4)<|sS 208 (.var [rS x18.aj, rS x18.ak, rS x18.ai, rS x18.ap, rI (rW (j30 + x31.1)), rI j30, r0, rI x19.1, rI (rW (x20.1 - (1 : Int)))]) ?_
   refine sN<|sO<|WC.regionDSeq rfl rfl<|sV (.ptr 208 4)<|sL rfl<|sM rfl<|bE h fun x32 hx32 h => cR (rI x32.1) [(0, .var [.d (.lst (x32.2.fL.map (PD.int .i64))), rI x32.2.fAt])] (aT hx32)<|sV (rI (rW ((rW (j30 + x31.1)) + x32.1)))<|sV (.ptr 208 6)<|sS 208 (.var [rS x18.aj, rS x18.ak, rS x18.ai, rS x18.ap, rI (rW (j30 + x31.1)), rI j30, rI (rW ((rW (j30 + x31.1)) + x32.1)), rI x19.1, rI (rW (x20.1 - (1 : Int)))]) ?_
   refine sN<|sO<|WC.region rfl rfl<|sM rfl<|sV (.d (aa.pd (aa.mk x18 (rW (j30 + x31.1)) j30 (rW ((rW (j30 + x31.1)) + x32.1)) x19.1 (rW (x20.1 - (1 : Int))))))<|sG (.d (.lst ([(aa.mk x18 (rW (j30 + x31.1)) j30 (rW ((rW (j30 + x31.1)) + x32.1)) x19.1 (rW (x20.1 - (1 : Int))))].map aa.pd)))<|bE h fun x33 hx33 h => aR hx33 (fun _ => rfl) rfl<|sA rfl<|sN<|WC.region rfl rfl<|sM rfl<|sV (rI (rW (j23 - (1 : Int))))<|sA rfl<|sN ?_
   cases oI h
   exact ⟨rfl, rfl⟩
  refine sN<|cF<|qX ?_
  cases oI h
  exact ⟨nofun, rfl, rfl⟩
 intro e R' B' he hq
 obtain ⟨rfl, hI⟩ := hq
 refine qE<|gS rfl hI<|sM rfl<|sA rfl<|sN<|qR ?_
 cases oI h
 exact qD
theorem source_plain_ev {a0 : Int} {r : Bool} (h : eR a0 = some r) : EvP prog au ext 158 [.d (.int .u8 a0)] [] (rB r, []) := by
 refine Ev.body rfl Tryz.func158 rfl (by kernel_rfl)<|gS rfl rfl<|sU<|sN<|gS rfl rfl<|sM rfl<|sF h (fun h => ?_) fun h => ?_
 ·refine sM rfl<|sM rfl<|sV (rB (decide (a0 ≤ (90 : Int))))<|sF h (fun h => ?_) fun h => ?_
  ·refine sM rfl<|k3<|k3<|sT<|sA rfl<|sN<|qR ?_
   cases oI h
   exact qD
  refine sM rfl<|sM rfl<|sF h (fun h => ?_) fun h => ?_
  ·refine sM rfl<|sM rfl<|sV (rB (decide (a0 ≤ (57 : Int))))<|sV (rB (decide (a0 ≤ (57 : Int))))<|sV (rB (decide (a0 ≤ (57 : Int))))<|sA rfl<|sN<|qR ?_
   cases oI h
   exact qD
  refine sM rfl<|sK<|sK<|sU<|sU<|sA rfl<|sN<|qR ?_
  cases oI h
  exact qD
 refine sM rfl<|sK<|sK<|sU<|sM rfl<|sM rfl<|sF h (fun h => ?_) fun h => ?_
 ·refine sM rfl<|sM rfl<|sV (rB (decide (a0 ≤ (57 : Int))))<|sV (rB (decide (a0 ≤ (57 : Int))))<|sV (rB (decide (a0 ≤ (57 : Int))))<|sA rfl<|sN<|qR ?_
  cases oI h
  exact qD
 refine sM rfl<|sK<|sK<|sU<|sU<|sA rfl<|sN<|qR ?_
 cases oI h
 exact qD
theorem eH {a0 : (List UInt8)} {a1 : Int} {a2 : Int} {r : Bool} (h : dN a0 a1 a2 = some r) : EvP prog au ext 128 [rS a0, rI a1, rI a2] [] (rB r, []) := by
 refine Ev.body rfl Tryz.func128 rfl (by kernel_rfl)<|gS rfl rfl<|sU<|sN<|qS<|gS rfl rfl<|sM rfl<|sV (rI (a0.length : Int))<|sV (r0)<|sN<|bE h fun o8 ho8 h => WC.block (WC.loop (WL.ofLoop ho8 (fun s R' B' => ghosts prog 0 (A R' B') (au.at_ 128 0 2) = some (A [(0, rS a0), (1, rI a1), (2, rI a2), (9, rI (a0.length : Int)), (10, rI s)] [])) (fun o e R' B' => match o with | .inl y => e = .exit 0 ∧ ghosts prog 0 (A R' B') (au.at_ 128 0 7) = some (A [(0, rS a0), (1, rI a1), (2, rI a2)] []) | .inr r => e = .ret ∧ finish prog (au.own 128) Tryz.f128 0 (A R' B') = some (rB r, [])) rfl ?_ ?_))
 ·rintro s1 R' B' q2 hI h
  refine gS rfl hI<|sF h (fun h => ?_) fun h => ?_
  ·refine sN<|qS<|cT<|qK<|qS<|qB<|gS rfl rfl<|sM rfl<|sA rfl<|sN<|gS rfl rfl<|sM rfl<|sM rfl<|bE h fun x4 hx4 h => WO.byteG hx4 rfl rfl rfl rfl rfl rfl ?_
   refine bE h fun x5 hx5 h => cD (source_plain_ev hx5)<|sF h (fun h => ?_) fun h => ?_
   ·refine sN<|cT<|gS rfl rfl<|sU<|sN<|qR ?_
    cases oI h
    exact ⟨nofun, rfl, rfl⟩
   refine sN<|cF<|qK<|WC.region rfl rfl<|sV (rI (rW (s1 + (1 : Int))))<|sM rfl<|sN ?_
   cases oI h
   exact ⟨rfl, rfl⟩
  refine sN<|qS<|cF<|qX ?_
  cases oI h
  exact ⟨nofun, rfl, rfl⟩
 intro e R' B' he hq
 rcases o8 with y9 | r10
 ·obtain ⟨rfl, hI⟩ := hq
  refine qE<|gS rfl hI<|sM rfl<|sV (rI (a0.length : Int))<|sM rfl<|sF h (fun h => ?_) fun h => ?_
  ·refine sM rfl<|sM rfl<|sV (rI (a0.length : Int))<|sM rfl<|sV (rB (decide ((a0.length : Int) ≤ a2)))<|sV (rB (decide ((a0.length : Int) ≤ a2)))<|sA rfl<|sN<|qR ?_
   cases oI h
   exact qD
  refine sM rfl<|k3<|sK<|sU<|sA rfl<|sN<|qR ?_
  cases oI h
  exact qD
 obtain ⟨rfl, hf⟩ := hq
 cases oI h
 exact hf
theorem iu {a0 : ae} {r : Bool} (h : eQ a0 = some r) : EvP prog au ext 85 [.d (ae.pd a0)] [] (rB r, []) := by
 refine Ev.body rfl Tryz.func85 rfl (by kernel_rfl)<|gS rfl rfl<|sB (.ptr 16 0) 16 (.var [rS a0.aj, rS a0.ak, rS a0.ai, rS a0.ap])<|sU<|sN<|gS rfl rfl<|sV (.ptr 16 0)<|sL rfl<|bE h fun x1 hx1 h => ite_elim h (fun hb2 h => ?_) (fun hb2 h => ?_)
 ·refine WO.callR (v := rB true) (u := []) rfl rfl (fun _ => rfl) rfl rfl rfl rfl rfl (eH hx1) rfl rfl (congrArg (fun b => RV.d (.bool b)) hb2) rfl<|sM rfl<|sV (.ptr 16 1)<|sL rfl<|bE h fun x3 hx3 h => cD (eH hx3)<|sF h (fun h => ?_) fun h => ?_
  ·refine sM rfl<|sV (.ptr 16 2)<|sL rfl<|bE h fun x5 hx5 h => cD (eH hx5)<|sF h (fun h => ?_) fun h => ?_
   ·refine sM rfl<|sV (.ptr 16 2)<|sL rfl<|sV (rI (a0.ai.length : Int))<|sV (rB ((a0.ai.length : Int) != (1 : Int)))<|sF h (fun h => ?_) fun h => ?_
    ·refine sM rfl<|sV (.ptr 16 3)<|sL rfl<|bE h fun x8 hx8 h => cD (eH hx8)<|sV (rB x8)<|sA rfl<|sN<|qR ?_
     cases oI h
     exact qD
    refine sM rfl<|k3<|sU<|sA rfl<|sN<|qR ?_
    cases oI h
    exact qD
   refine sM rfl<|k3<|sK<|sU<|sM rfl<|k3<|sU<|sA rfl<|sN<|qR ?_
   cases oI h
   exact qD
  refine sM rfl<|k3<|sU<|sM rfl<|k3<|sK<|sU<|sM rfl<|sK<|sK<|sK ?_
  refine sU<|sA rfl<|sN<|qR ?_
  cases oI h
  exact qD
 refine WO.callR (v := rB false) (u := []) rfl rfl (fun _ => rfl) rfl rfl rfl rfl rfl (eH hx1) rfl rfl (congrArg (fun b => RV.d (.bool b)) hb2) rfl<|sM rfl<|k3<|sU<|sM rfl<|k3<|sU<|sM rfl<|sK<|sK<|sK ?_
 refine sK<|sU<|sM rfl<|k3<|sU<|sA rfl<|sN<|qR ?_
 cases oI h
 exact qD
theorem jr {a0 : Int} {a1 : Int} {a2 : Int} {r : Bool} (h : eK a0 a1 a2 = some r) : EvP prog au ext 86 [rI a0, rI a1, rI a2] [] (rB r, []) := by
 refine Ev.body rfl Tryz.func86 rfl (by kernel_rfl)<|gS rfl rfl<|sU<|sN<|gS rfl rfl<|sM rfl<|sM rfl<|sF h (fun h => ?_) fun h => ?_
 ·refine sM rfl<|sM rfl<|sM rfl<|sV (rB (decide (a0 ≤ a2)))<|sV (rB (decide (a0 ≤ a2)))<|sA rfl<|sN<|qR ?_
  cases oI h
  exact qD
 refine sM rfl<|k3<|sU<|sA rfl<|sN<|qR ?_
 cases oI h
 exact qD
theorem gw {a0 : aa} {r : Bool} (h : cY a0 = some r) : EvP prog au ext 50 [.d (aa.pd a0)] [] (rB r, []) := by
 refine Ev.body rfl Tryz.func50 rfl (by kernel_rfl)<|gS rfl rfl<|sB (.ptr 16 0) 16 (.var (aa.rc a0))<|sU<|sN<|gS rfl rfl<|sV (.ptr 16 0)<|sV (.d (ae.pd a0.ah))<|bE h fun x1 hx1 h => ite_elim h (fun hb2 h => ?_) (fun hb2 h => ?_)
 ·refine WO.callR (v := rB true) (u := []) rfl rfl (fun _ => rfl) rfl rfl rfl rfl rfl (iu hx1) rfl rfl (congrArg (fun b => RV.d (.bool b)) hb2) rfl<|sM rfl<|sV (.ptr 16 5)<|sL rfl<|sV (rB (decide (a0.aA ≥ (0 : Int))))<|sF h (fun h => ?_) fun h => ?_
  ·refine sM rfl<|sV (.ptr 16 5)<|sL rfl<|sV (.ptr 16 4)<|sL rfl<|sV (rB (decide (a0.aA ≤ a0.aP)))<|sF h (fun h => ?_) fun h => ?_
   ·refine sM rfl<|sV (.ptr 16 4)<|sL rfl<|sV (.ptr 16 6)<|sL rfl<|sV (rB (decide (a0.aP ≤ a0.aU)))<|sF h (fun h => ?_) fun h => ?_
    ·refine sM rfl<|sV (.ptr 16 6)<|sL rfl<|sV (rB (decide (a0.aU ≤ (18014398509481984 : Int))))<|sF h (fun h => ?_) fun h => ?_
     ·refine sM rfl<|sV (.ptr 16 7)<|sL rfl<|bE h fun x7 hx7 h => cD (jr hx7)<|sF h (fun h => ?_) fun h => ?_
      ·refine sM rfl<|sV (.ptr 16 8)<|sL rfl<|bE h fun x9 hx9 h => cD (jr hx9)<|sV (rB x9)<|sA rfl<|sN<|qR ?_
       cases oI h
       exact qG
      refine sM rfl<|k3<|sU<|sA rfl<|sN<|qR ?_
      cases oI h
      exact qG
     refine sM rfl<|k3<|sU<|sM rfl<|k3<|sU<|sA rfl<|sN<|qR ?_
     cases oI h
     exact qG
    refine sM rfl<|k3<|sU<|sM rfl<|k3<|sU<|sM rfl<|k3<|sU ?_
    refine sA rfl<|sN<|qR ?_
    cases oI h
    exact qG
   refine sM rfl<|k3<|sK<|sK<|sU<|sM rfl<|k3<|sU<|sM rfl<|sK<|sK ?_
   refine sK<|sU<|sM rfl<|k3<|sU<|sA rfl<|sN<|qR ?_
   cases oI h
   exact qG
  refine sM rfl<|k3<|sK<|sK<|sU<|sM rfl<|k3<|sK<|sK<|sU<|sM rfl ?_
  refine k3<|sU<|sM rfl<|k3<|sU<|sM rfl<|k3<|sU<|sA rfl ?_
  refine sN<|qR ?_
  cases oI h
  exact qG
 refine WO.callR (v := rB false) (u := []) rfl rfl (fun _ => rfl) rfl rfl rfl rfl rfl (iu hx1) rfl rfl (congrArg (fun b => RV.d (.bool b)) hb2) rfl<|sM rfl<|k3<|sU<|sM rfl<|k3<|sK<|sK<|sU<|sM rfl<|sK ?_
 refine k3<|sK<|sU<|sM rfl<|k3<|sU<|sM rfl<|k3<|sU ?_
 refine sM rfl<|k3<|sU<|sA rfl<|sN<|qR ?_
 cases oI h
 exact qG
theorem e7 {a0 : aa} {r : Bool} (h : cO a0 = some r) : EvP prog au ext 79 [.d (aa.pd a0)] [] (rB r, []) := by
 refine Ev.body rfl Tryz.func79 rfl (by kernel_rfl)<|gS rfl rfl<|sB (.ptr 16 0) 16 (.var (aa.rc a0))<|sU<|sN<|gS rfl rfl<|sV (.d (aa.pd a0))<|bE h fun x1 hx1 h => cD (gw hx1)<|sV (rB (!x1))<|sA rfl<|sN<|qR ?_
 cases oI h
 exact qG
theorem gb {a0 : (List aa)} {r : Int} (h : bM a0 = some r) : EvP prog au ext 100 [.d (.lst (a0.map aa.pd)), .d (.raw (.func (.func 79) #[] #[]))] [] (rI r, []) := by
 refine Ev.body rfl Tryz.func100 rfl (by kernel_rfl)<|gS rfl rfl<|sV (r0)<|sN<|qS<|gS rfl rfl<|sM rfl<|sE (rI (a0.length : Int)) (lenMap _ _)<|sV (r0)<|sN<|bE h fun o8 ho8 h => WC.block (WC.loop (WL.ofLoop ho8 (fun s R' B' => ghosts prog 0 (A R' B') (au.at_ 100 0 2) = some (A [(0, .d (.lst (a0.map aa.pd))), (1, .d (.raw (.func (.func 79) #[] #[]))), (7, rI (a0.length : Int)), (8, rI s)] [])) (fun o e R' B' => match o with | .inl y => e = .exit 0 ∧ ghosts prog 0 (A R' B') (au.at_ 100 0 7) = some (A [] []) | .inr r => e = .ret ∧ finish prog (au.own 100) Tryz.f100 0 (A R' B') = some (rI r, [])) rfl ?_ ?_))
 ·rintro s1 R' B' q2 hI h
  refine gS rfl hI<|sF h (fun h => ?_) fun h => ?_
  ·refine sN<|qS<|cT<|qK<|qS<|qB<|gS rfl rfl<|sM rfl<|sA rfl<|sN<|gS rfl rfl<|sM rfl<|sM rfl<|sM rfl<|bE h fun x4 hx4 h => ?_
   refine eG hx4 rfl<|sV (.d (aa.pd x4))<|bE h fun x5 hx5 h => ite_elim h (fun hb6 h => ?_) (fun hb6 h => ?_)
   ·refine WO.callR (v := rB true) (u := []) rfl rfl (fun _ => rfl) rfl rfl rfl rfl rfl (e7 hx5) rfl rfl (congrArg (fun b => RV.d (.bool b)) hb6) rfl<|sN<|cT<|gS rfl rfl<|sM rfl<|sA rfl<|sN<|qR ?_
    cases oI h
    exact ⟨nofun, rfl, rfl⟩
   refine WO.callR (v := rB false) (u := []) rfl rfl (fun _ => rfl) rfl rfl rfl rfl rfl (e7 hx5) rfl rfl (congrArg (fun b => RV.d (.bool b)) hb6) rfl<|sN<|cF<|qK<|WC.region rfl rfl<|sV (rI (rW (s1 + (1 : Int))))<|sM rfl<|sN ?_
   cases oI h
   exact ⟨rfl, rfl⟩
  refine sN<|qS<|cF<|qX ?_
  cases oI h
  exact ⟨nofun, rfl, rfl⟩
 intro e R' B' he hq
 rcases o8 with y9 | r10
 ·obtain ⟨rfl, hI⟩ := hq
  refine qE<|gS rfl hI<|sV (rI (-1))<|sN<|qR ?_
  cases oI h
  exact qD
 obtain ⟨rfl, hf⟩ := hq
 cases oI h
 exact hf
theorem fB {a0 : (List aa)} {r : Bool} (h : bv a0 = some r) : EvP prog au ext 57 [.d (.lst (a0.map aa.pd)), .d (.raw (.func (.func 79) #[] #[]))] [] (rB r, []) := by
 refine Ev.body rfl Tryz.func57 rfl (by kernel_rfl)<|gS rfl rfl<|sU<|sN<|gS rfl rfl<|sM rfl<|sM rfl<|bE h fun x1 hx1 h => cD (gb hx1)<|sV (rB (decide (x1 ≥ (0 : Int))))<|sA rfl<|sN<|qR ?_
 cases oI h
 exact qD
theorem iS {a0 : (List aa)} {r : Bool} (h : cW a0 = some r) : EvP prog au ext 43 [.d (.lst (a0.map aa.pd))] [] (rB r, []) := by
 refine Ev.body rfl Tryz.func43 rfl (by kernel_rfl)<|gS rfl rfl<|sU<|sN<|gS rfl rfl<|sM rfl<|bE h fun x1 hx1 h => cD (fB hx1)<|sV (rB (!x1))<|sA rfl<|sN<|qR ?_
 cases oI h
 exact qD
theorem ib {a0 : Int} {r : Bool} (h : dO a0 = some r) : EvP prog au ext 126 [rI a0] [] (rB r, []) := by
 refine Ev.body rfl Tryz.func126 rfl (by kernel_rfl)<|gS rfl rfl<|sU<|sN<|gS rfl rfl<|sM rfl<|sM rfl<|sV (rB (a0 != a0))<|sA rfl<|sN<|qR ?_
 cases oI h
 exact qD
theorem cm {a0 : Int} {a1 : Int} {r : Int} (h : bh a0 a1 = some r) : EvP prog au ext 83 [rI a0, rI a1] [] (rI r, []) := by
 refine Ev.body rfl Tryz.func83 rfl (by kernel_rfl)<|gS rfl rfl<|sV (r0)<|sN<|gS rfl rfl<|sM rfl<|bE h fun x1 hx1 h => cD (ib hx1)<|sA rfl<|sN<|gS rfl rfl<|sM rfl<|bE h fun x2 hx2 h => cD (ib hx2)<|sA rfl ?_
 refine sN<|qS<|gS rfl rfl<|sF h (fun h => ?_) fun h => ?_
 ·refine sN<|cT<|qS<|gS rfl rfl<|sF h (fun h => ?_) fun h => ?_
  ·refine sN<|cT<|gS rfl rfl<|sV (r0)<|sN<|qR ?_
   cases oI h
   exact qD
  refine sN<|cF<|qK<|gS rfl rfl<|sV (rI (-1))<|sN<|qR ?_
  cases oI h
  exact qD
 refine sN<|cF<|qK<|qS<|gS rfl rfl<|sF h (fun h => ?_) fun h => ?_
 ·refine sN<|cT<|gS rfl rfl<|sV (rI 1)<|sN<|qR ?_
  cases oI h
  exact qD
 refine sN<|cF<|qK<|qS<|gS rfl rfl<|sM rfl<|sM rfl<|sF h (fun h => ?_) fun h => ?_
 ·refine sN<|cT<|gS rfl rfl<|sV (rI (-1))<|sN<|qR ?_
  cases oI h
  exact qD
 refine sN<|cF<|qK<|qS<|gS rfl rfl<|sM rfl<|sM rfl<|sF h (fun h => ?_) fun h => ?_
 ·refine sN<|cT<|gS rfl rfl<|sV (rI 1)<|sN<|qR ?_
  cases oI h
  exact qD
 refine sN<|cF<|qK<|gS rfl rfl<|sV (r0)<|sN<|qR ?_
 cases oI h
 exact qD
theorem io {d0 : (List aa)} {r : (List aa)} (h : bD d0 = some r) : EvP prog au ext 124 [.ref 0 0] [.arr 0 52 (d0.map aa.pd)] (.ref 0 1, [.arr 1 52 (r.map aa.pd)]) := by
 refine Ev.body rfl Tryz.func124 rfl (by kernel_rfl)<|gS rfl rfl<|sV .nils<|sN<|qS<|gS rfl rfl<|sM rfl<|WO.lenR rfl rfl rfl rfl rfl rfl rfl rfl rfl<|sF h (fun h => ?_) fun h => ?_
 ·refine sN<|cT<|WC.regionSeq (R0 := [(0, .ref 0 1)]) (B0 := [(0, .arr 1 52 (d0.map aa.pd))]) rfl rfl<|sM rfl<|sA rfl<|sN<|qR ?_
  cases oI h
  exact qD
 refine sN<|cF<|qK<|qS<|gS rfl rfl<|sV (rI 1)<|sN<|bE h fun o38 ho38 h => WC.block (WC.loop (WL.ofLoop ho38 (fun s R' B' => ghosts prog 1 (A R' B') (au.at_ 124 1 4) = some (A [(0, .ref 0 0), (3, rI s)] [(0, .arr 0 52 (d0.map aa.pd))])) (fun o e R' B' => match o with | .inl y => e = .exit 0 ∧ ghosts prog 1 (A R' B') (au.at_ 124 1 16) = some (A [(0, .ref 0 1)] [(0, .arr 1 52 (d0.map aa.pd))]) | .inr r => e = .ret ∧ finish prog (au.own 124) Tryz.f124 1 (A R' B') = some (.ref 0 1, [.arr 1 52 (r.map aa.pd)])) rfl ?_ ?_))
 ·rintro s2 R' B' q3 hI h
  refine qS<|gS rfl hI<|sM rfl<|sM rfl<|WO.lenR rfl rfl rfl rfl rfl rfl rfl rfl rfl<|sF h (fun h => ?_) fun h => ?_
  ·refine sN<|cT<|qK<|qS<|qB<|WC.regionDSeq rfl rfl<|sM rfl<|sM rfl<|bE h fun x6 hx6 h => WO.eltG hx6 rfl rfl rfl rfl rfl rfl rfl rfl<|bE h fun x7 hx7 h => WO.loadE hx7 rfl rfl rfl rfl rfl rfl<|sM rfl<|sM rfl<|sV (rI (rW (s2 - (1 : Int)))) ?_
   refine bE h fun x9 hx9 h => WO.eltG hx9 rfl rfl rfl rfl rfl rfl rfl rfl<|bE h fun x10 hx10 h => WO.loadE hx10 rfl rfl rfl rfl rfl rfl<|ite_elim h (fun hb11 h => ?_) (fun hb11 h => ?_)
   ·refine WO.binS (eqE_52 x7 x10) hb11 rfl rfl rfl rfl rfl ?_
    refine sN<|sO<|cT<|gS rfl rfl<|sM rfl<|sM rfl<|bE h fun x12 hx12 h => WO.subR hx12 rfl rfl rfl rfl rfl rfl rfl rfl rfl rfl rfl rfl<|sA rfl<|sN<|qS<|gS rfl rfl<|sV (rI 1)<|sN<|bE h fun o32 ho32 h => WC.block (WC.loop (WL.ofLoop ho32 (fun s R' B' => ghosts prog 1 (A R' B') (au.at_ 124 1 9) = some (A [(0, .ref 0 0), (3, rI s.1), (4, .view 0 0 (0 + (s2 : Int).toNat) (0 + ((d0.length : Int) : Int).toNat)), (5, rI s.2.1)] [(0, .arr 0 52 (s.2.2.map aa.pd))])) (fun o e R' B' => e = .exit 2 ∧ ghosts prog 1 (A R' B') (au.at_ 124 1 14) = some (A [(0, .ref 0 0), (3, rI o.1)] [(0, .arr 0 52 (o.2.map aa.pd))])) rfl ?_ ?_))
    ·rintro ⟨s13, s14, s15⟩ R' B' q18 hI h
     refine qS<|gS rfl hI<|sM rfl<|sM rfl<|bE h fun x19 hx19 h => WO.lenVw hx19 rfl rfl rfl rfl rfl rfl rfl rfl rfl<|sF h (fun h => ?_) fun h => ?_
     ·refine sN<|cT<|qK<|qS<|qB<|WC.regionDSeq rfl rfl<|sM rfl<|sM rfl<|bE h fun x21 hx21 h => WO.eltV hx21 rfl rfl rfl rfl rfl rfl rfl rfl<|bE h fun x22 hx22 h => WO.loadE hx22 rfl rfl rfl rfl rfl rfl<|sM rfl<|sM rfl<|sV (rI (rW (s14 - (1 : Int)))) ?_
      refine bE h fun x23 hx23 h => WO.eltV hx23 rfl rfl rfl rfl rfl rfl rfl rfl<|bE h fun x24 hx24 h => WO.loadE hx24 rfl rfl rfl rfl rfl rfl<|ite_elim h (fun hb25 h => ?_) (fun hb25 h => ?_)
      ·refine WO.binS (eqN_52 x22 x24) hb25 rfl rfl rfl rfl rfl ?_
       refine sN<|sO<|cT<|gS rfl rfl<|sM rfl<|sM rfl<|sM rfl<|sM rfl<|bE h fun x26 hx26 h => WO.eltV hx26 rfl rfl rfl rfl rfl rfl rfl rfl<|bE h fun x27 hx27 h => WO.loadE hx27 rfl rfl rfl rfl rfl rfl<|bE h fun x29 hx29 h => WO.eltG hx29 rfl rfl rfl rfl rfl rfl rfl rfl<|bE h fun x30 hx30 h => WO.storeE (g := aa.pd) (sz := 9) (p := aa.pd x27) hx30 (by intro _; kernel_rfl) (by intro _; kernel_rfl) rfl rfl rfl rfl rfl rfl rfl rfl rfl ?_
       refine sN<|WC.region rfl rfl<|sM rfl<|sV (rI (rW (s13 + (1 : Int))))<|sA rfl<|sN<|WC.region rfl rfl<|sM rfl<|sV (rI (rW (s14 + (1 : Int))))<|sA rfl<|sN ?_
       cases oI h
       exact ⟨rfl, rfl⟩
      refine WO.binS (eqN_52 x22 x24) hb25 rfl rfl rfl rfl rfl ?_
      refine sN<|sO<|cF<|qK<|WC.region rfl rfl<|sM rfl<|sV (rI (rW (s14 + (1 : Int))))<|sA rfl<|sN ?_
      cases oI h
      exact ⟨rfl, rfl⟩
     refine sN<|cF<|qX ?_
     cases oI h
     exact ⟨nofun, rfl, rfl⟩
    intro e R' B' he hq
    obtain ⟨rfl, hI⟩ := hq
    refine qE<|gS rfl hI<|sM rfl<|sM rfl<|bE h fun x33 hx33 h => WO.subR hx33 rfl rfl rfl rfl rfl rfl rfl rfl rfl rfl rfl rfl<|bE h fun x34 hx34 h => WO.clearN (z := (aa.mk (ae.mk [] [] [] []) 0 0 0 0 0)) (g := aa.pd) rfl rfl rfl rfl rfl rfl rfl (dst_view hx34 rfl) rfl rfl rfl rfl<|sN<|gS rfl rfl<|sM rfl<|sM rfl<|bE h fun x36 hx36 h => WO.resl hx36 rfl rfl rfl rfl rfl rfl rfl rfl rfl rfl rfl rfl<|sA rfl ?_
    refine sN<|qR ?_
    cases oI h
    exact ⟨nofun, rfl, rfl⟩
   refine WO.binS (eqE_52 x7 x10) hb11 rfl rfl rfl rfl rfl ?_
   refine sN<|sO<|cF<|qK<|WC.region rfl rfl<|sM rfl<|sV (rI (rW (s2 + (1 : Int))))<|sA rfl<|sN ?_
   cases oI h
   exact ⟨rfl, rfl⟩
  refine sN<|cF<|qX ?_
  cases oI h
  exact ⟨nofun, rfl, rfl⟩
 intro e R' B' he hq
 rcases o38 with y39 | r40
 ·obtain ⟨rfl, hI⟩ := hq
  refine qE<|gS rfl hI<|sM rfl<|sA rfl<|sN<|qR ?_
  cases oI h
  exact qD
 obtain ⟨rfl, hf⟩ := hq
 cases oI h
 exact hf
theorem picker_Sort_ev {a0 : (List aa)} {r : (List aa)} (h : dX a0 = some r) : EvP prog au ext 80 [.d (.lst (a0.map aa.pd))] [] (.ref 0 0, [.arr 0 52 (r.map aa.pd)]) := by
 refine Ev.body rfl Tryz.func80 rfl (by kernel_rfl)<|gS rfl rfl<|sV .nils<|sN<|gS rfl rfl<|sM rfl<|bE h fun x1 hx1 h => cR (.ref 80 0) [(80, .arr 0 52 (x1.map aa.pd))] (clone_123 hx1)<|sA rfl<|sN<|gS rfl rfl<|sM rfl<|bE h fun x2 hx2 h => cR (.tup []) [(80, .arr 0 52 (x2.map aa.pd))] (sort_72_73 hx2)<|sN ?_
 refine gS rfl rfl<|sM rfl<|bE h fun x3 hx3 h => cR (.ref 80 1) [(80, .arr 1 52 (x3.map aa.pd))] (io hx3)<|sA rfl<|sN<|qR ?_
 cases oI h
 exact qD
theorem cz {a0 : aa} {a1 : aa} {r : Int} (h : aY a0 a1 = some r) : EvP prog au ext 82 [.d (aa.pd a0), .d (aa.pd a1)] [] (rI r, []) := by
 refine Ev.body rfl Tryz.func82 rfl (by kernel_rfl)<|gS rfl rfl<|sB (.ptr 32 0) 32 (.var (aa.rc a0))<|sB (.ptr 48 0) 48 (.var (aa.rc a1))<|sV (r0)<|sN<|gS rfl rfl<|sV (.ptr 32 5)<|sL rfl<|sV (.ptr 48 5)<|sL rfl<|bE h fun x1 hx1 h => cD (cm hx1)<|sA rfl<|sN ?_
 refine qR ?_
 cases oI h
 exact qG
theorem cP {a1 : Int} {a2 : Int} {d0 : (List aa)} {r : (List aa)} (h : aD a1 a2 d0 = some r) : EvP prog au ext 147 [.ref 0 0, rI a1, rI a2, .d (.raw (.func (.func 82) #[] #[]))] [.arr 0 52 (d0.map aa.pd)] (.tup [], [.arr 0 52 (r.map aa.pd)]) := by
 refine Ev.body rfl Tryz.func147 rfl (by kernel_rfl)<|gS rfl rfl<|sM rfl<|sV (rI (rW (a1 + (1 : Int))))<|sA rfl<|sN<|bE h fun o35 ho35 h => ?_
 cases oI h
 refine WC.block (WC.loop (WL.ofLoopEnd ho35 (fun s R' B' => ghosts prog 1 (A R' B') (au.at_ 147 1 1) = some (A [(0, .ref 0 0), (1, rI a1), (2, rI a2), (3, .d (.raw (.func (.func 82) #[] #[]))), (8, rI s.1)] [(0, .arr 0 52 (s.2.map aa.pd))])) rfl ?_))
 rintro ⟨s1, s2⟩ R' B' q3 hI h
 refine qS<|gS rfl hI<|sM rfl<|sM rfl<|sF h (fun h => ?_) fun h => ?_
 ·refine sN<|cT<|qK<|qS<|qB<|gS rfl rfl<|sM rfl<|sA rfl<|sN<|bE h fun o32 ho32 h => WC.block (WC.loop (WL.ofLoop ho32 (fun s R' B' => ghosts prog 1 (A R' B') (au.at_ 147 1 4) = some (A [(0, .ref 0 0), (1, rI a1), (2, rI a2), (3, .d (.raw (.func (.func 82) #[] #[]))), (8, rI s1), (9, rI s.1)] [(0, .arr 0 52 (s.2.map aa.pd))])) (fun o e R' B' => e = .exit 2 ∧ ghosts prog 1 (A R' B') (au.at_ 147 1 2) = some (A [(0, .ref 0 0), (1, rI a1), (2, rI a2), (3, .d (.raw (.func (.func 82) #[] #[]))), (8, rI o.1)] [(0, .arr 0 52 (o.2.map aa.pd))])) rfl ?_ ?_))
  ·rintro ⟨s5, s6⟩ R' B' q9 hI h
   refine qS<|WC.regionDSeq hI rfl<|sM rfl<|sM rfl<|sF h (fun h => ?_) fun h => ?_
   ·refine sM rfl<|sM rfl<|sM rfl<|sM rfl<|bE h fun x12 hx12 h => WO.eltG hx12 rfl rfl rfl rfl rfl rfl rfl rfl<|bE h fun x13 hx13 h => WO.loadE hx13 rfl rfl rfl rfl rfl rfl<|sM rfl<|sM rfl<|sV (rI (rW (s5 - (1 : Int))))<|bE h fun x15 hx15 h => WO.eltG hx15 rfl rfl rfl rfl rfl rfl rfl rfl<|bE h fun x16 hx16 h => WO.loadE hx16 rfl rfl rfl rfl rfl rfl ?_
    refine bE h fun x17 hx17 h => cD (cz hx17)<|sV (rB (decide (x17 < (0 : Int))))<|sF h (fun h => ?_) fun h => ?_
    ·refine sN<|sO<|cT<|qK<|qS<|qB<|WC.regionD rfl rfl<|sM rfl<|sM rfl<|sM rfl<|sM rfl<|sV (rI (rW (s5 - (1 : Int))))<|sM rfl<|sM rfl<|sV (rI (rW (s5 - (1 : Int))))<|bE h fun x20 hx20 h => ?_
     refine WO.eltG hx20 rfl rfl rfl rfl rfl rfl rfl rfl<|bE h fun x21 hx21 h => WO.loadE hx21 rfl rfl rfl rfl rfl rfl<|sM rfl<|sM rfl<|bE h fun x23 hx23 h => WO.eltG hx23 rfl rfl rfl rfl rfl rfl rfl rfl<|bE h fun x24 hx24 h => WO.loadE hx24 rfl rfl rfl rfl rfl rfl<|bE h fun x26 hx26 h => WO.eltG hx26 rfl rfl rfl rfl rfl rfl rfl rfl<|bE h fun x27 hx27 h => WO.storeE (g := aa.pd) (sz := 9) (p := aa.pd x21) hx27 (by intro _; kernel_rfl) (by intro _; kernel_rfl) rfl rfl rfl rfl rfl rfl rfl rfl rfl<|bE h fun x29 hx29 h => WO.eltG hx29 rfl rfl rfl rfl rfl rfl rfl rfl ?_
     refine bE h fun x30 hx30 h => WO.storeE (g := aa.pd) (sz := 9) (p := aa.pd x24) hx30 (by intro _; kernel_rfl) (by intro _; kernel_rfl) rfl rfl rfl rfl rfl rfl rfl rfl rfl ?_
     refine sN<|sO<|WC.region rfl rfl<|sM rfl<|sV (rI (rW (s5 - (1 : Int))))<|sA rfl<|sN ?_
     cases oI h
     exact ⟨rfl, rfl⟩
    refine sN<|sO<|cF<|qX ?_
    cases oI h
    exact ⟨nofun, rfl, rfl⟩
   refine sM rfl<|k3<|k3<|k3<|k3<|sU ?_
   refine sN<|sO<|cF<|qX ?_
   cases oI h
   exact ⟨nofun, rfl, rfl⟩
  intro e R' B' he hq
  obtain ⟨rfl, hI⟩ := hq
  refine qE<|WC.region hI rfl<|sM rfl<|sV (rI (rW (o32.1 + (1 : Int))))<|sA rfl<|sN ?_
  cases oI h
  exact ⟨rfl, rfl⟩
 refine sN<|cF<|qX<|bind_elim h (fun z33 hkz33 hz => ?_)
 obtain rfl := Option.some.inj hz
 refine ⟨(fun he => by cases he), fun hz2 => ?_⟩
 subst hz2
 have h := hkz33
 refine qE ?_
 cases oI h
 exact qD
theorem ca {a1 : Int} {a2 : Int} {a3 : Int} {d0 : (List aa)} {r : (List aa)} (h : aV a1 a2 a3 d0 = some r) : EvP prog au ext 216 [.ref 0 0, rI a1, rI a2, rI a3, .d (.raw (.func (.func 82) #[] #[]))] [.arr 0 52 (d0.map aa.pd)] (.tup [], [.arr 0 52 (r.map aa.pd)]) := by
 refine Ev.body rfl Tryz.func216 rfl (by kernel_rfl)<|gS rfl rfl<|sV (r0)<|sN<|bE h fun o19 ho19 h => ?_
 cases oI h
 refine WC.block (WC.loop (WL.ofLoopEnd ho19 (fun s R' B' => ghosts prog 1 (A R' B') (au.at_ 216 1 1) = some (A [(0, .ref 0 0), (1, rI a1), (2, rI a2), (3, rI a3), (10, rI s.1)] [(0, .arr 0 52 (s.2.map aa.pd))])) rfl ?_))
 rintro ⟨s1, s2⟩ R' B' q3 hI h
 refine qS<|gS rfl hI<|sM rfl<|sM rfl<|sF h (fun h => ?_) fun h => ?_
 ·refine sN<|cT<|qK<|qS<|qB<|WC.regionD rfl rfl<|sM rfl<|sM rfl<|sM rfl<|sV (rI (rW (a1 + s1)))<|sM rfl<|sM rfl<|sM rfl<|sV (rI (rW (a2 + s1)))<|sM rfl ?_
  refine sM rfl<|sM rfl<|sV (rI (rW (a2 + s1)))<|bE h fun x6 hx6 h => WO.eltG hx6 rfl rfl rfl rfl rfl rfl rfl rfl<|bE h fun x7 hx7 h => WO.loadE hx7 rfl rfl rfl rfl rfl rfl<|sM rfl<|sM rfl<|sM rfl<|sV (rI (rW (a1 + s1)))<|bE h fun x9 hx9 h => WO.eltG hx9 rfl rfl rfl rfl rfl rfl rfl rfl<|bE h fun x10 hx10 h => WO.loadE hx10 rfl rfl rfl rfl rfl rfl ?_
  refine bE h fun x12 hx12 h => WO.eltG hx12 rfl rfl rfl rfl rfl rfl rfl rfl<|bE h fun x13 hx13 h => WO.storeE (g := aa.pd) (sz := 9) (p := aa.pd x7) hx13 (by intro _; kernel_rfl) (by intro _; kernel_rfl) rfl rfl rfl rfl rfl rfl rfl rfl rfl<|bE h fun x15 hx15 h => WO.eltG hx15 rfl rfl rfl rfl rfl rfl rfl rfl<|bE h fun x16 hx16 h => WO.storeE (g := aa.pd) (sz := 9) (p := aa.pd x10) hx16 (by intro _; kernel_rfl) (by intro _; kernel_rfl) rfl rfl rfl rfl rfl rfl rfl rfl rfl ?_
  refine sN<|sO<|WC.region rfl rfl<|sM rfl<|sV (rI (rW (s1 + (1 : Int))))<|sA rfl<|sN ?_
  cases oI h
  exact ⟨rfl, rfl⟩
 refine sN<|cF<|qX<|bind_elim h (fun z17 hkz17 hz => ?_)
 obtain rfl := Option.some.inj hz
 refine ⟨(fun he => by cases he), fun hz2 => ?_⟩
 subst hz2
 have h := hkz17
 refine qE ?_
 cases oI h
 exact qD
theorem fo {a1 : Int} {a2 : Int} {a3 : Int} {d0 : (List aa)} {r : (List aa)} (h : bU a1 a2 a3 d0 = some r) : EvP prog au ext 194 [.ref 0 0, rI a1, rI a2, rI a3, .d (.raw (.func (.func 82) #[] #[]))] [.arr 0 52 (d0.map aa.pd)] (.tup [], [.arr 0 52 (r.map aa.pd)]) := by
 refine Ev.body rfl Tryz.func194 rfl (by kernel_rfl)<|gS rfl rfl<|sM rfl<|sM rfl<|sV (rI (rW (a2 - a1)))<|sA rfl<|sN<|gS rfl rfl<|sM rfl<|sM rfl<|sV (rI (rW (a3 - a2)))<|sA rfl<|sN<|qS<|bE h fun o12 ho12 h => ?_
 refine WC.block (WC.loop (WL.ofLoop ho12 (fun s R' B' => ghosts prog 1 (A R' B') (au.at_ 194 1 2) = some (A [(0, .ref 0 0), (2, rI a2), (4, .d (.raw (.func (.func 82) #[] #[]))), (10, rI s.1), (11, rI s.2.1)] [(0, .arr 0 52 (s.2.2.map aa.pd))])) (fun o e R' B' => e = .exit 0 ∧ ghosts prog 1 (A R' B') (au.at_ 194 1 8) = some (A [(0, .ref 0 0), (2, rI a2), (4, .d (.raw (.func (.func 82) #[] #[]))), (10, rI o.1)] [(0, .arr 0 52 (o.2.map aa.pd))])) rfl ?_ ?_))
 ·rintro ⟨s1, s2, s3⟩ R' B' q6 hI h
  refine qS<|gS rfl hI<|sM rfl<|sM rfl<|sF h (fun h => ?_) fun h => ?_
  ·refine sN<|cT<|qK<|qB<|gS rfl rfl<|sM rfl<|sM rfl<|sF h (fun h => ?_) fun h => ?_
   ·refine sN<|cT<|gS rfl rfl<|sM rfl<|sM rfl<|sM rfl<|sV (rI (rW (a2 - s1)))<|sM rfl<|sM rfl<|sM rfl<|bE h fun x9 hx9 h => cR (.tup []) [(0, .arr 0 52 (x9.map aa.pd))] (ca hx9)<|sN<|WC.region rfl rfl<|sM rfl ?_
    refine sM rfl<|sV (rI (rW (s1 - s2)))<|sA rfl<|sN ?_
    cases oI h
    exact ⟨rfl, rfl⟩
   refine sN<|cF<|gS rfl rfl<|sM rfl<|sM rfl<|sM rfl<|sV (rI (rW (a2 - s1)))<|sM rfl<|sM rfl<|sV (rI (rW (a2 + s2)))<|sM rfl<|sV (rI (rW ((rW (a2 + s2)) - s1)))<|sM rfl<|sM rfl<|bE h fun x10 hx10 h => ?_
   refine cR (.tup []) [(0, .arr 0 52 (x10.map aa.pd))] (ca hx10)<|sN<|WC.region rfl rfl<|sM rfl<|sM rfl<|sV (rI (rW (s2 - s1)))<|sA rfl<|sN ?_
   cases oI h
   exact ⟨rfl, rfl⟩
  refine sN<|cF<|qX ?_
  cases oI h
  exact ⟨nofun, rfl, rfl⟩
 intro e R' B' he hq
 obtain ⟨rfl, hI⟩ := hq
 refine qE<|WC.region hI rfl<|sM rfl<|sM rfl<|sM rfl<|sV (rI (rW (a2 - o12.1)))<|sM rfl<|sM rfl<|sM rfl<|bE h fun x13 hx13 h => cR (.tup []) [(0, .arr 0 52 (x13.map aa.pd))] (ca hx13)<|sN ?_
 cases oI h
 exact qD
theorem cb : ∀ (nfu : Nat) {a1 : Int} {a2 : Int} {a3 : Int} {d0 : (List aa)} {r : (List aa)} (_ : aB nfu a1 a2 a3 d0 = some r), EvP prog au ext 157 [.ref 0 0, rI a1, rI a2, rI a3, .d (.raw (.func (.func 82) #[] #[]))] [.arr 0 52 (d0.map aa.pd)] (.tup [], [.arr 0 52 (r.map aa.pd)])
  | 0, _, _, _, _,  _, h => by cases h
  | nfu + 1, a1, a2, a3, d0,  r, h => by
   refine Ev.body rfl Tryz.func157 rfl (by kernel_rfl)<|qS<|gS rfl rfl<|sM rfl<|sM rfl<|sV (rI (rW (a2 - a1)))<|sF h (fun h => ?_) fun h => ?_
   ·refine sN<|cT<|gS rfl rfl<|sM rfl<|sA rfl<|sN<|gS rfl rfl<|sM rfl<|sA rfl<|sN<|qS<|bE h fun o16 ho16 h => WC.block (WC.loop (WL.ofLoop ho16 (fun s R' B' => ghosts prog 1 (A R' B') (au.at_ 157 1 3) = some (A [(0, .ref 0 0), (1, rI a1), (4, .d (.raw (.func (.func 82) #[] #[]))), (10, rI s.1), (11, rI s.2)] [(0, .arr 0 52 (d0.map aa.pd))])) (fun o e R' B' => e = .exit 0 ∧ ghosts prog 1 (A R' B') (au.at_ 157 1 8) = some (A [(0, .ref 0 0), (1, rI a1), (10, rI o)] [(0, .arr 0 52 (d0.map aa.pd))])) rfl ?_ ?_))
    ·rintro ⟨s2, s3⟩ R' B' q5 hI h
     refine qS<|gS rfl hI<|sM rfl<|sM rfl<|sF h (fun h => ?_) fun h => ?_
     ·refine sN<|cT<|qK<|qB<|gS rfl rfl<|sM rfl<|sM rfl<|sV (rI (rW (s2 + s3)))<|sV (.d (.int .u64 (IntKind.wrap .u64 (rW (s2 + s3)))))<|sV (.d (.int .u64 (shrI .u64 (IntKind.wrap .u64 (rW (s2 + s3))) (1 : Int))))<|sV (rI (rW (shrI .u64 (IntKind.wrap .u64 (rW (s2 + s3))) (1 : Int))))<|sA rfl<|sN<|WC.regionDSeq rfl rfl<|sM rfl ?_
      refine sM rfl<|sM rfl<|bE h fun x8 hx8 h => WO.eltG hx8 rfl rfl rfl rfl rfl rfl rfl rfl<|bE h fun x9 hx9 h => WO.loadE hx9 rfl rfl rfl rfl rfl rfl<|sM rfl<|sM rfl<|bE h fun x11 hx11 h => WO.eltG hx11 rfl rfl rfl rfl rfl rfl rfl rfl<|bE h fun x12 hx12 h => WO.loadE hx12 rfl rfl rfl rfl rfl rfl<|bE h fun x13 hx13 h => cD (cz hx13)<|sF h (fun h => ?_) fun h => ?_
      ·refine sN<|sO<|cT<|WC.region rfl rfl<|sM rfl<|sV (rI (rW ((rW (shrI .u64 (IntKind.wrap .u64 (rW (s2 + s3))) (1 : Int))) + (1 : Int))))<|sA rfl<|sN ?_
       cases oI h
       exact ⟨rfl, rfl⟩
      refine sN<|sO<|cF<|WC.region rfl rfl<|sM rfl<|sA rfl<|sN ?_
      cases oI h
      exact ⟨rfl, rfl⟩
     refine sN<|cF<|qX ?_
     cases oI h
     exact ⟨nofun, rfl, rfl⟩
    intro e R' B' he hq
    obtain ⟨rfl, hI⟩ := hq
    refine qE<|qS<|gS rfl hI<|sM rfl<|sA rfl<|sN<|bE h fun o35 ho35 h => ?_
    cases oI h
    refine WC.block (WC.loop (WL.ofLoopEnd ho35 (fun s R' B' => ghosts prog 1 (A R' B') (au.at_ 157 1 9) = some (A [(0, .ref 0 0), (10, rI o16), (13, rI s.1)] [(0, .arr 0 52 (s.2.map aa.pd))])) rfl ?_))
    rintro ⟨s17, s18⟩ R' B' q19 hI h
    refine qS<|gS rfl hI<|sM rfl<|sM rfl<|sV (rI (rW (o16 - (1 : Int))))<|sF h (fun h => ?_) fun h => ?_
    ·refine sN<|cT<|qK<|qS<|qB<|WC.regionD rfl rfl<|sM rfl<|sM rfl<|sM rfl<|sM rfl<|sV (rI (rW (s17 + (1 : Int))))<|sM rfl<|sM rfl<|sV (rI (rW (s17 + (1 : Int))))<|bE h fun x22 hx22 h => ?_
     refine WO.eltG hx22 rfl rfl rfl rfl rfl rfl rfl rfl<|bE h fun x23 hx23 h => WO.loadE hx23 rfl rfl rfl rfl rfl rfl<|sM rfl<|sM rfl<|bE h fun x25 hx25 h => WO.eltG hx25 rfl rfl rfl rfl rfl rfl rfl rfl<|bE h fun x26 hx26 h => WO.loadE hx26 rfl rfl rfl rfl rfl rfl<|bE h fun x28 hx28 h => WO.eltG hx28 rfl rfl rfl rfl rfl rfl rfl rfl<|bE h fun x29 hx29 h => WO.storeE (g := aa.pd) (sz := 9) (p := aa.pd x23) hx29 (by intro _; kernel_rfl) (by intro _; kernel_rfl) rfl rfl rfl rfl rfl rfl rfl rfl rfl<|bE h fun x31 hx31 h => WO.eltG hx31 rfl rfl rfl rfl rfl rfl rfl rfl ?_
     refine bE h fun x32 hx32 h => WO.storeE (g := aa.pd) (sz := 9) (p := aa.pd x26) hx32 (by intro _; kernel_rfl) (by intro _; kernel_rfl) rfl rfl rfl rfl rfl rfl rfl rfl rfl ?_
     refine sN<|sO<|WC.region rfl rfl<|sM rfl<|sV (rI (rW (s17 + (1 : Int))))<|sA rfl<|sN ?_
     cases oI h
     exact ⟨rfl, rfl⟩
    refine sN<|cF<|qX<|bind_elim h (fun z33 hkz33 hz => ?_)
    obtain rfl := Option.some.inj hz
    refine ⟨(fun he => by cases he), fun hz2 => ?_⟩
    subst hz2
    have h := hkz33
    refine qE<|qR ?_
    cases oI h
    exact qD
   refine sN<|cF<|qK<|qS<|gS rfl rfl<|sM rfl<|sM rfl<|sV (rI (rW (a3 - a2)))<|sF h (fun h => ?_) fun h => ?_
   ·refine sN<|cT<|gS rfl rfl<|sM rfl<|sA rfl<|sN<|gS rfl rfl<|sM rfl<|sA rfl<|sN<|qS<|bE h fun o51 ho51 h => WC.block (WC.loop (WL.ofLoop ho51 (fun s R' B' => ghosts prog 1 (A R' B') (au.at_ 157 1 15) = some (A [(0, .ref 0 0), (2, rI a2), (4, .d (.raw (.func (.func 82) #[] #[]))), (14, rI s.1), (15, rI s.2)] [(0, .arr 0 52 (d0.map aa.pd))])) (fun o e R' B' => e = .exit 4 ∧ ghosts prog 1 (A R' B') (au.at_ 157 1 20) = some (A [(0, .ref 0 0), (2, rI a2), (14, rI o)] [(0, .arr 0 52 (d0.map aa.pd))])) rfl ?_ ?_))
    ·rintro ⟨s37, s38⟩ R' B' q40 hI h
     refine qS<|gS rfl hI<|sM rfl<|sM rfl<|sF h (fun h => ?_) fun h => ?_
     ·refine sN<|cT<|qK<|qB<|gS rfl rfl<|sM rfl<|sM rfl<|sV (rI (rW (s37 + s38)))<|sV (.d (.int .u64 (IntKind.wrap .u64 (rW (s37 + s38)))))<|sV (.d (.int .u64 (shrI .u64 (IntKind.wrap .u64 (rW (s37 + s38))) (1 : Int))))<|sV (rI (rW (shrI .u64 (IntKind.wrap .u64 (rW (s37 + s38))) (1 : Int))))<|sA rfl<|sN<|WC.regionDSeq rfl rfl<|sM rfl ?_
      refine sM rfl<|sM rfl<|bE h fun x43 hx43 h => WO.eltG hx43 rfl rfl rfl rfl rfl rfl rfl rfl<|bE h fun x44 hx44 h => WO.loadE hx44 rfl rfl rfl rfl rfl rfl<|sM rfl<|sM rfl<|bE h fun x46 hx46 h => WO.eltG hx46 rfl rfl rfl rfl rfl rfl rfl rfl<|bE h fun x47 hx47 h => WO.loadE hx47 rfl rfl rfl rfl rfl rfl<|bE h fun x48 hx48 h => cD (cz hx48)<|sV (rB (decide (x48 < (0 : Int)))) ?_
      refine sF h (fun h => ?_) fun h => ?_
      ·refine sN<|sO<|cT<|WC.region rfl rfl<|sM rfl<|sV (rI (rW ((rW (shrI .u64 (IntKind.wrap .u64 (rW (s37 + s38))) (1 : Int))) + (1 : Int))))<|sA rfl<|sN ?_
       cases oI h
       exact ⟨rfl, rfl⟩
      refine sN<|sO<|cF<|WC.region rfl rfl<|sM rfl<|sA rfl<|sN ?_
      cases oI h
      exact ⟨rfl, rfl⟩
     refine sN<|cF<|qX ?_
     cases oI h
     exact ⟨nofun, rfl, rfl⟩
    intro e R' B' he hq
    obtain ⟨rfl, hI⟩ := hq
    refine qE<|qS<|gS rfl hI<|sM rfl<|sA rfl<|sN<|bE h fun o70 ho70 h => ?_
    cases oI h
    refine WC.block (WC.loop (WL.ofLoopEnd ho70 (fun s R' B' => ghosts prog 1 (A R' B') (au.at_ 157 1 21) = some (A [(0, .ref 0 0), (14, rI o51), (17, rI s.1)] [(0, .arr 0 52 (s.2.map aa.pd))])) rfl ?_))
    rintro ⟨s52, s53⟩ R' B' q54 hI h
    refine qS<|gS rfl hI<|sM rfl<|sM rfl<|sF h (fun h => ?_) fun h => ?_
    ·refine sN<|cT<|qK<|qS<|qB<|WC.regionD rfl rfl<|sM rfl<|sM rfl<|sM rfl<|sM rfl<|sV (rI (rW (s52 - (1 : Int))))<|sM rfl<|sM rfl<|sV (rI (rW (s52 - (1 : Int))))<|bE h fun x57 hx57 h => ?_
     refine WO.eltG hx57 rfl rfl rfl rfl rfl rfl rfl rfl<|bE h fun x58 hx58 h => WO.loadE hx58 rfl rfl rfl rfl rfl rfl<|sM rfl<|sM rfl<|bE h fun x60 hx60 h => WO.eltG hx60 rfl rfl rfl rfl rfl rfl rfl rfl<|bE h fun x61 hx61 h => WO.loadE hx61 rfl rfl rfl rfl rfl rfl<|bE h fun x63 hx63 h => WO.eltG hx63 rfl rfl rfl rfl rfl rfl rfl rfl<|bE h fun x64 hx64 h => WO.storeE (g := aa.pd) (sz := 9) (p := aa.pd x58) hx64 (by intro _; kernel_rfl) (by intro _; kernel_rfl) rfl rfl rfl rfl rfl rfl rfl rfl rfl<|bE h fun x66 hx66 h => WO.eltG hx66 rfl rfl rfl rfl rfl rfl rfl rfl ?_
     refine bE h fun x67 hx67 h => WO.storeE (g := aa.pd) (sz := 9) (p := aa.pd x61) hx67 (by intro _; kernel_rfl) (by intro _; kernel_rfl) rfl rfl rfl rfl rfl rfl rfl rfl rfl ?_
     refine sN<|sO<|WC.region rfl rfl<|sM rfl<|sV (rI (rW (s52 - (1 : Int))))<|sA rfl<|sN ?_
     cases oI h
     exact ⟨rfl, rfl⟩
    refine sN<|cF<|qX<|bind_elim h (fun z68 hkz68 hz => ?_)
    obtain rfl := Option.some.inj hz
    refine ⟨(fun he => by cases he), fun hz2 => ?_⟩
    subst hz2
    have h := hkz68
    refine qE<|qR ?_
    cases oI h
    exact qD
   refine sN<|cF<|qK<|gS rfl rfl<|sM rfl<|sM rfl<|sV (rI (rW (a1 + a3)))<|sV (.d (.int .u64 (IntKind.wrap .u64 (rW (a1 + a3)))))<|sV (.d (.int .u64 (shrI .u64 (IntKind.wrap .u64 (rW (a1 + a3))) (1 : Int))))<|sV (rI (rW (shrI .u64 (IntKind.wrap .u64 (rW (a1 + a3))) (1 : Int))))<|sA rfl<|sN<|gS rfl rfl<|sM rfl<|sM rfl ?_
   refine sV (rI (rW ((rW (shrI .u64 (IntKind.wrap .u64 (rW (a1 + a3))) (1 : Int))) + a2)))<|sA rfl<|sN<|gS rfl rfl<|sV (r0)<|sV (r0)<|sN<|WC.join (α := Int × Int) (fun x R' B' => ghosts prog 1 (A R' B') (au.at_ 157 1 32) = some (A [(0, .ref 0 0), (1, rI a1), (2, rI a2), (3, rI a3), (4, .d (.raw (.func (.func 82) #[] #[]))), (18, rI (rW (shrI .u64 (IntKind.wrap .u64 (rW (a1 + a3))) (1 : Int)))), (19, rI (rW ((rW (shrI .u64 (IntKind.wrap .u64 (rW (a1 + a3))) (1 : Int))) + a2))), (20, rI x.1), (21, rI x.2)] [(0, .arr 0 52 (d0.map aa.pd))])) (fun x => aJ d0 a1 a3 a2 (aB nfu) x.1 x.2 = some r) ?_ ?_
   ·refine gS rfl rfl<|sM rfl<|sM rfl<|sF h (fun h => ?_) fun h => ?_
    ·exact sN<|cT<|gS rfl rfl<|sM rfl<|sM rfl<|sV (rI (rW ((rW ((rW (shrI .u64 (IntKind.wrap .u64 (rW (a1 + a3))) (1 : Int))) + a2)) - a3)))<|sA rfl<|sN<|WC.region rfl rfl<|sM rfl<|sA rfl<|sN<|⟨((rW ((rW ((rW (shrI .u64 (IntKind.wrap .u64 (rW (a1 + a3))) (1 : Int))) + a2)) - a3)), (rW (shrI .u64 (IntKind.wrap .u64 (rW (a1 + a3))) (1 : Int)))), rfl, h⟩
    exact sN<|cF<|gS rfl rfl<|sM rfl<|sA rfl<|sN<|WC.region rfl rfl<|sM rfl<|sA rfl<|sN<|⟨(a1, a2), rfl, h⟩
   rintro ⟨j71, j72⟩ R' B' hI h
   refine gS rfl hI<|sM rfl<|sV (rI (rW ((rW ((rW (shrI .u64 (IntKind.wrap .u64 (rW (a1 + a3))) (1 : Int))) + a2)) - (1 : Int))))<|sA rfl<|sN<|qS<|bE h fun o87 ho87 h => WC.block (WC.loop (WL.ofLoop ho87 (fun s R' B' => ghosts prog 1 (A R' B') (au.at_ 157 1 33) = some (A [(0, .ref 0 0), (1, rI a1), (2, rI a2), (3, rI a3), (4, .d (.raw (.func (.func 82) #[] #[]))), (18, rI (rW (shrI .u64 (IntKind.wrap .u64 (rW (a1 + a3))) (1 : Int)))), (19, rI (rW ((rW (shrI .u64 (IntKind.wrap .u64 (rW (a1 + a3))) (1 : Int))) + a2))), (20, rI s.1), (21, rI s.2), (22, rI (rW ((rW ((rW (shrI .u64 (IntKind.wrap .u64 (rW (a1 + a3))) (1 : Int))) + a2)) - (1 : Int))))] [(0, .arr 0 52 (d0.map aa.pd))])) (fun o e R' B' => e = .exit 8 ∧ ghosts prog 1 (A R' B') (au.at_ 157 1 38) = some (A [(0, .ref 0 0), (1, rI a1), (2, rI a2), (3, rI a3), (4, .d (.raw (.func (.func 82) #[] #[]))), (18, rI (rW (shrI .u64 (IntKind.wrap .u64 (rW (a1 + a3))) (1 : Int)))), (19, rI (rW ((rW (shrI .u64 (IntKind.wrap .u64 (rW (a1 + a3))) (1 : Int))) + a2))), (20, rI o)] [(0, .arr 0 52 (d0.map aa.pd))])) rfl ?_ ?_))
   ·rintro ⟨s73, s74⟩ R' B' q76 hI h
    refine qS<|gS rfl hI<|sM rfl<|sM rfl<|sF h (fun h => ?_) fun h => ?_
    ·refine sN<|cT<|qK<|qB<|gS rfl rfl<|sM rfl<|sM rfl<|sV (rI (rW (s73 + s74)))<|sV (.d (.int .u64 (IntKind.wrap .u64 (rW (s73 + s74)))))<|sV (.d (.int .u64 (shrI .u64 (IntKind.wrap .u64 (rW (s73 + s74))) (1 : Int))))<|sV (rI (rW (shrI .u64 (IntKind.wrap .u64 (rW (s73 + s74))) (1 : Int))))<|sA rfl<|sN<|WC.regionDSeq rfl rfl<|sM rfl ?_
     refine sM rfl<|sM rfl<|sM rfl<|sV (rI (rW ((rW ((rW ((rW (shrI .u64 (IntKind.wrap .u64 (rW (a1 + a3))) (1 : Int))) + a2)) - (1 : Int))) - (rW (shrI .u64 (IntKind.wrap .u64 (rW (s73 + s74))) (1 : Int))))))<|bE h fun x79 hx79 h => WO.eltG hx79 rfl rfl rfl rfl rfl rfl rfl rfl<|bE h fun x80 hx80 h => WO.loadE hx80 rfl rfl rfl rfl rfl rfl<|sM rfl<|sM rfl<|bE h fun x82 hx82 h => WO.eltG hx82 rfl rfl rfl rfl rfl rfl rfl rfl<|bE h fun x83 hx83 h => WO.loadE hx83 rfl rfl rfl rfl rfl rfl<|bE h fun x84 hx84 h => ?_
     refine cD (cz hx84)<|sV (rB (decide (x84 < (0 : Int))))<|sF h (fun h => ?_) fun h => ?_
     ·refine sN<|sO<|cT<|WC.region rfl rfl<|sM rfl<|sV (rI (rW ((rW (shrI .u64 (IntKind.wrap .u64 (rW (s73 + s74))) (1 : Int))) + (1 : Int))))<|sA rfl<|sN ?_
      cases oI h
      exact ⟨rfl, rfl⟩
     refine sN<|sO<|cF<|WC.region rfl rfl<|sM rfl<|sA rfl<|sN ?_
     cases oI h
     exact ⟨rfl, rfl⟩
    refine sN<|cF<|qX ?_
    cases oI h
    exact ⟨nofun, rfl, rfl⟩
   intro e R' B' he hq
   obtain ⟨rfl, hI⟩ := hq
   refine qE<|gS rfl hI<|sM rfl<|sM rfl<|sV (rI (rW ((rW ((rW (shrI .u64 (IntKind.wrap .u64 (rW (a1 + a3))) (1 : Int))) + a2)) - o87)))<|sA rfl<|sN<|WC.join (α := (List aa)) (fun x R' B' => ghosts prog 1 (A R' B') (au.at_ 157 1 41) = some (A [(0, .ref 0 0), (1, rI a1), (3, rI a3), (4, .d (.raw (.func (.func 82) #[] #[]))), (18, rI (rW (shrI .u64 (IntKind.wrap .u64 (rW (a1 + a3))) (1 : Int)))), (20, rI o87), (24, rI (rW ((rW ((rW (shrI .u64 (IntKind.wrap .u64 (rW (a1 + a3))) (1 : Int))) + a2)) - o87)))] [(0, .arr 0 52 (x.map aa.pd))])) (fun x => aI a1 o87 a3 (aB nfu) a2 x = some r) ?_ ?_
   ·refine gS rfl rfl<|sM rfl<|sM rfl<|sF h (fun h => ?_) fun h => ?_
    ·refine sM rfl<|sM rfl<|sM rfl<|sV (rB (decide (a2 < (rW ((rW ((rW (shrI .u64 (IntKind.wrap .u64 (rW (a1 + a3))) (1 : Int))) + a2)) - o87)))))<|sF h (fun h => ?_) fun h => ?_
     ·exact sN<|cT<|WC.region rfl rfl<|sM rfl<|sM rfl<|sM rfl<|sM rfl<|sM rfl<|bE h fun x100 hx100 h => cR (.tup []) [(0, .arr 0 52 (x100.map aa.pd))] (fo hx100)<|sN<|⟨x100, rfl, h⟩
     exact sN<|cF<|qK<|⟨d0, rfl, h⟩
    exact sM rfl<|k3<|sU<|sN<|cF<|qK<|⟨d0, rfl, h⟩
   rintro j88 R' B' hI h
   refine WC.join (α := (List aa)) (fun x R' B' => ghosts prog 1 (A R' B') (au.at_ 157 1 43) = some (A [(0, .ref 0 0), (3, rI a3), (4, .d (.raw (.func (.func 82) #[] #[]))), (18, rI (rW (shrI .u64 (IntKind.wrap .u64 (rW (a1 + a3))) (1 : Int)))), (24, rI (rW ((rW ((rW (shrI .u64 (IntKind.wrap .u64 (rW (a1 + a3))) (1 : Int))) + a2)) - o87)))] [(0, .arr 0 52 (x.map aa.pd))])) (fun x => aH a1 a3 a2 o87 (aB nfu) x = some r) ?_ ?_
   ·refine gS rfl hI<|sM rfl<|sM rfl<|sF h (fun h => ?_) fun h => ?_
    ·refine sM rfl<|sM rfl<|sM rfl<|sV (rB (decide (o87 < (rW (shrI .u64 (IntKind.wrap .u64 (rW (a1 + a3))) (1 : Int))))))<|sF h (fun h => ?_) fun h => ?_
     ·exact sN<|cT<|WC.region rfl rfl<|sM rfl<|sM rfl<|sM rfl<|sM rfl<|sM rfl<|bE h fun x96 hx96 h => cR (.tup []) [(0, .arr 0 52 (x96.map aa.pd))] (cb nfu hx96)<|sN<|⟨x96, rfl, h⟩
     exact sN<|cF<|qK<|⟨j88, rfl, h⟩
    exact sM rfl<|k3<|sU<|sN<|cF<|qK<|⟨j88, rfl, h⟩
   rintro j89 R' B' hI h
   refine gS rfl hI<|sM rfl<|sM rfl<|sF h (fun h => ?_) fun h => ?_
   ·refine sM rfl<|sM rfl<|sM rfl<|sV (rB (decide ((rW ((rW ((rW (shrI .u64 (IntKind.wrap .u64 (rW (a1 + a3))) (1 : Int))) + a2)) - o87)) < a3)))<|sF h (fun h => ?_) fun h => ?_
    ·refine sN<|cT<|WC.region rfl rfl<|sM rfl<|sM rfl<|sM rfl<|sM rfl<|sM rfl<|bE h fun x92 hx92 h => cR (.tup []) [(0, .arr 0 52 (x92.map aa.pd))] (cb nfu hx92)<|sN ?_
     cases oI h
     exact qD
    refine sN<|cF<|qK ?_
    cases oI h
    exact qD
   refine sM rfl<|k3<|sU<|sN<|cF<|qK ?_
   cases oI h
   exact qD
theorem dz {a1 : Int} {a2 : Int} {a3 : Int} {d0 : (List aa)} {r : (List aa)} (h : bH a1 a2 a3 d0 = some r) : EvP prog au ext 157 [.ref 0 0, rI a1, rI a2, rI a3, .d (.raw (.func (.func 82) #[] #[]))] [.arr 0 52 (d0.map aa.pd)] (.tup [], [.arr 0 52 (r.map aa.pd)]) :=
  let ⟨n, hn⟩ := recO_some h; cb n hn
theorem fq {a1 : Int} {d0 : (List aa)} {r : (List aa)} (h : bq a1 d0 = some r) : EvP prog au ext 125 [.ref 0 0, rI a1, .d (.raw (.func (.func 82) #[] #[]))] [.arr 0 52 (d0.map aa.pd)] (.tup [], [.arr 0 52 (r.map aa.pd)]) := by
 refine Ev.body rfl Tryz.func125 rfl (by kernel_rfl)<|gS rfl rfl<|sV (rI 20)<|sN<|gS rfl rfl<|sM rfl<|sV (r0)<|sA rfl<|sN<|qS<|bE h fun o10 ho10 h => WC.block (WC.loop (WL.ofLoop ho10 (fun s R' B' => ghosts prog 1 (A R' B') (au.at_ 125 1 2) = some (A [(0, .ref 0 0), (1, rI a1), (2, .d (.raw (.func (.func 82) #[] #[]))), (6, rI 20), (7, rI s.1), (8, rI s.2.1)] [(0, .arr 0 52 (s.2.2.map aa.pd))])) (fun o e R' B' => e = .exit 0 ∧ ghosts prog 1 (A R' B') (au.at_ 125 1 6) = some (A [(0, .ref 0 0), (1, rI a1), (2, .d (.raw (.func (.func 82) #[] #[]))), (6, rI 20), (7, rI o.1)] [(0, .arr 0 52 (o.2.map aa.pd))])) rfl ?_ ?_))
 ·rintro ⟨s1, s2, s3⟩ R' B' q6 hI h
  refine qS<|gS rfl hI<|sM rfl<|sM rfl<|sF h (fun h => ?_) fun h => ?_
  ·refine sN<|cT<|qK<|qB<|gS rfl rfl<|sM rfl<|sM rfl<|sM rfl<|sM rfl<|bE h fun x8 hx8 h => cR (.tup []) [(0, .arr 0 52 (x8.map aa.pd))] (cP hx8)<|sN<|gS rfl rfl<|sM rfl<|sA rfl ?_
   refine sN<|WC.region rfl rfl<|sM rfl<|sM rfl<|sV (rI (rW (s2 + (20 : Int))))<|sA rfl<|sN ?_
   cases oI h
   exact ⟨rfl, rfl⟩
  refine sN<|cF<|qX ?_
  cases oI h
  exact ⟨nofun, rfl, rfl⟩
 intro e R' B' he hq
 obtain ⟨rfl, hI⟩ := hq
 refine qE<|gS rfl hI<|sM rfl<|sM rfl<|sM rfl<|sM rfl<|bE h fun x11 hx11 h => cR (.tup []) [(0, .arr 0 52 (x11.map aa.pd))] (cP hx11)<|sN<|bE h fun o31 ho31 h => ?_
 cases oI h
 refine WC.block (WC.loop (WL.ofLoopEnd ho31 (fun s R' B' => ghosts prog 1 (A R' B') (au.at_ 125 1 7) = some (A [(0, .ref 0 0), (1, rI a1), (2, .d (.raw (.func (.func 82) #[] #[]))), (6, rI s.1)] [(0, .arr 0 52 (s.2.map aa.pd))])) rfl ?_))
 rintro ⟨s12, s13⟩ R' B' q14 hI h
 refine qS<|gS rfl hI<|sM rfl<|sM rfl<|sF h (fun h => ?_) fun h => ?_
 ·refine sN<|cT<|qK<|qB<|gS rfl rfl<|sM rfl<|sV (rI (rW ((2 : Int) * s12)))<|sV (r0)<|sA rfl<|sN<|qS<|bE h fun o26 ho26 h => WC.block (WC.loop (WL.ofLoop ho26 (fun s R' B' => ghosts prog 1 (A R' B') (au.at_ 125 1 9) = some (A [(0, .ref 0 0), (1, rI a1), (2, .d (.raw (.func (.func 82) #[] #[]))), (6, rI s12), (7, rI s.1), (8, rI s.2.1)] [(0, .arr 0 52 (s.2.2.map aa.pd))])) (fun o e R' B' => e = .exit 4 ∧ ghosts prog 1 (A R' B') (au.at_ 125 1 13) = some (A [(0, .ref 0 0), (1, rI a1), (2, .d (.raw (.func (.func 82) #[] #[]))), (6, rI o.1), (7, rI o.2.1)] [(0, .arr 0 52 (o.2.2.map aa.pd))])) rfl ?_ ?_))
  ·rintro ⟨s16, s17, s18⟩ R' B' q22 hI h
   refine qS<|gS rfl hI<|sM rfl<|sM rfl<|sF h (fun h => ?_) fun h => ?_
   ·refine sN<|cT<|qK<|qB<|gS rfl rfl<|sM rfl<|sM rfl<|sM rfl<|sM rfl<|sV (rI (rW (s16 + s12)))<|sM rfl<|sM rfl<|bE h fun x24 hx24 h => cR (.tup []) [(0, .arr 0 52 (x24.map aa.pd))] (dz hx24)<|sN ?_
    refine gS rfl rfl<|sM rfl<|sA rfl<|sN<|WC.region rfl rfl<|sM rfl<|sM rfl<|sV (rI (rW ((2 : Int) * s12)))<|sV (rI (rW (s17 + (rW ((2 : Int) * s12)))))<|sA rfl<|sN ?_
    cases oI h
    exact ⟨rfl, rfl⟩
   refine sN<|cF<|qX ?_
   cases oI h
   exact ⟨nofun, rfl, rfl⟩
  intro e R' B' he hq
  obtain ⟨rfl, hI⟩ := hq
  refine qE<|qS<|gS rfl hI<|sM rfl<|sM rfl<|sV (rI (rW (o26.2.1 + o26.1)))<|sA rfl<|sN<|gS rfl rfl<|sM rfl<|sM rfl<|sF h (fun h => ?_) fun h => ?_
  ·refine sN<|cT<|WC.region rfl rfl<|sM rfl<|sM rfl<|sM rfl<|sM rfl<|sM rfl<|bE h fun x28 hx28 h => cR (.tup []) [(0, .arr 0 52 (x28.map aa.pd))] (dz hx28)<|sN<|WC.region rfl rfl<|sM rfl<|sV (rI (rW (o26.1 * (2 : Int))))<|sA rfl ?_
   refine sN ?_
   cases oI h
   exact ⟨rfl, rfl⟩
  refine sN<|cF<|qK<|WC.region rfl rfl<|sM rfl<|sV (rI (rW (o26.1 * (2 : Int))))<|sA rfl<|sN ?_
  cases oI h
  exact ⟨rfl, rfl⟩
 refine sN<|cF<|qX<|bind_elim h (fun z29 hkz29 hz => ?_)
 obtain rfl := Option.some.inj hz
 refine ⟨(fun he => by cases he), fun hz2 => ?_⟩
 subst hz2
 have h := hkz29
 refine qE ?_
 cases oI h
 exact qD
theorem fh {d0 : (List aa)} {r : (List aa)} (h : aS d0 = some r) : EvP prog au ext 81 [.ref 0 0, .d (.raw (.func (.func 82) #[] #[]))] [.arr 0 52 (d0.map aa.pd)] (.tup [], [.arr 0 52 (r.map aa.pd)]) := by
 refine Ev.body rfl Tryz.func81 rfl (by kernel_rfl)<|WC.region rfl rfl<|sM rfl<|sM rfl<|WO.lenR rfl rfl rfl rfl rfl rfl rfl rfl rfl<|sM rfl<|bE h fun x1 hx1 h => cR (.tup []) [(0, .arr 0 52 (x1.map aa.pd))] (fq hx1)<|sN ?_
 cases oI h
 exact qD
theorem ix {a0 : Int} {a1 : (List aa)} {r : (List (List aa))} (h : cV a0 a1 = some r) : EvP prog au ext 44 [rI a0, .d (.lst (a1.map aa.pd))] [] (.d (.lst (r.map (fun l => PD.lst (l.map aa.pd)))), []) := by
 refine Ev.body rfl Tryz.func44 rfl (by kernel_rfl)<|gS rfl rfl<|sV .nils<|sN<|gS rfl rfl<|sM rfl<|bE h fun x1 hx1 h => cR (.ref 192 0) [(192, .arr 0 52 (x1.map aa.pd))] (picker_Sort_ev hx1)<|sA rfl<|sN<|gS rfl rfl<|sM rfl<|bE h fun x2 hx2 h => cR (.tup []) [(192, .arr 0 52 (x2.map aa.pd))] (fh hx2)<|sN ?_
 refine gS rfl rfl<|sV .nils<|sN<|qS<|gS rfl rfl<|sM rfl<|WO.lenR rfl rfl rfl rfl rfl rfl rfl rfl rfl<|sV (r0)<|sN<|bE h fun o37 ho37 h => WC.block (WC.loop (WL.ofLoop ho37 (fun s R' B' => ghosts prog 0 (A R' B') (au.at_ 44 0 5) = some (A [(0, rI a0), (5, .ref 192 0), (6, .ref 624 0), (15, .ref 192 0), (16, rI (x2.length : Int)), (17, rI s.1)] [(192, .arr 0 52 (x2.map aa.pd)), (624, .nest 0 25 52 (s.2.map (List.map aa.pd)) none)])) (fun o e R' B' => e = .exit 0 ∧ ghosts prog 0 (A R' B') (au.at_ 44 0 11) = some (A [(6, .ref 624 0)] [(624, .nest 0 25 52 (o.map (List.map aa.pd)) none)])) rfl ?_ ?_))
 ·rintro ⟨s3, s4⟩ R' B' q6 hI h
  refine gS rfl hI<|sF h (fun h => ?_) fun h => ?_
  ·refine sN<|qS<|cT<|qK<|qS<|qB<|gS rfl rfl<|sM rfl<|bE h fun x9 hx9 h => WO.eltG hx9 rfl rfl rfl rfl rfl rfl rfl rfl<|bE h fun x10 hx10 h => WO.loadE hx10 rfl rfl rfl rfl rfl rfl<|sB (.ptr 128 0) 128 (.var [rS [], rS [], rS [], rS [], r0, r0, r0, r0, r0])<|sA rfl<|sH 128 (.var (aa.rc x10)) ?_
   refine sN<|qS<|WC.regionDSeq rfl rfl<|sM rfl<|sF h (fun h => ?_) fun h => ?_
   ·refine sM rfl<|k3<|k3<|k3<|sK<|sK<|sT ?_
    refine sN<|sO<|cT<|WC.region (R0 := [(0, rI a0), (5, .ref 192 0), (6, .ref 624 0), (8, .ptr 128 0), (15, .ref 192 0), (16, rI (x2.length : Int)), (17, rI s3)]) (B0 := [(128, .var (aa.rc x10)), (192, .arr 0 52 (x2.map aa.pd)), (624, .nest 0 25 52 (s4.map (List.map aa.pd)) none)]) rfl rfl<|sM rfl<|sV (.d (.lst [nil0]))<|bE h fun x12 hx12 h => WO.appNN hx12 rfl rfl rfl rfl rfl rfl rfl rfl rfl rfl rfl rfl rfl rfl<|sA rfl<|sN<|bE h fun x13 hx13 h => WC.regionD (ghosts_lendL hx13 rfl rfl rfl) rfl<|sM rfl<|sM rfl<|WO.lenN rfl rfl rfl rfl rfl rfl rfl rfl rfl<|sV (rI (rW ((x12.length : Int) - (1 : Int)))) ?_
    refine sM rfl<|sM rfl<|WO.lenN rfl rfl rfl rfl rfl rfl rfl rfl rfl<|sV (rI (rW ((x12.length : Int) - (1 : Int))))<|bE h fun x14 hx14 h => WO.eltN hx14 rfl rfl rfl rfl rfl rfl rfl rfl<|bE h fun x15 hx15 h => WO.loadN hx15 rfl rfl rfl rfl rfl rfl<|sV (.d (aa.pd x10))<|sG (.d (.lst ([x10].map aa.pd)))<|bE h fun x16 hx16 h => aR hx16 (fun _ => rfl) rfl<|bE h fun x17 hx17 h => WO.eltN hx17 rfl rfl rfl rfl rfl rfl rfl rfl<|bE h fun x18 hx18 h => ?_
    refine WO.storeN hx18 rfl rfl rfl rfl rfl rfl rfl ?_
    refine sN<|sO<|WC.region rfl rfl<|sV (rI (rW (s3 + (1 : Int))))<|sM rfl<|sN ?_
    cases oI h
    exact ⟨rfl, (ghosts_give rfl rfl (by decide) rfl)⟩
   refine sM rfl<|sV (.ptr 128 5)<|sL rfl<|sM rfl<|sM rfl<|sV (rI (rW (s3 - (1 : Int))))<|bE h fun x20 hx20 h => WO.eltG hx20 rfl rfl rfl rfl rfl rfl rfl rfl<|sV (.elt 192 0 ((rW (s3 - (1 : Int)))).toNat 5)<|bE h fun x21 hx21 h => WO.loadE hx21 rfl rfl rfl rfl rfl rfl<|sV (rI (rW (x10.aA - x21.aA)))<|sM rfl<|sV (rB (decide ((rW (x10.aA - x21.aA)) > a0)))<|sF h (fun h => ?_) fun h => ?_
   ·refine sN<|sO<|cT<|WC.region (R0 := [(0, rI a0), (5, .ref 192 0), (6, .ref 624 0), (8, .ptr 128 0), (15, .ref 192 0), (16, rI (x2.length : Int)), (17, rI s3)]) (B0 := [(128, .var (aa.rc x10)), (192, .arr 0 52 (x2.map aa.pd)), (624, .nest 0 25 52 (s4.map (List.map aa.pd)) none)]) rfl rfl<|sM rfl<|sV (.d (.lst [nil0]))<|bE h fun x23 hx23 h => WO.appNN hx23 rfl rfl rfl rfl rfl rfl rfl rfl rfl rfl rfl rfl rfl rfl<|sA rfl<|sN<|bE h fun x24 hx24 h => WC.regionD (ghosts_lendL hx24 rfl rfl rfl) rfl<|sM rfl<|sM rfl<|WO.lenN rfl rfl rfl rfl rfl rfl rfl rfl rfl<|sV (rI (rW ((x23.length : Int) - (1 : Int)))) ?_
    refine sM rfl<|sM rfl<|WO.lenN rfl rfl rfl rfl rfl rfl rfl rfl rfl<|sV (rI (rW ((x23.length : Int) - (1 : Int))))<|bE h fun x25 hx25 h => WO.eltN hx25 rfl rfl rfl rfl rfl rfl rfl rfl<|bE h fun x26 hx26 h => WO.loadN hx26 rfl rfl rfl rfl rfl rfl<|sV (.d (aa.pd x10))<|sG (.d (.lst ([x10].map aa.pd)))<|bE h fun x27 hx27 h => aR hx27 (fun _ => rfl) rfl<|bE h fun x28 hx28 h => WO.eltN hx28 rfl rfl rfl rfl rfl rfl rfl rfl<|bE h fun x29 hx29 h => ?_
    refine WO.storeN hx29 rfl rfl rfl rfl rfl rfl rfl ?_
    refine sN<|sO<|WC.region rfl rfl<|sV (rI (rW (s3 + (1 : Int))))<|sM rfl<|sN ?_
    cases oI h
    exact ⟨rfl, (ghosts_give rfl rfl (by decide) rfl)⟩
   refine sN<|sO<|cF<|qK<|bE h fun x30 hx30 h => WC.regionD (ghosts_lendL hx30 rfl rfl rfl) rfl<|sM rfl<|sM rfl<|WO.lenN rfl rfl rfl rfl rfl rfl rfl rfl rfl<|sV (rI (rW ((s4.length : Int) - (1 : Int))))<|sM rfl<|sM rfl<|WO.lenN rfl rfl rfl rfl rfl rfl rfl rfl rfl<|sV (rI (rW ((s4.length : Int) - (1 : Int))))<|bE h fun x31 hx31 h => WO.eltN hx31 rfl rfl rfl rfl rfl rfl rfl rfl ?_
   refine bE h fun x32 hx32 h => WO.loadN hx32 rfl rfl rfl rfl rfl rfl<|sV (.d (aa.pd x10))<|sG (.d (.lst ([x10].map aa.pd)))<|bE h fun x33 hx33 h => aR hx33 (fun _ => rfl) rfl<|bE h fun x34 hx34 h => WO.eltN hx34 rfl rfl rfl rfl rfl rfl rfl rfl<|bE h fun x35 hx35 h => WO.storeN hx35 rfl rfl rfl rfl rfl rfl rfl ?_
   refine sN<|sO<|WC.region rfl rfl<|sV (rI (rW (s3 + (1 : Int))))<|sM rfl<|sN ?_
   cases oI h
   exact ⟨rfl, (ghosts_give rfl rfl (by decide) rfl)⟩
  refine sN<|qS<|cF<|qX ?_
  cases oI h
  exact ⟨nofun, rfl, rfl⟩
 intro e R' B' he hq
 obtain ⟨rfl, hI⟩ := hq
 refine qE<|qS<|gS rfl hI<|sM rfl<|WO.lenN rfl rfl rfl rfl rfl rfl rfl rfl rfl<|sV (r0)<|sN<|bE h fun o48 ho48 h => WC.block (WC.loop (WL.ofLoop ho48 (fun s R' B' => ghosts prog 0 (A R' B') (au.at_ 44 0 12) = some (A [(6, .ref 624 0), (55, .ref 624 0), (56, rI (o37.length : Int)), (57, rI s.1)] [(624, .nest 0 25 52 (s.2.map (List.map aa.pd)) none)])) (fun o e R' B' => e = .exit 2 ∧ ghosts prog 0 (A R' B') (au.at_ 44 0 16) = some (A [(6, .d (.lst (o.map (fun l => PD.lst (l.map aa.pd)))))] [])) rfl ?_ ?_))
 ·rintro ⟨s38, s39⟩ R' B' q41 hI h
  refine gS rfl hI<|sF h (fun h => ?_) fun h => ?_
  ·refine sN<|qS<|cT<|qK<|qS<|qB<|bE h fun x43 hx43 h => WC.regionSeq (ghosts_lendR hx43 rfl rfl rfl rfl) rfl<|bE h fun x44 hx44 h => WO.eltN hx44 rfl rfl rfl rfl rfl rfl rfl rfl<|bE h fun x45 hx45 h => WO.loadN hx45 rfl rfl rfl rfl rfl rfl<|sA rfl<|sN<|WC.region rfl rfl ?_
   refine sM rfl<|bE h fun x46 hx46 h => cR (.tup []) [(960, .arr 0 52 (x46.map aa.pd))] (sort_72_73 hx46)<|sN<|WC.region rfl rfl<|sV (rI (rW (s38 + (1 : Int))))<|sM rfl<|sN ?_
   cases oI h
   exact ⟨rfl, (ghosts_give rfl rfl (by decide) rfl)⟩
  refine sN<|qS<|cF<|qX ?_
  cases oI h
  exact ⟨nofun, rfl, (ghosts_skip rfl (ghosts_frzn rfl rfl rfl))⟩
 intro e R' B' he hq
 obtain ⟨rfl, hI⟩ := hq
 refine qE<|gS rfl hI<|sM rfl<|sA rfl<|sN<|qR ?_
 cases oI h
 exact qD
theorem fF {a0 : Int} {a1 : (List aa)} {r : (List (List aa)) × Int} (h : cn a0 a1 = some r) : EvP prog au ext 13 [rI a0, .d (.lst (a1.map aa.pd))] [] (.tup [.d (.lst (r.1.map (fun l => PD.lst (l.map aa.pd)))), rI r.2], []) := by
 refine Ev.body rfl Tryz.func13 rfl (by kernel_rfl)<|gS rfl rfl<|sV .nils<|sV (r0)<|sN<|qS<|qB<|gS rfl rfl<|sM rfl<|sF h (fun h => ?_) fun h => ?_
 ·refine sM rfl<|sK<|sK<|sT<|sA rfl<|sN<|cT<|gS rfl rfl<|sV .nils<|sV (rI 2)<|sN<|qR ?_
  cases oI h
  exact qD
 refine sM rfl<|sM rfl<|sV (rB (decide (a0 > (1099511627776 : Int))))<|sF h (fun h => ?_) fun h => ?_
 ·refine sA rfl<|sN<|cT<|gS rfl rfl<|sV .nils<|sV (rI 2)<|sN<|qR ?_
  cases oI h
  exact qD
 refine sA rfl<|sN<|cF<|gS rfl rfl<|sM rfl<|bE h fun x3 hx3 h => cD (iS hx3)<|sF h (fun h => ?_) fun h => ?_
 ·refine sA rfl<|sN<|cT<|gS rfl rfl<|sV .nils<|sV (rI 1)<|sN<|qR ?_
  cases oI h
  exact qD
 refine sA rfl<|sN<|cF<|qK<|gS rfl rfl<|sM rfl<|sM rfl<|bE h fun x5 hx5 h => cD (ix hx5)<|sA rfl<|sV (r0)<|sN<|qR ?_
 cases oI h
 exact qD
theorem eL {a0 : (List UInt8)} {a1 : (List UInt8)} {r : Int} (h : c7 a0 a1 = some r) : EvP prog au ext 127 [rS a0, rS a1] [] (rI r, []) := by
 refine Ev.body rfl Tryz.func127 rfl (by kernel_rfl)<|gS rfl rfl<|sV (r0)<|sN<|qS<|qB<|gS rfl rfl<|sM rfl<|sM rfl<|sF h (fun h => ?_) fun h => ?_
 ·refine sA rfl<|sN<|cT<|gS rfl rfl<|sV (rI (-1))<|sN<|qR ?_
  cases oI h
  exact qD
 refine sA rfl<|sN<|cF<|gS rfl rfl<|sM rfl<|sM rfl<|sF h (fun h => ?_) fun h => ?_
 ·refine sA rfl<|sN<|cT<|gS rfl rfl<|sV (rI 1)<|sN<|qR ?_
  cases oI h
  exact qD
 refine sA rfl<|sN<|cF<|qK<|gS rfl rfl<|sV (r0)<|sN<|qR ?_
 cases oI h
 exact qD
theorem ref03_Compare_ev {a0 : ae} {a1 : ae} {r : Int} (h : ej a0 a1 = some r) : EvP prog au ext 84 [.d (ae.pd a0), .d (ae.pd a1)] [] (rI r, []) := by
 refine Ev.body rfl Tryz.func84 rfl (by kernel_rfl)<|gS rfl rfl<|sB (.ptr 32 0) 32 (.var [rS a0.aj, rS a0.ak, rS a0.ai, rS a0.ap])<|sB (.ptr 48 0) 48 (.var [rS a1.aj, rS a1.ak, rS a1.ai, rS a1.ap])<|sV (r0)<|sN<|qS<|WC.regionDSeq rfl rfl<|sV (.ptr 32 0)<|sL rfl<|sV (.ptr 48 0)<|sL rfl<|bE h fun x1 hx1 h => cD (eL hx1)<|sV (.ptr 32 1) ?_
 refine sL rfl<|sV (.ptr 48 1)<|sL rfl<|bE h fun x2 hx2 h => cD (eL hx2)<|sV (.ptr 32 2)<|sL rfl<|sV (.ptr 48 2)<|sL rfl<|bE h fun x3 hx3 h => cD (eL hx3)<|sV (.ptr 32 3)<|sL rfl<|sV (.ptr 48 3)<|sL rfl ?_
 refine bE h fun x4 hx4 h => cD (eL hx4)<|sV (.d (A4_Int.pd (A4_Int.mk x1 x2 x3 x4)))<|sV (r0) ?_
 refine sN<|sO<|WC.block (WC.loop ?_)
 refine WL.round<|gS rfl rfl<|sT<|sN<|qS<|cT<|qK<|qS<|qB<|gS rfl rfl<|sV (rI x1)<|sA rfl<|sN<|gS rfl rfl<|sM rfl ?_
 refine sF h (fun h => ?_) fun h => ?_
 ·refine sN<|cT<|gS rfl rfl<|sM rfl<|sA rfl<|sN<|qR ?_
  cases oI h
  exact qD
 refine sN<|cF<|qK<|WC.region rfl rfl<|sV (rI 1)<|sM rfl<|sN<|WL.round<|gS rfl rfl<|sT<|sN<|qS<|cT<|qK<|qS ?_
 refine qB<|gS rfl rfl<|sV (rI x2)<|sA rfl<|sN<|gS rfl rfl<|sM rfl<|sF h (fun h => ?_) fun h => ?_
 ·refine sN<|cT<|gS rfl rfl<|sM rfl<|sA rfl<|sN<|qR ?_
  cases oI h
  exact qD
 refine sN<|cF<|qK<|WC.region rfl rfl<|sV (rI 2)<|sM rfl<|sN<|WL.round<|gS rfl rfl<|sT<|sN<|qS<|cT<|qK<|qS ?_
 refine qB<|gS rfl rfl<|sV (rI x3)<|sA rfl<|sN<|gS rfl rfl<|sM rfl<|sF h (fun h => ?_) fun h => ?_
 ·refine sN<|cT<|gS rfl rfl<|sM rfl<|sA rfl<|sN<|qR ?_
  cases oI h
  exact qD
 refine sN<|cF<|qK<|WC.region rfl rfl<|sV (rI 3)<|sM rfl<|sN<|WL.round<|gS rfl rfl<|sT<|sN<|qS<|cT<|qK<|qS ?_
 refine qB<|gS rfl rfl<|sV (rI x4)<|sA rfl<|sN<|gS rfl rfl<|sM rfl<|sF h (fun h => ?_) fun h => ?_
 ·refine sN<|cT<|gS rfl rfl<|sM rfl<|sA rfl<|sN<|qR ?_
  cases oI h
  exact qD
 refine sN<|cF<|qK<|WC.region rfl rfl<|sV (rI 4)<|sM rfl<|sN<|WL.round<|gS rfl rfl<|sU<|sN<|qS<|cF<|qX<|qE ?_
 refine gS rfl rfl<|sV (r0)<|sN<|qR ?_
 cases oI h
 exact qD
theorem ref23_Compare_ev {a0 : aa} {a1 : aa} {r : Int} (h : ek a0 a1 = some r) : EvP prog au ext 45 [.d (aa.pd a0), .d (aa.pd a1)] [] (rI r, []) := by
 refine Ev.body rfl Tryz.func45 rfl (by kernel_rfl)<|gS rfl rfl<|sB (.ptr 32 0) 32 (.var (aa.rc a0))<|sB (.ptr 48 0) 48 (.var (aa.rc a1))<|sV (r0)<|sN<|qS<|gS rfl rfl<|sV (.ptr 32 0)<|sV (.d (ae.pd a0.ah))<|sV (.ptr 48 0)<|sV (.d (ae.pd a1.ah))<|bE h fun x1 hx1 h => cD (ref03_Compare_ev hx1)<|sA rfl ?_
 refine sN<|gS rfl rfl<|sM rfl<|sF h (fun h => ?_) fun h => ?_
 ·refine sN<|cT<|gS rfl rfl<|sM rfl<|sA rfl<|sN<|qR ?_
  cases oI h
  exact qG
 refine sN<|cF<|qK<|qS<|gS rfl rfl<|sV (.ptr 32 4)<|sL rfl<|sV (.ptr 48 4)<|sL rfl<|sV (.d (aO.pd (aO.mk a0.aP a1.aP)))<|sV (.ptr 32 5)<|sL rfl<|sV (.ptr 48 5)<|sL rfl<|sV (.d (aO.pd (aO.mk a0.aA a1.aA))) ?_
 refine sV (.ptr 32 6)<|sL rfl<|sV (.ptr 48 6)<|sL rfl<|sV (.d (aO.pd (aO.mk a0.aU a1.aU)))<|sV (.ptr 32 7)<|sL rfl<|sV (.ptr 48 7)<|sL rfl<|sV (.d (aO.pd (aO.mk a0.aq a1.aq)))<|sV (.ptr 32 8)<|sL rfl<|sV (.ptr 48 8)<|sL rfl<|sV (.d (aO.pd (aO.mk a0.aw a1.aw))) ?_
 refine sG (.d (cG.pd (cG.mk (aO.mk a0.aP a1.aP) (aO.mk a0.aA a1.aA) (aO.mk a0.aU a1.aU) (aO.mk a0.aq a1.aq) (aO.mk a0.aw a1.aw))))<|sV (r0)<|sN<|WC.block (WC.loop ?_)
 refine WL.round<|WC.regionSeq (R0 := [(41, .d (cG.pd (cG.mk (aO.mk a0.aP a1.aP) (aO.mk a0.aA a1.aA) (aO.mk a0.aU a1.aU) (aO.mk a0.aq a1.aq) (aO.mk a0.aw a1.aw)))), (42, r0)]) (B0 := []) rfl rfl<|sT<|sN<|qS<|cT<|qK<|qS<|qB<|gS rfl rfl<|sV (.d (aO.pd (aO.mk a0.aP a1.aP)))<|sB (.ptr 112 0) 112 (.var [r0, r0])<|sS 112 (.var [rI a0.aP, rI a1.aP])<|sN<|qS ?_
 refine gS rfl rfl<|sV (.ptr 112 0)<|sL rfl<|sV (.ptr 112 1)<|sL rfl<|sF h (fun h => ?_) fun h => ?_
 ·refine sN<|cT<|gS rfl rfl<|sV (rI (-1))<|sN<|qR ?_
  cases oI h
  exact qD
 refine sN<|cF<|qK<|gS rfl rfl<|sV (.ptr 112 0)<|sL rfl<|sV (.ptr 112 1)<|sL rfl<|sF h (fun h => ?_) fun h => ?_
 ·refine sN<|cT<|gS rfl rfl<|sV (rI 1)<|sN<|qR ?_
  cases oI h
  exact qD
 refine sN<|cF<|qK<|WC.region rfl rfl<|sV (rI 1)<|sM rfl<|sN<|WL.round<|WC.regionSeq (R0 := [(41, .d (cG.pd (cG.mk (aO.mk a0.aP a1.aP) (aO.mk a0.aA a1.aA) (aO.mk a0.aU a1.aU) (aO.mk a0.aq a1.aq) (aO.mk a0.aw a1.aw)))), (42, rI 1)]) (B0 := []) rfl rfl<|sT<|sN<|qS<|cT<|qK<|qS ?_
 refine qB<|gS rfl rfl<|sV (.d (aO.pd (aO.mk a0.aA a1.aA)))<|sB (.ptr 112 0) 112 (.var [r0, r0])<|sS 112 (.var [rI a0.aA, rI a1.aA])<|sN<|qS<|gS rfl rfl<|sV (.ptr 112 0)<|sL rfl<|sV (.ptr 112 1)<|sL rfl<|sF h (fun h => ?_) fun h => ?_
 ·refine sN<|cT<|gS rfl rfl<|sV (rI (-1))<|sN<|qR ?_
  cases oI h
  exact qD
 refine sN<|cF<|qK<|gS rfl rfl<|sV (.ptr 112 0)<|sL rfl<|sV (.ptr 112 1)<|sL rfl<|sF h (fun h => ?_) fun h => ?_
 ·refine sN<|cT<|gS rfl rfl<|sV (rI 1)<|sN<|qR ?_
  cases oI h
  exact qD
 refine sN<|cF<|qK<|WC.region rfl rfl<|sV (rI 2)<|sM rfl<|sN<|WL.round<|WC.regionSeq (R0 := [(41, .d (cG.pd (cG.mk (aO.mk a0.aP a1.aP) (aO.mk a0.aA a1.aA) (aO.mk a0.aU a1.aU) (aO.mk a0.aq a1.aq) (aO.mk a0.aw a1.aw)))), (42, rI 2)]) (B0 := []) rfl rfl<|sT<|sN<|qS<|cT<|qK<|qS ?_
 refine qB<|gS rfl rfl<|sV (.d (aO.pd (aO.mk a0.aU a1.aU)))<|sB (.ptr 112 0) 112 (.var [r0, r0])<|sS 112 (.var [rI a0.aU, rI a1.aU])<|sN<|qS<|gS rfl rfl<|sV (.ptr 112 0)<|sL rfl<|sV (.ptr 112 1)<|sL rfl<|sF h (fun h => ?_) fun h => ?_
 ·refine sN<|cT<|gS rfl rfl<|sV (rI (-1))<|sN<|qR ?_
  cases oI h
  exact qD
 refine sN<|cF<|qK<|gS rfl rfl<|sV (.ptr 112 0)<|sL rfl<|sV (.ptr 112 1)<|sL rfl<|sF h (fun h => ?_) fun h => ?_
 ·refine sN<|cT<|gS rfl rfl<|sV (rI 1)<|sN<|qR ?_
  cases oI h
  exact qD
 refine sN<|cF<|qK<|WC.region rfl rfl<|sV (rI 3)<|sM rfl<|sN<|WL.round<|WC.regionSeq (R0 := [(41, .d (cG.pd (cG.mk (aO.mk a0.aP a1.aP) (aO.mk a0.aA a1.aA) (aO.mk a0.aU a1.aU) (aO.mk a0.aq a1.aq) (aO.mk a0.aw a1.aw)))), (42, rI 3)]) (B0 := []) rfl rfl<|sT<|sN<|qS<|cT<|qK<|qS ?_
 refine qB<|gS rfl rfl<|sV (.d (aO.pd (aO.mk a0.aq a1.aq)))<|sB (.ptr 112 0) 112 (.var [r0, r0])<|sS 112 (.var [rI a0.aq, rI a1.aq])<|sN<|qS<|gS rfl rfl<|sV (.ptr 112 0)<|sL rfl<|sV (.ptr 112 1)<|sL rfl<|sF h (fun h => ?_) fun h => ?_
 ·refine sN<|cT<|gS rfl rfl<|sV (rI (-1))<|sN<|qR ?_
  cases oI h
  exact qD
 refine sN<|cF<|qK<|gS rfl rfl<|sV (.ptr 112 0)<|sL rfl<|sV (.ptr 112 1)<|sL rfl<|sF h (fun h => ?_) fun h => ?_
 ·refine sN<|cT<|gS rfl rfl<|sV (rI 1)<|sN<|qR ?_
  cases oI h
  exact qD
 refine sN<|cF<|qK<|WC.region rfl rfl<|sV (rI 4)<|sM rfl<|sN<|WL.round<|WC.regionSeq (R0 := [(41, .d (cG.pd (cG.mk (aO.mk a0.aP a1.aP) (aO.mk a0.aA a1.aA) (aO.mk a0.aU a1.aU) (aO.mk a0.aq a1.aq) (aO.mk a0.aw a1.aw)))), (42, rI 4)]) (B0 := []) rfl rfl<|sT<|sN<|qS<|cT<|qK<|qS ?_
 refine qB<|gS rfl rfl<|sV (.d (aO.pd (aO.mk a0.aw a1.aw)))<|sB (.ptr 112 0) 112 (.var [r0, r0])<|sS 112 (.var [rI a0.aw, rI a1.aw])<|sN<|qS<|gS rfl rfl<|sV (.ptr 112 0)<|sL rfl<|sV (.ptr 112 1)<|sL rfl<|sF h (fun h => ?_) fun h => ?_
 ·refine sN<|cT<|gS rfl rfl<|sV (rI (-1))<|sN<|qR ?_
  cases oI h
  exact qD
 refine sN<|cF<|qK<|gS rfl rfl<|sV (.ptr 112 0)<|sL rfl<|sV (.ptr 112 1)<|sL rfl<|sF h (fun h => ?_) fun h => ?_
 ·refine sN<|cT<|gS rfl rfl<|sV (rI 1)<|sN<|qR ?_
  cases oI h
  exact qD
 refine sN<|cF<|qK<|WC.region rfl rfl<|sV (rI 5)<|sM rfl<|sN<|WL.round<|WC.regionSeq (R0 := [(41, .d (cG.pd (cG.mk (aO.mk a0.aP a1.aP) (aO.mk a0.aA a1.aA) (aO.mk a0.aU a1.aU) (aO.mk a0.aq a1.aq) (aO.mk a0.aw a1.aw)))), (42, rI 5)]) (B0 := []) rfl rfl<|sU<|sN<|qS<|cF<|qX<|qE ?_
 refine gS rfl rfl<|sV (r0)<|sN<|qR ?_
 cases oI h
 exact qD
theorem hZ {a0 : (List aa)} {r : (List aa)} (h : eb a0 = some r) : EvP prog au ext 14 [.d (.lst (a0.map aa.pd))] [] (.d (.lst (r.map aa.pd)), []) := by
 refine Ev.body rfl Tryz.func14 rfl (by kernel_rfl)<|gS rfl rfl<|sV .nils<|sN<|gS rfl rfl<|sV .nils<|sN<|qS<|gS rfl rfl<|sV (r0)<|sN<|bE h fun o39 ho39 h => WC.block (WC.loop (WL.ofLoop ho39 (fun s R' B' => ghosts prog 0 (A R' B') (au.at_ 14 0 3) = some (A [(0, .d (.lst (a0.map aa.pd))), (3, .ref 816 0), (4, rI s.1)] [(816, .arr 0 52 (s.2.map aa.pd))])) (fun o e R' B' => e = .exit 0 ∧ ghosts prog 0 (A R' B') (au.at_ 14 0 12) = some (A [(3, .ref 816 0)] [(816, .arr 0 52 (o.map aa.pd))])) rfl ?_ ?_))
 ·rintro ⟨s1, s2⟩ R' B' q4 hI h
  refine qS<|gS rfl hI<|sM rfl<|sM rfl<|sE (rI (a0.length : Int)) (lenMap _ _)<|sF h (fun h => ?_) fun h => ?_
  ·refine sN<|cT<|qK<|qS<|qB<|gS rfl rfl<|sM rfl<|WO.lenR rfl rfl rfl rfl rfl rfl rfl rfl rfl<|sA rfl<|sN<|qS<|bE h fun o19 ho19 h => WC.block (WC.loop (WL.ofLoop ho19 (fun s R' B' => ghosts prog 0 (A R' B') (au.at_ 14 0 6) = some (A [(0, .d (.lst (a0.map aa.pd))), (3, .ref 816 0), (4, rI s1), (5, rI s)] [(816, .arr 0 52 (s2.map aa.pd))])) (fun o e R' B' => e = .exit 2 ∧ ghosts prog 0 (A R' B') (au.at_ 14 0 8) = some (A [(0, .d (.lst (a0.map aa.pd))), (3, .ref 816 0), (4, rI o.1), (5, rI o.2.1)] [(816, .arr 0 52 (o.2.2.map aa.pd))])) rfl ?_ ?_))
   ·rintro s6 R' B' q10 hI h
    refine qS<|WC.regionDSeq hI rfl<|sM rfl<|sF h (fun h => ?_) fun h => ?_
    ·refine sM rfl<|sM rfl<|sM rfl<|sV (rI (rW (s6 - (1 : Int))))<|bE h fun x13 hx13 h => WO.eltG hx13 rfl rfl rfl rfl rfl rfl rfl rfl<|bE h fun x14 hx14 h => WO.loadE hx14 rfl rfl rfl rfl rfl rfl<|sM rfl<|sM rfl<|bE h fun x15 hx15 h => eG hx15 rfl<|sV (.d (aa.pd x15))<|bE h fun x16 hx16 h => cD (ref23_Compare_ev hx16) ?_
     refine sV (rB (decide (x16 > (0 : Int))))<|sF h (fun h => ?_) fun h => ?_
     ·refine sN<|sO<|cT<|qK<|qB<|WC.region rfl rfl<|sM rfl<|sV (rI (rW (s6 - (1 : Int))))<|sA rfl<|sN ?_
      cases oI h
      exact ⟨rfl, rfl⟩
     refine sN<|sO<|cF<|qX ?_
     cases oI h
     exact ⟨nofun, rfl, rfl⟩
    refine sM rfl<|k3<|k3<|k3<|sK<|sK<|sU ?_
    refine sN<|sO<|cF<|qX ?_
    cases oI h
    exact ⟨nofun, rfl, rfl⟩
   intro e R' B' he hq
   obtain ⟨rfl, hI⟩ := hq
   refine qE<|WC.join (α := Unit) (fun x R' B' => ghosts prog 0 (A R' B') (au.at_ 14 0 9) = some (A [(0, .d (.lst (a0.map aa.pd))), (3, .ref 816 0), (4, rI o19.1), (5, rI o19.2.1)] [(816, .arr 0 52 (o19.2.2.map aa.pd))])) (fun x => db a0 o19 = some q4) ?_ ?_
   ·refine WC.regionDSeq hI rfl<|sM rfl<|sF h (fun h => ?_) fun h => ?_
    ·refine sM rfl<|sM rfl<|sM rfl<|sV (rI (rW (o19.2.1 - (1 : Int))))<|bE h fun x34 hx34 h => WO.eltG hx34 rfl rfl rfl rfl rfl rfl rfl rfl<|bE h fun x35 hx35 h => WO.loadE hx35 rfl rfl rfl rfl rfl rfl<|sM rfl<|sM rfl<|bE h fun x36 hx36 h => eG hx36 rfl<|sV (.d (aa.pd x36))<|WO.bin (eqE_52 x35 x36) rfl rfl rfl rfl rfl<|sF h (fun h => ?_) fun h => ?_
     ·refine sN<|sO<|cT<|qX<|qE<|WC.region rfl rfl<|sM rfl<|sV (rI (rW (o19.1 + (1 : Int))))<|sA rfl<|sN ?_
      cases oI h
      exact ⟨rfl, rfl⟩
     exact sN<|sO<|cF<|qK<|⟨(), rfl, h⟩
    refine sM rfl<|k3<|k3<|k3<|sK<|sU ?_
    exact sN<|sO<|cF<|qK<|⟨(), rfl, h⟩
   rintro ⟨⟩ R' B' hI h
   refine gS rfl hI<|sM rfl<|sM rfl<|sM rfl<|bE h fun x20 hx20 h => eG hx20 rfl<|sV (.d (aa.pd x20))<|sG (.d (.lst ([x20].map aa.pd)))<|bE h fun x21 hx21 h => aR hx21 (fun _ => rfl) rfl<|sA rfl<|sN<|WC.regionDSeq rfl rfl<|sM rfl<|sM rfl ?_
   refine sV (rI (rW (o19.2.1 + (1 : Int))))<|bE h fun x22 hx22 h => WO.subR hx22 rfl rfl rfl rfl rfl rfl rfl rfl rfl rfl rfl rfl<|sM rfl<|sM rfl<|bE h fun x23 hx23 h => WO.subR hx23 rfl rfl rfl rfl rfl rfl rfl rfl rfl rfl rfl rfl<|bE h fun x24 hx24 h => bE h fun x25 hx25 h => WO.copyG rfl rfl rfl rfl rfl rfl rfl rfl (dst_view hx24 rfl) (src_view hx25 rfl) rfl rfl (fun _ => rfl) ?_
   refine sN<|sO<|WC.region rfl rfl<|sM rfl<|sM rfl<|sM rfl<|sM rfl<|bE h fun x27 hx27 h => eG hx27 rfl<|sV (.d (aa.pd x27))<|bE h fun x29 hx29 h => WO.eltG hx29 rfl rfl rfl rfl rfl rfl rfl rfl<|bE h fun x30 hx30 h => WO.storeE (g := aa.pd) (sz := 9) (p := aa.pd x27) hx30 (by intro _; kernel_rfl) (by intro _; kernel_rfl) rfl rfl rfl rfl rfl rfl rfl rfl rfl<|sN<|WC.region rfl rfl ?_
   refine sM rfl<|sV (rI (rW (o19.1 + (1 : Int))))<|sA rfl<|sN ?_
   cases oI h
   exact ⟨rfl, rfl⟩
  refine sN<|cF<|qX ?_
  cases oI h
  exact ⟨nofun, rfl, rfl⟩
 intro e R' B' he hq
 obtain ⟨rfl, hI⟩ := hq
 refine qE<|gS rfl hI<|sM rfl<|sA rfl<|sN<|qR ?_
 cases oI h
 exact qD
theorem jb {a0 : (List aa)} {a1 : (List aa)} {r : Bool} (h : dL a0 a1 = some r) : EvP prog au ext 15 [.d (.lst (a0.map aa.pd)), .d (.lst (a1.map aa.pd))] [] (rB r, []) := by
 refine Ev.body rfl Tryz.func15 rfl (by kernel_rfl)<|gS rfl rfl<|sU<|sN<|qS<|gS rfl rfl<|sM rfl<|sE (rI (a0.length : Int)) (lenMap _ _)<|sM rfl<|sE (rI (a1.length : Int)) (lenMap _ _)<|sF h (fun h => ?_) fun h => ?_
 ·refine sN<|cT<|gS rfl rfl<|sU<|sN<|qR ?_
  cases oI h
  exact qD
 refine sN<|cF<|qK<|qS<|gS rfl rfl<|sV (r0)<|sN<|bE h fun o9 ho9 h => WC.block (WC.loop (WL.ofLoop ho9 (fun s R' B' => ghosts prog 0 (A R' B') (au.at_ 15 0 4) = some (A [(0, .d (.lst (a0.map aa.pd))), (1, .d (.lst (a1.map aa.pd))), (5, rI s)] [])) (fun o e R' B' => match o with | .inl y => e = .exit 0 ∧ ghosts prog 0 (A R' B') (au.at_ 15 0 8) = some (A [] []) | .inr r => e = .ret ∧ finish prog (au.own 15) Tryz.f15 0 (A R' B') = some (rB r, [])) rfl ?_ ?_))
 ·rintro s2 R' B' q3 hI h
  refine qS<|gS rfl hI<|sM rfl<|sM rfl<|sE (rI (a0.length : Int)) (lenMap _ _)<|sF h (fun h => ?_) fun h => ?_
  ·refine sN<|cT<|qK<|qS<|qB<|WC.regionDSeq rfl rfl<|sM rfl<|sM rfl<|bE h fun x5 hx5 h => eG hx5 rfl<|sV (.d (aa.pd x5))<|sM rfl<|sM rfl<|bE h fun x6 hx6 h => eG hx6 rfl ?_
   refine sV (.d (aa.pd x6))<|ite_elim h (fun hb7 h => ?_) (fun hb7 h => ?_)
   ·refine WO.binS (eqN_52 x5 x6) hb7 rfl rfl rfl rfl rfl ?_
    refine sN<|sO<|cT<|gS rfl rfl<|sU<|sN<|qR ?_
    cases oI h
    exact ⟨nofun, rfl, rfl⟩
   refine WO.binS (eqN_52 x5 x6) hb7 rfl rfl rfl rfl rfl ?_
   refine sN<|sO<|cF<|qK<|WC.region rfl rfl<|sM rfl<|sV (rI (rW (s2 + (1 : Int))))<|sA rfl<|sN ?_
   cases oI h
   exact ⟨rfl, rfl⟩
  refine sN<|cF<|qX ?_
  cases oI h
  exact ⟨nofun, rfl, rfl⟩
 intro e R' B' he hq
 rcases o9 with y10 | r11
 ·obtain ⟨rfl, hI⟩ := hq
  refine qE<|gS rfl hI<|sT<|sN<|qR ?_
  cases oI h
  exact qD
 obtain ⟨rfl, hf⟩ := hq
 cases oI h
 exact hf
theorem dy {a0 : Int} {r : aa} (h : cX a0 = some r) : EvP prog au ext 46 [rI a0] [] (.d (aa.pd r), []) := by
 refine Ev.body rfl Tryz.func46 rfl (by kernel_rfl)<|gS rfl rfl<|sB (.ptr 32 0) 32 (.var [rS [], rS [], rS [], rS [], r0, r0, r0, r0, r0])<|sN<|gS rfl rfl<|bE h fun x1 hx1 h => cD (fx hx1)<|sM rfl<|sM rfl<|sM rfl<|sG (.d (aa.pd (aa.mk x1 a0 a0 a0 0 0)))<|sH 32 (.var [rS x1.aj, rS x1.ak, rS x1.ai, rS x1.ap, rI a0, rI a0, rI a0, r0, r0])<|sN<|qR ?_
 cases oI h
 exact qG
theorem gK {d0 : (List ae)} {r : (List ae)} (h : cx d0 = some r) : EvP prog au ext 90 [.ref 0 0] [.arr 0 50 (d0.map ae.pd)] (.d (.lst (r.map ae.pd)), [.dead]) := by
 refine Ev.body rfl Tryz.func90 rfl (by kernel_rfl)<|gS rfl rfl<|sV .nils<|sN<|qS<|gS rfl rfl<|sM rfl<|WO.lenR rfl rfl rfl rfl rfl rfl rfl rfl rfl<|sF h (fun h => ?_) fun h => ?_
 ·refine sN<|cT<|gS rfl rfl<|sM rfl<|sA rfl<|sN<|qR ?_
  cases oI h
  exact qD
 refine sN<|cF<|qK<|qS<|gS rfl rfl<|sV (rI 1)<|sN<|bE h fun o39 ho39 h => WC.block (WC.loop (WL.ofLoop ho39 (fun s R' B' => ghosts prog 1 (A R' B') (au.at_ 90 1 4) = some (A [(0, .ref 0 0), (3, rI s)] [(0, .arr 0 50 (d0.map ae.pd))])) (fun o e R' B' => match o with | .inl y => e = .exit 0 ∧ ghosts prog 1 (A R' B') (au.at_ 90 1 16) = some (A [(0, .ref 0 0)] [(0, .arr 0 50 (d0.map ae.pd))]) | .inr r => e = .ret ∧ finish prog (au.own 90) Tryz.f90 1 (A R' B') = some (.d (.lst (r.map ae.pd)), [.dead])) rfl ?_ ?_))
 ·rintro s2 R' B' q3 hI h
  refine qS<|gS rfl hI<|sM rfl<|sM rfl<|WO.lenR rfl rfl rfl rfl rfl rfl rfl rfl rfl<|sF h (fun h => ?_) fun h => ?_
  ·refine sN<|cT<|qK<|qS<|qB<|WC.regionDSeq rfl rfl<|sM rfl<|sM rfl<|bE h fun x6 hx6 h => WO.eltG hx6 rfl rfl rfl rfl rfl rfl rfl rfl<|bE h fun x7 hx7 h => WO.loadE hx7 rfl rfl rfl rfl rfl rfl<|sM rfl<|sM rfl<|sV (rI (rW (s2 - (1 : Int)))) ?_
   refine bE h fun x9 hx9 h => WO.eltG hx9 rfl rfl rfl rfl rfl rfl rfl rfl<|bE h fun x10 hx10 h => WO.loadE hx10 rfl rfl rfl rfl rfl rfl<|ite_elim h (fun hb11 h => ?_) (fun hb11 h => ?_)
   ·refine WO.binS (eqE_50 x7 x10) hb11 rfl rfl rfl rfl rfl ?_
    refine sN<|sO<|cT<|gS rfl rfl<|sM rfl<|sM rfl<|bE h fun x12 hx12 h => WO.subR hx12 rfl rfl rfl rfl rfl rfl rfl rfl rfl rfl rfl rfl<|sA rfl<|sN<|qS<|gS rfl rfl<|sV (rI 1)<|sN<|bE h fun o32 ho32 h => WC.block (WC.loop (WL.ofLoop ho32 (fun s R' B' => ghosts prog 1 (A R' B') (au.at_ 90 1 9) = some (A [(0, .ref 0 0), (3, rI s.1), (4, .view 0 0 (0 + (s2 : Int).toNat) (0 + ((d0.length : Int) : Int).toNat)), (5, rI s.2.1)] [(0, .arr 0 50 (s.2.2.map ae.pd))])) (fun o e R' B' => e = .exit 2 ∧ ghosts prog 1 (A R' B') (au.at_ 90 1 14) = some (A [(0, .ref 0 0), (3, rI o.1)] [(0, .arr 0 50 (o.2.map ae.pd))])) rfl ?_ ?_))
    ·rintro ⟨s13, s14, s15⟩ R' B' q18 hI h
     refine qS<|gS rfl hI<|sM rfl<|sM rfl<|bE h fun x19 hx19 h => WO.lenVw hx19 rfl rfl rfl rfl rfl rfl rfl rfl rfl<|sF h (fun h => ?_) fun h => ?_
     ·refine sN<|cT<|qK<|qS<|qB<|WC.regionDSeq rfl rfl<|sM rfl<|sM rfl<|bE h fun x21 hx21 h => WO.eltV hx21 rfl rfl rfl rfl rfl rfl rfl rfl<|bE h fun x22 hx22 h => WO.loadE hx22 rfl rfl rfl rfl rfl rfl<|sM rfl<|sM rfl<|sV (rI (rW (s14 - (1 : Int)))) ?_
      refine bE h fun x23 hx23 h => WO.eltV hx23 rfl rfl rfl rfl rfl rfl rfl rfl<|bE h fun x24 hx24 h => WO.loadE hx24 rfl rfl rfl rfl rfl rfl<|ite_elim h (fun hb25 h => ?_) (fun hb25 h => ?_)
      ·refine WO.binS (eqN_50 x22 x24) hb25 rfl rfl rfl rfl rfl ?_
       refine sN<|sO<|cT<|gS rfl rfl<|sM rfl<|sM rfl<|sM rfl<|sM rfl<|bE h fun x26 hx26 h => WO.eltV hx26 rfl rfl rfl rfl rfl rfl rfl rfl<|bE h fun x27 hx27 h => WO.loadE hx27 rfl rfl rfl rfl rfl rfl<|bE h fun x29 hx29 h => WO.eltG hx29 rfl rfl rfl rfl rfl rfl rfl rfl<|bE h fun x30 hx30 h => WO.storeE (g := ae.pd) (sz := 4) (p := ae.pd x27) hx30 (fun _ => rfl) (fun _ => rfl) rfl rfl rfl rfl rfl rfl rfl rfl rfl ?_
       refine sN<|WC.region rfl rfl<|sM rfl<|sV (rI (rW (s13 + (1 : Int))))<|sA rfl<|sN<|WC.region rfl rfl<|sM rfl<|sV (rI (rW (s14 + (1 : Int))))<|sA rfl<|sN ?_
       cases oI h
       exact ⟨rfl, rfl⟩
      refine WO.binS (eqN_50 x22 x24) hb25 rfl rfl rfl rfl rfl ?_
      refine sN<|sO<|cF<|qK<|WC.region rfl rfl<|sM rfl<|sV (rI (rW (s14 + (1 : Int))))<|sA rfl<|sN ?_
      cases oI h
      exact ⟨rfl, rfl⟩
     refine sN<|cF<|qX ?_
     cases oI h
     exact ⟨nofun, rfl, rfl⟩
    intro e R' B' he hq
    obtain ⟨rfl, hI⟩ := hq
    refine qE<|gS rfl hI<|sM rfl<|sM rfl<|bE h fun x33 hx33 h => WO.subR hx33 rfl rfl rfl rfl rfl rfl rfl rfl rfl rfl rfl rfl<|bE h fun x34 hx34 h => WO.clearN (z := (ae.mk [] [] [] [])) (g := ae.pd) rfl rfl rfl rfl rfl rfl rfl (dst_view hx34 rfl) rfl rfl rfl rfl<|sN<|gS rfl rfl<|sM rfl<|sM rfl<|bE h fun x36 hx36 h => WO.subR hx36 rfl rfl rfl rfl rfl rfl rfl rfl rfl rfl rfl rfl<|sA rfl ?_
    refine sN<|qR<|bE h fun x37 hx37 h => ?_
    cases oI h
    exact ⟨nofun, rfl, (finish_view hx37 rfl rfl rfl rfl rfl)⟩
   refine WO.binS (eqE_50 x7 x10) hb11 rfl rfl rfl rfl rfl ?_
   refine sN<|sO<|cF<|qK<|WC.region rfl rfl<|sM rfl<|sV (rI (rW (s2 + (1 : Int))))<|sA rfl<|sN ?_
   cases oI h
   exact ⟨rfl, rfl⟩
  refine sN<|cF<|qX ?_
  cases oI h
  exact ⟨nofun, rfl, rfl⟩
 intro e R' B' he hq
 rcases o39 with y40 | r41
 ·obtain ⟨rfl, hI⟩ := hq
  refine qE<|gS rfl hI<|sM rfl<|sA rfl<|sN<|qR ?_
  cases oI h
  exact qD
 obtain ⟨rfl, hf⟩ := hq
 cases oI h
 exact hf
theorem source_Sort_ev {a0 : (List ae)} {r : (List ae)} (h : hJ a0 = some r) : EvP prog au ext 51 [.d (.lst (a0.map ae.pd))] [] (.d (.lst (r.map ae.pd)), []) := by
 refine Ev.body rfl Tryz.func51 rfl (by kernel_rfl)<|gS rfl rfl<|sV .nils<|sN<|gS rfl rfl<|sM rfl<|bE h fun x1 hx1 h => cR (.ref 80 0) [(80, .arr 0 50 (x1.map ae.pd))] (clone_87 hx1)<|sA rfl<|sN<|gS rfl rfl<|sM rfl<|bE h fun x2 hx2 h => cR (.tup []) [(80, .arr 0 50 (x2.map ae.pd))] (sort_88_89 hx2)<|sN ?_
 refine gS rfl rfl<|sM rfl<|bE h fun x3 hx3 h => cR (.d (.lst (x3.map ae.pd))) [(80, .dead)] (gK hx3)<|sA rfl<|sN<|qR ?_
 cases oI h
 exact qD
theorem span_some_ev {a0 : ag} {r : Bool} (h : iN a0 = some r) : EvP prog au ext 94 [.d (ag.pd a0)] [] (rB r, []) := by
 refine Ev.body rfl Tryz.func94 rfl (by kernel_rfl)<|gS rfl rfl<|sB (.ptr 16 0) 16 (.var [rI a0.ck, rI a0.fTo])<|sU<|sN<|gS rfl rfl<|sV (.ptr 16 0)<|sL rfl<|sV (.ptr 16 1)<|sL rfl<|sV (rB (decide (a0.ck < a0.fTo)))<|sA rfl<|sN<|qR ?_
 cases oI h
 exact qD
theorem eW {a0 : ag} {r : Bool} (h : dW a0 = some r) : EvP prog au ext 93 [.d (ag.pd a0)] [] (rB r, []) := by
 refine Ev.body rfl Tryz.func93 rfl (by kernel_rfl)<|gS rfl rfl<|sB (.ptr 16 0) 16 (.var [rI a0.ck, rI a0.fTo])<|sU<|sN<|gS rfl rfl<|sV (.d (ag.pd a0))<|bE h fun x1 hx1 h => cD (span_some_ev hx1)<|sV (rB (!x1))<|sA rfl<|sN<|qR ?_
 cases oI h
 exact qD
theorem gd {d0 : (List ag)} {r : Int × (List ag)} (h : cB d0 = some r) : EvP prog au ext 131 [.ref 0 0, .d (.raw (.func (.func 93) #[] #[]))] [.arr 0 76 (d0.map ag.pd)] (rI r.1, [.arr 0 76 (r.2.map ag.pd)]) := by
 refine Ev.body rfl Tryz.func131 rfl (by kernel_rfl)<|gS rfl rfl<|sV (r0)<|sN<|qS<|gS rfl rfl<|sM rfl<|WO.lenR rfl rfl rfl rfl rfl rfl rfl rfl rfl<|sV (r0)<|sN<|bE h fun o10 ho10 h => WC.block (WC.loop (WL.ofLoop ho10 (fun s R' B' => ghosts prog 1 (A R' B') (au.at_ 131 1 2) = some (A [(0, .ref 0 0), (1, .d (.raw (.func (.func 93) #[] #[]))), (7, rI (d0.length : Int)), (8, rI s)] [(0, .arr 0 76 (d0.map ag.pd))])) (fun o e R' B' => match o with | .inl y => e = .exit 0 ∧ ghosts prog 1 (A R' B') (au.at_ 131 1 7) = some (A [] [(0, .arr 0 76 (d0.map ag.pd))]) | .inr r => e = .ret ∧ finish prog (au.own 131) Tryz.f131 1 (A R' B') = some (rI r.1, [.arr 0 76 (r.2.map ag.pd)])) rfl ?_ ?_))
 ·rintro s1 R' B' q2 hI h
  refine gS rfl hI<|sF h (fun h => ?_) fun h => ?_
  ·refine sN<|qS<|cT<|qK<|qS<|qB<|gS rfl rfl<|sM rfl<|sA rfl<|sN<|gS rfl rfl<|sM rfl<|sM rfl<|sM rfl<|bE h fun x5 hx5 h => ?_
   refine WO.eltG hx5 rfl rfl rfl rfl rfl rfl rfl rfl<|bE h fun x6 hx6 h => WO.loadE hx6 rfl rfl rfl rfl rfl rfl<|bE h fun x7 hx7 h => ite_elim h (fun hb8 h => ?_) (fun hb8 h => ?_)
   ·refine WO.callR (v := rB true) (u := []) rfl rfl (fun _ => rfl) rfl rfl rfl rfl rfl (eW hx7) rfl rfl (congrArg (fun b => RV.d (.bool b)) hb8) rfl<|sN<|cT<|gS rfl rfl<|sM rfl<|sA rfl<|sN<|qR ?_
    cases oI h
    exact ⟨nofun, rfl, rfl⟩
   refine WO.callR (v := rB false) (u := []) rfl rfl (fun _ => rfl) rfl rfl rfl rfl rfl (eW hx7) rfl rfl (congrArg (fun b => RV.d (.bool b)) hb8) rfl<|sN<|cF<|qK<|WC.region rfl rfl<|sV (rI (rW (s1 + (1 : Int))))<|sM rfl<|sN ?_
   cases oI h
   exact ⟨rfl, rfl⟩
  refine sN<|qS<|cF<|qX ?_
  cases oI h
  exact ⟨nofun, rfl, rfl⟩
 intro e R' B' he hq
 rcases o10 with y11 | r12
 ·obtain ⟨rfl, hI⟩ := hq
  refine qE<|gS rfl hI<|sV (rI (-1))<|sN<|qR ?_
  cases oI h
  exact qD
 obtain ⟨rfl, hf⟩ := hq
 cases oI h
 exact hf
theorem fS {d0 : (List ag)} {r : (List ag)} (h : bG d0 = some r) : EvP prog au ext 91 [.ref 0 0, .d (.raw (.func (.func 93) #[] #[]))] [.arr 0 76 (d0.map ag.pd)] (.ref 0 1, [.arr 1 76 (r.map ag.pd)]) := by
 refine Ev.body rfl Tryz.func91 rfl (by kernel_rfl)<|gS rfl rfl<|sV .nils<|sN<|gS rfl rfl<|sM rfl<|sM rfl<|bE h fun x1 hx1 h => cR (rI x1.1) [(0, .arr 0 76 (x1.2.map ag.pd))] (gd hx1)<|sA rfl<|sN<|qS<|gS rfl rfl<|sM rfl<|sF h (fun h => ?_) fun h => ?_
 ·refine sN<|cT<|WC.regionSeq (R0 := [(0, .ref 0 1)]) (B0 := [(0, .arr 1 76 (x1.2.map ag.pd))]) rfl rfl<|sM rfl<|sA rfl<|sN<|qR ?_
  cases oI h
  exact qD
 refine sN<|cF<|qK<|qS<|gS rfl rfl<|sM rfl<|sV (rI (rW (x1.1 + (1 : Int))))<|sA rfl<|sN<|bE h fun o19 ho19 h => WC.block (WC.loop (WL.ofLoop ho19 (fun s R' B' => ghosts prog 1 (A R' B') (au.at_ 91 1 5) = some (A [(0, .ref 0 0), (1, .d (.raw (.func (.func 93) #[] #[]))), (5, rI s.1), (6, rI s.2.1)] [(0, .arr 0 76 (s.2.2.map ag.pd))])) (fun o e R' B' => e = .exit 0 ∧ ghosts prog 1 (A R' B') (au.at_ 91 1 11) = some (A [(0, .ref 0 0), (5, rI o.1)] [(0, .arr 0 76 (o.2.map ag.pd))])) rfl ?_ ?_))
 ·rintro ⟨s3, s4, s5⟩ R' B' q8 hI h
  refine qS<|gS rfl hI<|sM rfl<|sM rfl<|WO.lenR rfl rfl rfl rfl rfl rfl rfl rfl rfl<|sF h (fun h => ?_) fun h => ?_
  ·refine sN<|cT<|qK<|qS<|qB<|gS rfl rfl<|sM rfl<|sM rfl<|bE h fun x11 hx11 h => WO.eltG hx11 rfl rfl rfl rfl rfl rfl rfl rfl<|bE h fun x12 hx12 h => WO.loadE hx12 rfl rfl rfl rfl rfl rfl<|sB (.ptr 112 0) 112 (.var [r0, r0])<|sS 112 (.var [rI x12.ck, rI x12.fTo])<|sN ?_
   refine gS rfl rfl<|sM rfl<|sV (.d (ag.pd x12))<|bE h fun x13 hx13 h => cD (eW hx13)<|sF h (fun h => ?_) fun h => ?_
   ·refine sN<|cT<|gS rfl rfl<|sM rfl<|sM rfl<|sV (.d (ag.pd x12))<|bE h fun x16 hx16 h => WO.eltG hx16 rfl rfl rfl rfl rfl rfl rfl rfl<|bE h fun x17 hx17 h => WO.storeE (g := ag.pd) (sz := 2) (p := ag.pd x12) hx17 (fun _ => rfl) (fun _ => rfl) rfl rfl rfl rfl rfl rfl rfl rfl rfl<|sN<|WC.region rfl rfl<|sM rfl<|sV (rI (rW (s3 + (1 : Int))))<|sA rfl ?_
    refine sN<|WC.region rfl rfl<|sM rfl<|sV (rI (rW (s4 + (1 : Int))))<|sA rfl<|sN ?_
    cases oI h
    exact ⟨rfl, rfl⟩
   refine sN<|cF<|qK<|WC.region rfl rfl<|sM rfl<|sV (rI (rW (s4 + (1 : Int))))<|sA rfl<|sN ?_
   cases oI h
   exact ⟨rfl, rfl⟩
  refine sN<|cF<|qX ?_
  cases oI h
  exact ⟨nofun, rfl, rfl⟩
 intro e R' B' he hq
 obtain ⟨rfl, hI⟩ := hq
 refine qE<|gS rfl hI<|sM rfl<|sM rfl<|bE h fun x20 hx20 h => WO.subR hx20 rfl rfl rfl rfl rfl rfl rfl rfl rfl rfl rfl rfl<|bE h fun x21 hx21 h => WO.clearN (z := (ag.mk 0 0)) (g := ag.pd) rfl rfl rfl rfl rfl rfl rfl (dst_view hx21 rfl) rfl rfl rfl rfl<|sN<|gS rfl rfl<|sM rfl<|sM rfl<|bE h fun x23 hx23 h => WO.resl hx23 rfl rfl rfl rfl rfl rfl rfl rfl rfl rfl rfl rfl<|sA rfl ?_
 refine sN<|qR ?_
 cases oI h
 exact qD
theorem span_Normal_ev {a0 : (List ag)} {r : (List ag)} (h : gf a0 = some r) : EvP prog au ext 52 [.d (.lst (a0.map ag.pd))] [] (.d (.lst (r.map ag.pd)), []) := by
 refine Ev.body rfl Tryz.func52 rfl (by kernel_rfl)<|gS rfl rfl<|sV .nils<|sN<|gS rfl rfl<|sM rfl<|bE h fun x1 hx1 h => cR (.ref 144 0) [(144, .arr 0 76 (x1.map ag.pd))] (clone_92 hx1)<|bE h fun x2 hx2 h => cR (.ref 144 1) [(144, .arr 1 76 (x2.map ag.pd))] (fS hx2)<|sA rfl<|sN<|gS rfl rfl<|sM rfl<|bE h fun x3 hx3 h => ?_
 refine cR (.tup []) [(144, .arr 1 76 (x3.map ag.pd))] (sort_95_96 hx3)<|sN<|gS rfl rfl<|sV .nils<|sN<|qS<|gS rfl rfl<|sM rfl<|WO.lenR rfl rfl rfl rfl rfl rfl rfl rfl rfl<|sV (r0)<|sN<|bE h fun o27 ho27 h => WC.block (WC.loop (WL.ofLoop ho27 (fun s R' B' => ghosts prog 0 (A R' B') (au.at_ 52 0 5) = some (A [(4, .ref 816 0), (13, .ref 144 0), (14, rI (x3.length : Int)), (15, rI s.1)] [(144, .arr 0 76 (x3.map ag.pd)), (816, .arr 0 76 (s.2.map ag.pd))])) (fun o e R' B' => e = .exit 0 ∧ ghosts prog 0 (A R' B') (au.at_ 52 0 12) = some (A [(4, .ref 816 0)] [(816, .arr 0 76 (o.map ag.pd))])) rfl ?_ ?_))
 ·rintro ⟨s4, s5⟩ R' B' q7 hI h
  refine gS rfl hI<|sF h (fun h => ?_) fun h => ?_
  ·refine sN<|qS<|cT<|qK<|qS<|qB<|gS rfl rfl<|bE h fun x10 hx10 h => WO.eltG hx10 rfl rfl rfl rfl rfl rfl rfl rfl<|bE h fun x11 hx11 h => WO.loadE hx11 rfl rfl rfl rfl rfl rfl<|sB (.ptr 96 0) 96 (.var [r0, r0])<|sS 96 (.var [rI x11.ck, rI x11.fTo])<|sN<|gS rfl rfl ?_
   refine sM rfl<|WO.lenR rfl rfl rfl rfl rfl rfl rfl rfl rfl<|sA rfl<|sN<|WC.regionDSeq rfl rfl<|sM rfl<|sF h (fun h => ?_) fun h => ?_
   ·refine sM rfl<|sV (.ptr 96 0)<|sL rfl<|sM rfl<|sM rfl<|sV (rI (rW ((s5.length : Int) - (1 : Int))))<|bE h fun x14 hx14 h => WO.eltG hx14 rfl rfl rfl rfl rfl rfl rfl rfl<|sV (.elt 816 0 ((rW ((s5.length : Int) - (1 : Int)))).toNat 1)<|bE h fun x15 hx15 h => WO.loadE hx15 rfl rfl rfl rfl rfl rfl<|sV (rB (decide (x11.ck ≤ x15.fTo)))<|sF h (fun h => ?_) fun h => ?_
    ·refine sN<|sO<|cT<|WC.regionD rfl rfl<|sM rfl<|sM rfl<|sV (rI (rW ((s5.length : Int) - (1 : Int))))<|sM rfl<|sM rfl<|sV (rI (rW ((s5.length : Int) - (1 : Int))))<|bE h fun x18 hx18 h => WO.eltG hx18 rfl rfl rfl rfl rfl rfl rfl rfl<|sV (.elt 816 0 ((rW ((s5.length : Int) - (1 : Int)))).toNat 1)<|bE h fun x19 hx19 h => WO.loadE hx19 rfl rfl rfl rfl rfl rfl<|sV (.ptr 96 1) ?_
     refine sL rfl<|sV (rI (if x11.fTo > x19.fTo then x11.fTo else x19.fTo))<|bE h fun x21 hx21 h => WO.eltG hx21 rfl rfl rfl rfl rfl rfl rfl rfl<|sV (.elt 816 0 ((rW ((s5.length : Int) - (1 : Int)))).toNat 1)<|bE h fun x22 hx22 h => WO.storeF (g := ag.pd) (u := []) (sz := 1) hx22 (fun _ => rfl) (fun _ => Nat.le_of_ble_eq_true rfl) rfl rfl rfl rfl rfl rfl rfl rfl rfl rfl rfl ?_
     refine sN<|sO<|WC.region rfl rfl<|sV (rI (rW (s4 + (1 : Int))))<|sM rfl<|sN ?_
     cases oI h
     exact ⟨rfl, rfl⟩
    refine sN<|sO<|cF<|WC.region rfl rfl<|sM rfl<|sV (.d (ag.pd x11))<|sV (.d (.lst ([x11].map ag.pd)))<|bE h fun x24 hx24 h => aR hx24 (fun _ => rfl) rfl<|sA rfl<|sN<|WC.region rfl rfl<|sV (rI (rW (s4 + (1 : Int))))<|sM rfl<|sN ?_
    cases oI h
    exact ⟨rfl, rfl⟩
   refine sM rfl<|k3<|k3<|k3<|sU ?_
   refine sN<|sO<|cF<|WC.region rfl rfl<|sM rfl<|sV (.d (ag.pd x11))<|sV (.d (.lst ([x11].map ag.pd)))<|bE h fun x25 hx25 h => aR hx25 (fun _ => rfl) rfl<|sA rfl<|sN<|WC.region rfl rfl<|sV (rI (rW (s4 + (1 : Int))))<|sM rfl<|sN ?_
   cases oI h
   exact ⟨rfl, rfl⟩
  refine sN<|qS<|cF<|qX ?_
  cases oI h
  exact ⟨nofun, rfl, rfl⟩
 intro e R' B' he hq
 obtain ⟨rfl, hI⟩ := hq
 refine qE<|gS rfl hI<|sM rfl<|sA rfl<|sN<|qR ?_
 cases oI h
 exact qD
theorem iw {a0 : (List aa)} {r : (List ar)} (h : d9 a0 = some r) : EvP prog au ext 23 [.d (.lst (a0.map aa.pd))] [] (.d (.lst (r.map ar.pd)), []) := by
 refine Ev.body rfl Tryz.func23 rfl (by kernel_rfl)<|gS rfl rfl<|sV .nils<|sN<|gS rfl rfl<|sB (.ptr 160 0) 160 (.mapn 50 72 76 [] none)<|sA rfl<|sN<|gS rfl rfl<|sV .nils<|sN<|qS<|gS rfl rfl<|sM rfl<|sE (rI (a0.length : Int)) (lenMap _ _) ?_
 refine sV (r0)<|sN<|bE h fun o14 ho14 h => WC.block (WC.loop (WL.ofLoop ho14 (fun s R' B' => ghosts prog 0 (A R' B') (au.at_ 23 0 4) = some (A [(3, .ptr 160 0), (4, .ref 384 0), (11, .d (.lst (a0.map aa.pd))), (12, rI (a0.length : Int)), (13, rI s.1)] [(160, .mapn 50 72 76 (s.2.1.map fun e => (ae.pd e.1, e.2.map ag.pd)) none), (384, .arr 0 50 (s.2.2.map ae.pd))])) (fun o e R' B' => e = .exit 0 ∧ ghosts prog 0 (A R' B') (au.at_ 23 0 10) = some (A [(3, .ptr 160 0), (4, .ref 384 0)] [(160, .mapn 50 72 76 (o.1.map fun e => (ae.pd e.1, e.2.map ag.pd)) none), (384, .arr 0 50 (o.2.map ae.pd))])) rfl ?_ ?_))
 ·rintro ⟨s1, s2, s3⟩ R' B' q6 hI h
  refine gS rfl hI<|sF h (fun h => ?_) fun h => ?_
  ·refine sN<|qS<|cT<|qK<|qS<|qB<|gS rfl rfl<|bE h fun x8 hx8 h => eG hx8 rfl<|sV (.d (aa.pd x8))<|sB (.ptr 96 0) 96 (.var [rS [], rS [], rS [], rS [], r0, r0, r0, r0, r0])<|sH 96 (.var (aa.rc x8))<|sN<|qS<|gS rfl rfl ?_
   refine sV (.d (aa.pd x8))<|bE h fun x9 hx9 h => cD (gw hx9)<|sF h (fun h => ?_) fun h => ?_
   ·refine sN<|cT<|qX<|qE<|WC.region rfl rfl<|sV (rI (rW (s1 + (1 : Int))))<|sM rfl<|sN ?_
    cases oI h
    exact ⟨rfl, rfl⟩
   refine sN<|cF<|qK<|gS rfl rfl<|sM rfl<|sV (.ptr 96 0)<|sV (.d (ae.pd x8.ah))<|sV (.d (.lst ([x8.ah].map ae.pd)))<|bE h fun x11 hx11 h => aR hx11 (fun _ => rfl) rfl<|sA rfl<|sN<|WC.region rfl rfl<|sM rfl<|sV (.ptr 96 0) ?_
   refine sV (.d (ae.pd x8.ah))<|sV (.ptr 96 4)<|sL rfl<|sV (.ptr 96 4)<|sL rfl<|sV (rI (rW (x8.aP + (1 : Int))))<|sV (.d (ag.pd (ag.mk x8.aP (rW (x8.aP + (1 : Int))))))<|sV (.d (.lst ([(ag.mk x8.aP (rW (x8.aP + (1 : Int))))].map ag.pd)))<|WO.mapE (gv := ag.pd) keyT_50 rfl rfl rfl rfl rfl rfl rfl rfl rfl rfl<|sV (.ref 576 0)<|bE h fun x12 hx12 h => aR hx12 (fun _ => rfl) rfl<|sV (rI ((mIdx iW x8.ah s2 : Nat) : Int))<|WO.entS (gv := ag.pd) keyT_50 rfl rfl rfl rfl rfl rfl rfl rfl rfl<|sN ?_
   refine WC.region rfl rfl<|sV (rI (rW (s1 + (1 : Int))))<|sM rfl<|sN ?_
   cases oI h
   exact ⟨rfl, rfl⟩
  refine sN<|qS<|cF<|qX ?_
  cases oI h
  exact ⟨nofun, rfl, rfl⟩
 intro e R' B' he hq
 obtain ⟨rfl, hI⟩ := hq
 refine qE<|gS rfl hI<|sV .nils<|sN<|qS<|gS rfl rfl<|sM rfl<|bE h fun x15 hx15 h => cR (.d (.lst (x15.map ae.pd))) [(384, .dead)] (source_Sort_ev hx15)<|sE (rI (x15.length : Int)) (lenMap _ _)<|sV (r0)<|sN<|bE h fun o26 ho26 h => WC.block (WC.loop (WL.ofLoop ho26 (fun s R' B' => ghosts prog 0 (A R' B') (au.at_ 23 0 12) = some (A [(3, .ptr 160 0), (7, .ref 880 0), (41, .d (.lst (x15.map ae.pd))), (42, rI (x15.length : Int)), (43, rI s.1)] [(160, .map 50 72 (o14.1.map fun e => (ae.pd e.1, (fun l => PD.lst (l.map ag.pd)) e.2))), (880, .arr 0 74 (s.2.map ar.pd))])) (fun o e R' B' => e = .exit 2 ∧ ghosts prog 0 (A R' B') (au.at_ 23 0 16) = some (A [(7, .ref 880 0)] [(880, .arr 0 74 (o.map ar.pd))])) (ghosts_frzm rfl rfl) ?_ ?_))
 ·rintro ⟨s17, s18⟩ R' B' q20 hI h
  refine gS rfl hI<|sF h (fun h => ?_) fun h => ?_
  ·refine sN<|qS<|cT<|qK<|qS<|qB<|gS rfl rfl<|bE h fun x22 hx22 h => eG hx22 rfl<|sV (.d (ae.pd x22))<|sB (.ptr 144 0) 144 (.var [rS [], rS [], rS [], rS []])<|sS 144 (.var [rS x22.aj, rS x22.ak, rS x22.ai, rS x22.ap])<|sN<|WC.regionD (R0 := [(3, .ptr 160 0), (7, .ref 880 0), (9, .ptr 144 0), (41, .d (.lst (x15.map ae.pd))), (42, rI (x15.length : Int)), (43, rI s17)]) (B0 := [(144, .var [rS x22.aj, rS x22.ak, rS x22.ai, rS x22.ap]), (160, .map 50 72 (o14.1.map fun e => (ae.pd e.1, (fun l => PD.lst (l.map ag.pd)) e.2))), (880, .arr 0 74 (s18.map ar.pd))]) rfl rfl<|sM rfl ?_
   refine sV (.d (ae.pd x22))<|sM rfl<|sV (.d (ae.pd x22))<|WO.look (gv := (fun l => PD.lst (l.map ag.pd))) (z := ([] : (List ag))) keyT_50 rfl rfl rfl rfl rfl rfl rfl rfl<|bE h fun x23 hx23 h => cD (span_Normal_ev hx23)<|sV (.d (.agg [.str x22.aj, .str x22.ak, .str x22.ai, .str x22.ap, .lst (x23.map ag.pd)]))<|sV (.d (.lst ([(ar.mk x22 x23)].map ar.pd)))<|bE h fun x24 hx24 h => aR hx24 (fun _ => rfl) rfl<|sA rfl ?_
   refine sN<|sO<|WC.region rfl rfl<|sV (rI (rW (s17 + (1 : Int))))<|sM rfl<|sN ?_
   cases oI h
   exact ⟨rfl, rfl⟩
  refine sN<|qS<|cF<|qX ?_
  cases oI h
  exact ⟨nofun, rfl, rfl⟩
 intro e R' B' he hq
 obtain ⟨rfl, hI⟩ := hq
 refine qE<|gS rfl hI<|sM rfl<|sA rfl<|sN<|qR ?_
 cases oI h
 exact qD
theorem iz {a0 : (List ar)} {a1 : (List ar)} {r : Bool} (h : cZ a0 a1 = some r) : EvP prog au ext 22 [.d (.lst (a0.map ar.pd)), .d (.lst (a1.map ar.pd))] [] (rB r, []) := by
 refine Ev.body rfl Tryz.func22 rfl (by kernel_rfl)<|gS rfl rfl<|sU<|sN<|qS<|gS rfl rfl<|sM rfl<|sE (rI (a0.length : Int)) (lenMap _ _)<|sM rfl<|sE (rI (a1.length : Int)) (lenMap _ _)<|sF h (fun h => ?_) fun h => ?_
 ·refine sN<|cT<|gS rfl rfl<|sU<|sN<|qR ?_
  cases oI h
  exact qD
 refine sN<|cF<|qK<|qS<|gS rfl rfl<|sV (r0)<|sN<|bE h fun o26 ho26 h => WC.block (WC.loop (WL.ofLoop ho26 (fun s R' B' => ghosts prog 0 (A R' B') (au.at_ 22 0 4) = some (A [(0, .d (.lst (a0.map ar.pd))), (1, .d (.lst (a1.map ar.pd))), (5, rI s)] [])) (fun o e R' B' => match o with | .inl y => e = .exit 0 ∧ ghosts prog 0 (A R' B') (au.at_ 22 0 13) = some (A [] []) | .inr r => e = .ret ∧ finish prog (au.own 22) Tryz.f22 0 (A R' B') = some (rB r, [])) rfl ?_ ?_))
 ·rintro s2 R' B' q3 hI h
  refine qS<|gS rfl hI<|sM rfl<|sM rfl<|sE (rI (a0.length : Int)) (lenMap _ _)<|sF h (fun h => ?_) fun h => ?_
  ·refine sN<|cT<|qK<|qS<|qB<|qS<|WC.regionDSeq rfl rfl<|sM rfl<|sM rfl<|bE h fun x5 hx5 h => eG hx5 rfl<|sV (.cptr [.str x5.ah.aj, .str x5.ah.ak, .str x5.ah.ai, .str x5.ah.ap, .lst (x5.dC.map ag.pd)])<|sV (.d (ae.pd x5.ah))<|sM rfl<|sM rfl ?_
   refine bE h fun x6 hx6 h => eG hx6 rfl<|sV (.cptr [.str x6.ah.aj, .str x6.ah.ak, .str x6.ah.ai, .str x6.ah.ap, .lst (x6.dC.map ag.pd)])<|sV (.d (ae.pd x6.ah))<|ite_elim h (fun hb7 h => ?_) (fun hb7 h => ?_)
   ·refine WO.binS (eqN_50 x5.ah x6.ah) hb7 rfl rfl rfl rfl rfl<|sM rfl<|k3<|k3<|k3<|k3<|sK ?_
    refine sT ?_
    refine sN<|sO<|cT<|gS rfl rfl<|sU<|sN<|qR ?_
    cases oI h
    exact ⟨nofun, rfl, rfl⟩
   refine WO.binS (eqN_50 x5.ah x6.ah) hb7 rfl rfl rfl rfl rfl<|sM rfl<|sM rfl<|sM rfl<|bE h fun x8 hx8 h => eG hx8 rfl<|sV (.cptr [.lst (x8.dC.map ag.pd)])<|sC rfl<|sE (rI (x8.dC.length : Int)) (lenMap _ _)<|sM rfl<|sM rfl<|bE h fun x9 hx9 h => eG hx9 rfl<|sV (.cptr [.lst (x9.dC.map ag.pd)])<|sC rfl ?_
   refine sE (rI (x9.dC.length : Int)) (lenMap _ _)<|sV (rB ((x8.dC.length : Int) != (x9.dC.length : Int)))<|sF h (fun h => ?_) fun h => ?_
   ·refine sN<|sO<|cT<|gS rfl rfl<|sU<|sN<|qR ?_
    cases oI h
    exact ⟨nofun, rfl, rfl⟩
   refine sN<|sO<|cF<|qK<|gS rfl rfl<|sV (r0)<|sN<|bE h fun o22 ho22 h => WC.block (WC.loop (WL.ofLoop ho22 (fun s R' B' => ghosts prog 0 (A R' B') (au.at_ 22 0 9) = some (A [(0, .d (.lst (a0.map ar.pd))), (1, .d (.lst (a1.map ar.pd))), (5, rI s2), (6, rI s)] [])) (fun o e R' B' => match o with | .inl y => e = .exit 2 ∧ ghosts prog 0 (A R' B') (au.at_ 22 0 5) = some (A [(0, .d (.lst (a0.map ar.pd))), (1, .d (.lst (a1.map ar.pd))), (5, rI y)] []) | .inr r => e = .ret ∧ finish prog (au.own 22) Tryz.f22 0 (A R' B') = some (rB r, [])) rfl ?_ ?_))
   ·rintro s11 R' B' q13 hI h
    refine qS<|gS rfl hI<|sM rfl<|sM rfl<|sM rfl<|bE h fun x14 hx14 h => eG hx14 rfl<|sV (.cptr [.lst (x14.dC.map ag.pd)])<|sC rfl<|sE (rI (x14.dC.length : Int)) (lenMap _ _)<|sF h (fun h => ?_) fun h => ?_
    ·refine sN<|cT<|qK<|qS<|qB<|WC.regionDSeq rfl rfl<|sM rfl<|sM rfl<|bE h fun x16 hx16 h => eG hx16 rfl<|sV (.cptr [.lst (x16.dC.map ag.pd)])<|sC rfl<|sM rfl<|bE h fun x17 hx17 h => eG hx17 rfl ?_
     refine sV (.d (ag.pd x17))<|sM rfl<|sM rfl<|bE h fun x18 hx18 h => eG hx18 rfl<|sV (.cptr [.lst (x18.dC.map ag.pd)])<|sC rfl<|sM rfl<|bE h fun x19 hx19 h => eG hx19 rfl<|sV (.d (ag.pd x19))<|ite_elim h (fun hb20 h => ?_) (fun hb20 h => ?_)
     ·refine WO.binS (eqN_76 x17 x19) hb20 rfl rfl rfl rfl rfl ?_
      refine sN<|sO<|cT<|gS rfl rfl<|sU<|sN<|qR ?_
      cases oI h
      exact ⟨nofun, rfl, rfl⟩
     refine WO.binS (eqN_76 x17 x19) hb20 rfl rfl rfl rfl rfl ?_
     refine sN<|sO<|cF<|qK<|WC.region rfl rfl<|sM rfl<|sV (rI (rW (s11 + (1 : Int))))<|sA rfl<|sN ?_
     cases oI h
     exact ⟨rfl, rfl⟩
    refine sN<|cF<|qX ?_
    cases oI h
    exact ⟨nofun, rfl, rfl⟩
   intro e R' B' he hq
   rcases o22 with y23 | r24
   ·obtain ⟨rfl, hI⟩ := hq
    refine qE<|WC.region hI rfl<|sM rfl<|sV (rI (rW (y23 + (1 : Int))))<|sA rfl<|sN ?_
    cases oI h
    exact ⟨rfl, rfl⟩
   obtain ⟨rfl, hf⟩ := hq
   cases oI h
   exact ⟨nofun, rfl, hf⟩
  refine sN<|cF<|qX ?_
  cases oI h
  exact ⟨nofun, rfl, rfl⟩
 intro e R' B' he hq
 rcases o26 with y27 | r28
 ·obtain ⟨rfl, hI⟩ := hq
  refine qE<|gS rfl hI<|sT<|sN<|qR ?_
  cases oI h
  exact qD
 obtain ⟨rfl, hf⟩ := hq
 cases oI h
 exact hf
theorem law39_awake_ev  {r : Bool} (h : gZ = some r) : EvP prog au ext 16 [] [] (rB r, []) := by
 refine Ev.body rfl Tryz.func16 rfl (by kernel_rfl)<|gS rfl rfl<|sU<|sN<|gS rfl rfl<|bE h fun x1 hx1 h => cD (dy hx1)<|bE h fun x2 hx2 h => cD (dy hx2)<|bE h fun x3 hx3 h => cD (dy hx3)<|bE h fun x4 hx4 h => cD (dy hx4)<|sG (.d (.lst ([x1, x2, x3, x4].map aa.pd)))<|bE h fun x5 hx5 h => ?_
 refine cR (.tup [.d (.lst (x5.1.map (fun l => PD.lst (l.map aa.pd)))), rI x5.2]) [] (fF hx5)<|sM rfl<|sV (.d (.lst (x5.1.map (fun l => PD.lst (l.map aa.pd)))))<|sV (rI x5.2)<|sA rfl<|sA rfl<|sN<|gS rfl rfl<|bE h fun x6 hx6 h => cD (dy hx6)<|bE h fun x7 hx7 h => cD (dy hx7)<|bE h fun x8 hx8 h => cD (dy hx8)<|sG (.d (.lst ([x6, x7, x8].map aa.pd))) ?_
 refine bE h fun x9 hx9 h => cD (iw hx9)<|sA rfl<|sN<|WC.regionDSeq rfl rfl<|sM rfl<|sF h (fun h => ?_) fun h => ?_
 ·refine sM rfl<|sM rfl<|sE (rI (x5.1.length : Int)) (lenMap _ _)<|sV (rB ((x5.1.length : Int) == (2 : Int)))<|sF h (fun h => ?_) fun h => ?_
  ·refine sM rfl<|sM rfl<|bE h fun x12 hx12 h => eG hx12 rfl<|sC rfl<|sE (rI (x12.length : Int)) (lenMap _ _)<|sV (rB ((x12.length : Int) == (3 : Int)))<|sF h (fun h => ?_) fun h => ?_
   ·refine sM rfl<|sM rfl<|bE h fun x14 hx14 h => eG hx14 rfl<|sC rfl<|bE h fun x15 hx15 h => eG hx15 rfl<|sV (.d (aa.pd x15))<|bE h fun x16 hx16 h => cD (dy hx16)<|WO.bin (eqE_52 x15 x16) rfl rfl rfl rfl rfl<|sF h (fun h => ?_) fun h => ?_
    ·refine sM rfl<|sM rfl<|bE h fun x18 hx18 h => cD (fx hx18)<|sV (.d (ag.pd (ag.mk 4 6)))<|sV (.d (ag.pd (ag.mk 9 10)))<|sV (.d (.lst ([(ag.mk 4 6), (ag.mk 9 10)].map ag.pd)))<|sV (.d (.agg [.str x18.aj, .str x18.ak, .str x18.ai, .str x18.ap, .lst ([(ag.mk 4 6), (ag.mk 9 10)].map ag.pd)]))<|sV (.d (.lst ([(ar.mk x18 [(ag.mk 4 6), (ag.mk 9 10)])].map ar.pd)))<|bE h fun x19 hx19 h => cD (iz hx19)<|sV (rB x19)<|sA rfl ?_
     refine sN<|sO<|qR ?_
     cases oI h
     exact qD
    refine sM rfl<|k3<|k3<|sK<|sK<|sU<|sA rfl ?_
    refine sN<|sO<|qR ?_
    cases oI h
    exact qD
   refine sM rfl<|k3<|k3<|sK<|sU<|sM rfl<|k3<|sK<|sK ?_
   refine k3<|sU<|sA rfl ?_
   refine sN<|sO<|qR ?_
   cases oI h
   exact qD
  refine sM rfl<|k3<|sK<|sK<|sU<|sM rfl<|k3<|k3<|sK ?_
  refine sU<|sM rfl<|k3<|k3<|sK<|sK<|sU<|sA rfl ?_
  refine sN<|sO<|qR ?_
  cases oI h
  exact qD
 refine sM rfl<|k3<|sU<|sM rfl<|k3<|sK<|sK<|sU<|sM rfl<|sK<|sK ?_
 refine k3<|sK<|sK<|sU<|sM rfl<|k3<|k3<|sK<|sK ?_
 refine sU<|sA rfl ?_
 refine sN<|sO<|qR ?_
 cases oI h
 exact qD
theorem hU {a0 : (List Int)} {r : Bool} (h : eo a0 = some r) : EvP prog au ext 3 [.d (.lst (a0.map (PD.int .i64)))] [] (rB r, []) := by
 refine Ev.body rfl Tryz.func3 rfl (by kernel_rfl)<|gS rfl rfl<|sU<|sN<|gS rfl rfl<|sM rfl<|bE h fun x1 hx1 h => cR (.ptr 256 0) [(256, .var [.d (.lst (x1.fL.map (PD.int .i64))), rI x1.fAt])] (keep_New_ev hx1)<|sA rfl<|sN<|gS rfl rfl<|sM rfl<|sM rfl<|bE h fun x2 hx2 h => cR (.d (aK.pd x2.1)) [(256, .var [.d (.lst (x2.2.fL.map (PD.int .i64))), rI x2.2.fAt])] (Src_Settings_ev hx2) ?_
 refine sM rfl<|bE h fun x3 hx3 h => cR (.d (aC.pd x3.1)) [(256, .var [.d (.lst (x3.2.fL.map (PD.int .i64))), rI x3.2.fAt])] (Src_Sites_ev hx3)<|bE h fun x4 hx4 h => cR (.d (.lst (x4.1.map aa.pd))) [(256, .var [.d (.lst (x4.2.fL.map (PD.int .i64))), rI x4.2.fAt])] (Src_Picks_ev hx4)<|sA rfl<|sN<|gS rfl rfl<|sM rfl<|sV (.d (.lst ([0, 10, 100, 400].map (PD.int .i64))))<|bE h fun x5 hx5 h => cR (rI x5.1) [(256, .var [.d (.lst (x5.2.fL.map (PD.int .i64))), rI x5.2.fAt])] (cJ hx5)<|sA rfl<|sN<|gS rfl rfl ?_
 refine sM rfl<|sM rfl<|bE h fun x6 hx6 h => cR (.tup [.d (.lst (x6.1.map (fun l => PD.lst (l.map aa.pd)))), rI x6.2]) [] (fF hx6)<|sM rfl<|sV (.d (.lst (x6.1.map (fun l => PD.lst (l.map aa.pd)))))<|sV (rI x6.2)<|sA rfl<|sA rfl<|sN<|qS<|gS rfl rfl<|sM rfl<|sF h (fun h => ?_) fun h => ?_
 ·refine sN<|cT<|gS rfl rfl<|sU<|sN<|qR ?_
  cases oI h
  exact qD
 refine sN<|cF<|qK<|gS rfl rfl<|sV .nils<|sN<|qS<|gS rfl rfl<|sM rfl<|sE (rI (x6.1.length : Int)) (lenMap _ _)<|sV (r0)<|sN<|bE h fun o63 ho63 h => WC.block (WC.loop (WL.ofLoop ho63 (fun s R' B' => ghosts prog 0 (A R' B') (au.at_ 3 0 9) = some (A [(4, .d (.lst (x4.1.map aa.pd))), (5, rI x5.1), (6, .d (.lst (x6.1.map (fun l => PD.lst (l.map aa.pd))))), (8, .ref 1312 0), (35, rI (x6.1.length : Int)), (36, rI s.1)] [(1312, .arr 0 52 (s.2.map aa.pd))])) (fun o e R' B' => match o with | .inl y => e = .exit 0 ∧ ghosts prog 0 (A R' B') (au.at_ 3 0 28) = some (A [(4, .d (.lst (x4.1.map aa.pd))), (8, .ref 1312 0)] [(1312, .arr 0 52 (y.map aa.pd))]) | .inr r => e = .ret ∧ finish prog (au.own 3) Tryz.f3 0 (A R' B') = some (rB r, [])) rfl ?_ ?_))
 ·rintro ⟨s8, s9⟩ R' B' q11 hI h
  refine gS rfl hI<|sF h (fun h => ?_) fun h => ?_
  ·refine sN<|qS<|cT<|qK<|qS<|qB<|gS rfl rfl<|sM rfl<|sA rfl<|sN<|qS<|gS rfl rfl<|sM rfl<|sM rfl<|bE h fun x13 hx13 h => ?_
   refine eG hx13 rfl<|sC rfl<|sE (rI (x13.length : Int)) (lenMap _ _)<|sF h (fun h => ?_) fun h => ?_
   ·refine sN<|cT<|gS rfl rfl<|sU<|sN<|qR ?_
    cases oI h
    exact ⟨nofun, rfl, rfl⟩
   refine sN<|cF<|qK<|qS<|gS rfl rfl<|sV (r0)<|sN<|bE h fun o57 ho57 h => WC.block (WC.loop (WL.ofLoop ho57 (fun s R' B' => ghosts prog 0 (A R' B') (au.at_ 3 0 14) = some (A [(4, .d (.lst (x4.1.map aa.pd))), (5, rI x5.1), (6, .d (.lst (x6.1.map (fun l => PD.lst (l.map aa.pd))))), (8, .ref 1312 0), (9, rI s.1), (10, rI s.2.1), (35, rI (x6.1.length : Int)), (36, rI s.2.2.1)] [(1312, .arr 0 52 (s.2.2.2.map aa.pd))])) (fun o e R' B' => match o with | .inl y => e = .exit 2 ∧ ghosts prog 0 (A R' B') (au.at_ 3 0 26) = some (A [(4, .d (.lst (x4.1.map aa.pd))), (5, rI x5.1), (6, .d (.lst (x6.1.map (fun l => PD.lst (l.map aa.pd))))), (8, .ref 1312 0), (9, rI y.1), (35, rI (x6.1.length : Int)), (36, rI y.2.1)] [(1312, .arr 0 52 (y.2.2.map aa.pd))]) | .inr r => e = .ret ∧ finish prog (au.own 3) Tryz.f3 0 (A R' B') = some (rB r, [])) rfl ?_ ?_))
   ·rintro ⟨s15, s16, s17, s18⟩ R' B' q22 hI h
    refine qS<|gS rfl hI<|sM rfl<|sM rfl<|sF h (fun h => ?_) fun h => ?_
    ·refine sN<|cT<|qK<|qS<|qB<|gS rfl rfl<|sM rfl<|sM rfl<|bE h fun x24 hx24 h => eG hx24 rfl<|sC rfl<|sE (rI (x24.length : Int)) (lenMap _ _)<|sV (r0)<|sN<|bE h fun o53 ho53 h => ?_
     refine WC.block (WC.loop (WL.ofLoop ho53 (fun s R' B' => ghosts prog 0 (A R' B') (au.at_ 3 0 17) = some (A [(4, .d (.lst (x4.1.map aa.pd))), (5, rI x5.1), (6, .d (.lst (x6.1.map (fun l => PD.lst (l.map aa.pd))))), (8, .ref 1312 0), (9, rI s.1), (10, rI s.2.1), (35, rI (x6.1.length : Int)), (36, rI s.2.2.1), (53, .d (.lst (x24.map aa.pd))), (54, rI (x24.length : Int)), (55, rI s.2.2.2.1)] [(1312, .arr 0 52 (s.2.2.2.2.map aa.pd))])) (fun o e R' B' => match o with | .inl y => e = .exit 4 ∧ ghosts prog 0 (A R' B') (au.at_ 3 0 15) = some (A [(4, .d (.lst (x4.1.map aa.pd))), (5, rI x5.1), (6, .d (.lst (x6.1.map (fun l => PD.lst (l.map aa.pd))))), (8, .ref 1312 0), (9, rI y.1), (10, rI y.2.1), (35, rI (x6.1.length : Int)), (36, rI y.2.2.1)] [(1312, .arr 0 52 (y.2.2.2.map aa.pd))]) | .inr r => e = .ret ∧ finish prog (au.own 3) Tryz.f3 0 (A R' B') = some (rB r, [])) rfl ?_ ?_))
     ·rintro ⟨s25, s26, s27, s28, s29⟩ R' B' q34 hI h
      refine gS rfl hI<|sF h (fun h => ?_) fun h => ?_
      ·refine sN<|qS<|cT<|qK<|qS<|qB<|gS rfl rfl<|bE h fun x36 hx36 h => eG hx36 rfl<|sV (.d (aa.pd x36))<|sB (.ptr 192 0) 192 (.var [rS [], rS [], rS [], rS [], r0, r0, r0, r0, r0])<|sH 192 (.var (aa.rc x36))<|sN<|gS rfl rfl<|sM rfl ?_
       refine sM rfl<|bE h fun x37 hx37 h => eG hx37 rfl<|sC rfl<|sE (rI (x37.length : Int)) (lenMap _ _)<|sV (r0)<|sN<|bE h fun o49 ho49 h => WC.block (WC.loop (WL.ofLoop ho49 (fun s R' B' => ghosts prog 0 (A R' B') (au.at_ 3 0 20) = some (A [(4, .d (.lst (x4.1.map aa.pd))), (5, rI x5.1), (6, .d (.lst (x6.1.map (fun l => PD.lst (l.map aa.pd))))), (8, .ref 1312 0), (9, rI s25), (10, rI s26), (12, .ptr 192 0), (35, rI (x6.1.length : Int)), (36, rI s27), (53, .d (.lst (x24.map aa.pd))), (54, rI (x24.length : Int)), (55, rI s28), (62, .d (.lst (x37.map aa.pd))), (63, rI (x37.length : Int)), (64, rI s)] [(192, .var (aa.rc x36)), (1312, .arr 0 52 (s29.map aa.pd))])) (fun o e R' B' => match o with | .inl y => e = .exit 6 ∧ ghosts prog 0 (A R' B') (au.at_ 3 0 25) = some (A [(4, .d (.lst (x4.1.map aa.pd))), (5, rI x5.1), (6, .d (.lst (x6.1.map (fun l => PD.lst (l.map aa.pd))))), (8, .ref 1312 0), (9, rI y.1), (10, rI y.2.1), (35, rI (x6.1.length : Int)), (36, rI y.2.2.1), (53, .d (.lst (x24.map aa.pd))), (54, rI (x24.length : Int)), (55, rI y.2.2.2.1)] [(1312, .arr 0 52 (y.2.2.2.2.map aa.pd))]) | .inr r => e = .ret ∧ finish prog (au.own 3) Tryz.f3 0 (A R' B') = some (rB r, [])) rfl ?_ ?_))
       ·rintro s38 R' B' q44 hI h
        refine gS rfl hI<|sF h (fun h => ?_) fun h => ?_
        ·refine sN<|qS<|cT<|qK<|qS<|qB<|gS rfl rfl<|bE h fun x46 hx46 h => eG hx46 rfl<|sV (.d (aa.pd x46))<|sB (.ptr 224 0) 224 (.var [rS [], rS [], rS [], rS [], r0, r0, r0, r0, r0])<|sH 224 (.var (aa.rc x46))<|sN<|gS rfl rfl<|sV (.ptr 192 5) ?_
         refine sL rfl<|sV (.ptr 224 5)<|sL rfl<|sV (rI (rW (x36.aA - x46.aA)))<|sM rfl<|sF h (fun h => ?_) fun h => ?_
         ·refine sN<|cT<|gS rfl rfl<|sU<|sN<|qR ?_
          cases oI h
          exact ⟨nofun, rfl, rfl⟩
         refine sN<|cF<|qK<|WC.region rfl rfl<|sV (rI (rW (s38 + (1 : Int))))<|sM rfl<|sN ?_
         cases oI h
         exact ⟨rfl, rfl⟩
        refine sN<|qS<|cF<|qX ?_
        cases oI h
        exact ⟨nofun, rfl, rfl⟩
       intro e R' B' he hq
       rcases o49 with y50 | r51
       ·obtain ⟨rfl, hI⟩ := hq
        refine qE<|WC.region hI rfl<|sV (rI (rW (y50.2.2.2.1 + (1 : Int))))<|sM rfl<|sN ?_
        cases oI h
        exact ⟨rfl, rfl⟩
       obtain ⟨rfl, hf⟩ := hq
       cases oI h
       exact ⟨nofun, rfl, hf⟩
      refine sN<|qS<|cF<|qX ?_
      cases oI h
      exact ⟨nofun, rfl, rfl⟩
     intro e R' B' he hq
     rcases o53 with y54 | r55
     ·obtain ⟨rfl, hI⟩ := hq
      refine qE<|WC.region hI rfl<|sM rfl<|sV (rI (rW (y54.2.1 + (1 : Int))))<|sA rfl<|sN ?_
      cases oI h
      exact ⟨rfl, rfl⟩
     obtain ⟨rfl, hf⟩ := hq
     cases oI h
     exact ⟨nofun, rfl, hf⟩
    refine sN<|cF<|qX ?_
    cases oI h
    exact ⟨nofun, rfl, rfl⟩
   intro e R' B' he hq
   rcases o57 with y58 | r59
   ·obtain ⟨rfl, hI⟩ := hq
    refine qE<|WC.region hI rfl<|sM rfl<|sM rfl<|sM rfl<|bE h fun x60 hx60 h => eG hx60 rfl<|sC rfl<|bE h fun x61 hx61 h => aR hx61 (fun _ => rfl) rfl<|sA rfl<|sN<|WC.region rfl rfl<|sV (rI (rW (y58.2.1 + (1 : Int))))<|sM rfl ?_
    refine sN ?_
    cases oI h
    exact ⟨rfl, rfl⟩
   obtain ⟨rfl, hf⟩ := hq
   cases oI h
   exact ⟨nofun, rfl, hf⟩
  refine sN<|qS<|cF<|qX ?_
  cases oI h
  exact ⟨nofun, rfl, rfl⟩
 intro e R' B' he hq
 rcases o63 with y64 | r65
 ·obtain ⟨rfl, hI⟩ := hq
  refine qE<|gS rfl hI<|sM rfl<|WO.lenR rfl rfl rfl rfl rfl rfl rfl rfl rfl<|sM rfl<|bE h fun x66 hx66 h => cD (hZ hx66)<|sE (rI (x66.length : Int)) (lenMap _ _)<|sF h (fun h => ?_) fun h => ?_
  ·refine sM rfl<|sM rfl<|bE h fun x68 hx68 h => cR (.d (.lst (x68.map aa.pd))) [(1312, .dead)] (hZ hx68)<|sM rfl<|bE h fun x69 hx69 h => cD (hZ hx69)<|bE h fun x70 hx70 h => cD (jb hx70)<|sF h (fun h => ?_) fun h => ?_
   ·refine sM rfl<|bE h fun x72 hx72 h => cD (law39_awake_ev hx72)<|sV (rB x72)<|sA rfl<|sN<|qR ?_
    cases oI h
    exact qD
   refine sM rfl<|sK<|sU<|sA rfl<|sN<|qR ?_
   cases oI h
   exact qD
  refine sM rfl<|k3<|sK<|sK<|sU<|sM rfl<|sK<|sU<|sA rfl<|sN<|qR ?_
  cases oI h
  exact qD
 obtain ⟨rfl, hf⟩ := hq
 cases oI h
 exact hf
end Go.Dw.Da
