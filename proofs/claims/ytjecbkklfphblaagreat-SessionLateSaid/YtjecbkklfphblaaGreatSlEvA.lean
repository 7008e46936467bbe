
import Derived.Test.YtjecbkklfphblaaGreatSlFn
import Derived.Test.YtjecbkklfphblaaGreatDwShort
import Derived.Test.YtjecbkklfphblaaGreatDwNest
import Derived.Test.YtjecbkklfphblaaGreatProg
import Derived.Test.YtjecbkklfphblaaGreatDwClone
import Derived.Test.YtjecbkklfphblaaGreatDwIns
import Derived.Test.YtjecbkklfphblaaGreatDwSort







set_option maxRecDepth 100000
set_option maxHeartbeats 4000000
namespace Go.Dw.Sl
open Go.Proofs Go.Proofs.Tryz Go.Dw
@[reducible] def rW (n : Int) : Int := IntKind.wrap .i64 n
@[reducible] def rI (n : Int) : RV := .d (.int .i64 n)
@[reducible] def r0 : RV := .d (.int .i64 0)
@[reducible] def rS (s : List UInt8) : RV := .d (.str s)
@[reducible] def rB (b : Bool) : RV := .d (.bool b)
@[reducible] def zZ0 : List RV := [.d (.int .i64 0), .d (.int .i64 0), .d (.int .i64 0), .d (.int .i64 0), .d (.int .i64 0), .nils, .nils, .nils, .d (.int .i64 0), .d (.int .i64 0), .nils, .d (.int .i64 0), .d (.int .i64 0), .nils, .nils]
@[reducible] def ah.rc (x : ah) : List RV := [.d (.int .i64 x.az), .d (.int .i64 x.aD), .d (.int .i64 x.aI), .d (.int .i64 x.ar.aH), .d (.int .i64 x.ar.aC), .d (.lst (x.ar.aG.map PD.str)), .d (.lst (x.ap.aJ.map aa.pd)), .d (.lst (x.ap.aF.map aa.pd)), .d (.int .i64 x.aB.az), .d (.int .i64 x.aB.aq), .d (.lst (x.aB.av.map ac.pd)), .d (.int .i64 x.fUp.az), .d (.int .i64 x.fUp.aq), .d (.lst (x.fUp.av.map ac.pd)), .d (.lst (x.aw.map aj.pd))]
def hintAt : FuncId → Nat → Nat → List Ghost := fun f nb id =>
  if f = 4 then (if nb = 0 then (if id = 8 then [.keep [5, 6, 7, 8, 9] [96]] else if id = 11 then [.keep [5, 6, 7, 8] [96]] else []) else []) else if f = 7 then (if nb = 0 then (if id = 3 then [.keep [1, 2, 3] [16]] else if id = 6 then [.keep [1, 2] [16]] else []) else []) else if f = 13 then (if nb = 0 then (if id = 11 then [.keep [6, 9, 62, 63, 64] [96, 544, 608]] else if id = 16 then [.keep [6, 9] [96, 544, 608]] else if id = 18 then [.keep [6, 9, 89, 90, 91] [96, 544, 608]] else if id = 22 then [.keep [6, 9] [96, 544, 608]] else []) else []) else if f = 16 then (if nb = 0 then (if id = 7 then [.frz (.cell 32 14), .keep [1, 2, 4, 6] [32, 64]] else if id = 10 then [.keep [2, 4, 6] [32, 64]] else []) else []) else if f = 25 then (if nb = 0 then (if id = 7 then [.keep [6, 21, 22, 23] []] else if id = 11 then [.keep [6] []] else []) else []) else if f = 31 then (if nb = 0 then (if id = 9 then [.own 7 704 55, .keep [4, 7, 28, 29] [704]] else if id = 13 then [.keep [7] [704]] else []) else []) else if f = 40 then (if nb = 0 then (if id = 3 then [.frz (.cell 16 10), .frz (.cell 16 13), .frz (.cell 16 5), .frz (.cell 16 6), .frz (.cell 16 7), .keep [1, 2] [16, 32, 496]] else []) else []) else if f = 42 then (if nb = 0 then (if id = 6 then [.keep [1, 3, 5, 6, 8] [48, 80, 96]] else if id = 10 then [.keep [1, 3, 5, 6, 48, 49] [48, 80, 96, 736]] else if id = 16 then [.keep [3, 6] [48, 96, 736]] else []) else []) else if f = 45 then (if nb = 0 then (if id = 8 then [.own 5 720 9, .keep [1, 2, 5, 6] [16, 32, 720]] else if id = 11 then [.keep [1, 2, 5, 6] [16, 32, 720]] else []) else []) else if f = 46 then (if nb = 2 then (if id = 1 then [.bumpp (.cell 0 14), .keep [0, 4, 5, 6, 7] [0, 1]] else []) else []) else if f = 48 then (if nb = 2 then (if id = 4 then [.keep [0, 31, 32, 33] [0, 1]] else []) else []) else if f = 54 then (if nb = 0 then (if id = 2 then [.keep [0, 7, 8, 9] []] else if id = 6 then [.keep [0] []] else []) else []) else if f = 70 then (if nb = 0 then (if id = 4 then [.keep [1, 22, 23, 24] [16]] else if id = 9 then [.keep [] []] else []) else []) else if f = 71 then (if nb = 0 then (if id = 4 then [.keep [1, 3, 4, 9, 10, 11] [16, 112]] else if id = 10 then [.keep [1] [16]] else []) else []) else if f = 77 then (if nb = 1 then (if id = 3 then [.keep [0, 2, 4, 8, 9, 10] [0, 64]] else if id = 8 then [.keep [0, 2, 4, 8, 9] [0, 64]] else []) else []) else if f = 80 then (if nb = 0 then (if id = 2 then [.keep [0, 1, 7, 8] []] else if id = 7 then [.keep [] []] else []) else []) else if f = 84 then (if nb = 0 then (if id = 7 then [.own 8 576 3, .keep [1, 2, 3, 8, 9] [48, 144, 576]] else if id = 12 then [.keep [1, 2, 3, 8, 37] [48, 576]] else if id = 13 then [.keep [8] [576]] else []) else []) else if f = 90 then (if nb = 0 then (if id = 4 then [.own 5 784 55, .keep [1, 5, 14, 15, 16] [784]] else if id = 8 then [.keep [1, 5, 7, 8, 14, 15, 16, 22, 23, 24] [112, 784]] else if id = 15 then [.keep [1, 5, 7, 8, 14, 15, 16] [112, 784]] else if id = 18 then [.keep [5] [784]] else []) else []) else if f = 91 then (if nb = 0 then (if id = 5 then [.keep [3, 13, 14, 15] []] else if id = 9 then [.keep [3, 13, 14, 15] []] else []) else []) else if f = 95 then (if nb = 0 then (if id = 5 then [.keep [1, 8, 9] [368]] else if id = 8 then [.keep [8] [368]] else []) else []) else if f = 99 then (if nb = 0 then (if id = 2 then [.keep [0, 5, 6, 7] []] else if id = 7 then [.keep [] []] else []) else if nb = 1 then (if id = 2 then [.keep [0, 5, 6, 7] [0]] else if id = 7 then [.keep [] [0]] else []) else []) else if f = 101 then (if nb = 0 then (if id = 7 then [.keep [0, 1, 8, 23, 24] []] else if id = 11 then [.keep [8] []] else []) else []) else if f = 105 then (if nb = 0 then (if id = 4 then [.own 5 816 55, .keep [0, 1, 5, 6, 7] [816]] else if id = 8 then [.keep [0, 1, 5, 6, 7] [816]] else if id = 11 then [.keep [5] [816]] else []) else []) else if f = 107 then (if nb = 0 then (if id = 3 then [.keep [3, 6, 7, 8] []] else if id = 8 then [.keep [3] []] else []) else []) else if f = 115 then (if nb = 0 then (if id = 3 then [.own 5 656 55, .keep [1, 5, 10, 11, 12] [656]] else if id = 12 then [.keep [5] [656]] else []) else []) else if f = 116 then (if nb = 0 then (if id = 5 then [.own 4 816 55, .keep [4, 13, 14, 15] [144, 816]] else if id = 12 then [.keep [4] [816]] else []) else []) else if f = 117 then (if nb = 0 then (if id = 6 then [.keep [1, 5, 6, 18, 19] [80]] else if id = 10 then [.keep [6] []] else []) else []) else if f = 119 then (if nb = 0 then (if id = 2 then [.keep [0, 1, 7, 8] []] else if id = 7 then [.keep [] []] else []) else []) else if f = 123 then (if nb = 0 then (if id = 3 then [.keep [0, 3, 9, 10, 11] []] else if id = 9 then [.keep [0, 3] []] else if id = 11 then [.keep [6, 25, 26, 27] [384]] else if id = 15 then [.keep [6] [384]] else []) else []) else if f = 124 then (if nb = 1 then (if id = 2 then [.keep [0, 1, 7, 8] [0]] else if id = 7 then [.keep [] [0]] else []) else []) else if f = 125 then (if nb = 1 then (if id = 3 then [.bumpp (.reg 0), .keep [0] [0]] else if id = 5 then [.keep [0, 1, 5, 6] [0]] else if id = 11 then [.keep [0, 5] [0]] else []) else []) else if f = 130 then (if nb = 0 then (if id = 3 then [.keep [0, 1, 5] [0, 16]] else if id = 12 then [.keep [0, 1, 2, 3, 5, 9] [0, 16]] else if id = 15 then [.keep [0, 1] [0, 16]] else []) else []) else if f = 132 then (if nb = 0 then (if id = 6 then [.own 0 80000 55, .mv (.reg 0) 90097, .keep [0] [90097]] else []) else []) else []
def au : Hints := { at_ := hintAt, mt := fun f i => (f == 41 && i == 30) || (f == 42 && i == 75) || (f == 125 && i == 41) || (f == 132 && i == 25), by_ := fun f i => (f == 62 && i == 0) || (f == 77 && i == 0) || (f == 79 && i == 0) || (f == 79 && i == 2) || (f == 99 && i == 0) || (f == 124 && i == 0) || (f == 125 && i == 0) || (f == 127 && i == 0) || (f == 132 && i == 0), own := fun f i => (f == 40 && i == 0) || (f == 73 && i == 0) || (f == 74 && i == 0) || (f == 75 && i == 0) || (f == 76 && i == 0) || (f == 125 && i == 0) || (f == 132 && i == 0) }
theorem eqE_50 (a b : aj) : binT prog .eql 50 (.d a.pd) (.d b.pd) = some (.bool ((a.kb == b.kb) && ((a.fAt == b.fAt) && ((a.aG == b.aG) && true))), true) := by kernel_rfl
theorem eqN_55 (a b : aa) : binT prog .neq 55 (.d a.pd) (.d b.pd) = some (.bool (!((a.aA == b.aA) && ((a.fTo == b.fTo) && true))), true) := by kernel_rfl


theorem T_api_Span_inj : ∀ x y : aa, x.pd = y.pd → x = y := by
  rintro ⟨z1, z2⟩ ⟨z3, z4⟩ h
  cases h; rfl
def ext0 : FuncId → Option CallD := fun _ => none
theorem gO {a0 : Int} {r : Bool} (h : ci a0 = some r) : EvP prog au ext0 135 [rI a0] [] (rB r, []) := by
 refine Ev.body rfl Tryz.func135 rfl (by kernel_rfl)<|gS rfl rfl<|sU<|sN<|gS rfl rfl<|sM rfl<|sM rfl<|sV (rB (a0 != a0))<|sA rfl<|sN<|qR ?_
 cases oI h
 exact qD
theorem jE {a0 : Int} {a1 : Int} {r : Int} (h : bN a0 a1 = some r) : EvP prog au ext0 129 [rI a0, rI a1] [] (rI r, []) := by
 refine Ev.body rfl Tryz.func129 rfl (by kernel_rfl)<|gS rfl rfl<|sV (r0)<|sN<|gS rfl rfl<|sM rfl<|bE h fun x1 hx1 h => cD (gO hx1)<|sA rfl<|sN<|gS rfl rfl<|sM rfl<|bE h fun x2 hx2 h => cD (gO hx2)<|sA rfl ?_
 refine sN<|qS<|gS rfl rfl<|sF h (fun h => ?_) fun h => ?_
 ·refine sN<|cT<|qS<|gS rfl rfl<|sF h (fun h => ?_) fun h => ?_
  ·refine sN<|cT<|gS rfl rfl<|sV (r0)<|sN<|qR ?_
   cases oI h
   exact qD
  refine sN<|cF<|qK<|gS rfl rfl<|sV (rI (-1))<|sN<|qR ?_
  cases oI h
  exact qD
 refine sN<|cF<|qK<|qS<|gS rfl rfl<|sF h (fun h => ?_) fun h => ?_
 ·refine sN<|cT<|gS rfl rfl<|sV (rI 1)<|sN<|qR ?_
  cases oI h
  exact qD
 refine sN<|cF<|qK<|qS<|gS rfl rfl<|sM rfl<|sM rfl<|sF h (fun h => ?_) fun h => ?_
 ·refine sN<|cT<|gS rfl rfl<|sV (rI (-1))<|sN<|qR ?_
  cases oI h
  exact qD
 refine sN<|cF<|qK<|qS<|gS rfl rfl<|sM rfl<|sM rfl<|sF h (fun h => ?_) fun h => ?_
 ·refine sN<|cT<|gS rfl rfl<|sV (rI 1)<|sN<|qR ?_
  cases oI h
  exact qD
 refine sN<|cF<|qK<|gS rfl rfl<|sV (r0)<|sN<|qR ?_
 cases oI h
 exact qD
theorem jx {a0 : aa} {a1 : aa} {r : Int} (h : aK a0 a1 = some r) : EvP prog au ext0 128 [.d (aa.pd a0), .d (aa.pd a1)] [] (rI r, []) := by
 refine Ev.body rfl Tryz.func128 rfl (by kernel_rfl)<|gS rfl rfl<|sB (.ptr 32 0) 32 (.var [rI a0.aA, rI a0.fTo])<|sB (.ptr 48 0) 48 (.var [rI a1.aA, rI a1.fTo])<|sV (r0)<|sN<|gS rfl rfl<|sV (.ptr 32 0)<|sL rfl<|sV (.ptr 48 0)<|sL rfl<|bE h fun x1 hx1 h => cD (jE hx1)<|sA rfl<|sN ?_
 refine qR ?_
 cases oI h
 exact qD
noncomputable def ext : FuncId → Option CallD := fun f => if f = 127 then some (sortD 128 55 aa.pd aK) else if f = 74 then some (cloneD 55 2 16) else if f = 73 then some (cloneD 9 1 16) else if f = 75 then some (cloneD 113 3 32) else if f = 76 then some (cloneD 50 3 32) else if f = 79 then some (insertD 113 3 32) else none
theorem sort_127_128 {l r : List aa} (h : sortO aK l = some r) : EvP prog au ext 127 [.ref 0 0, .d (.raw (.func (.func 128) #[] #[]))] [.arr 0 55 (l.map aa.pd)] (.tup [], [.arr 0 55 (r.map aa.pd)]) := sort_ev rfl (sortD_of T_api_Span_inj h)
theorem kr {l r : List aa} (h : cloneO 16 l = some r) : EvP prog au ext 74 [.d (.lst (l.map aa.pd))] [] (.ref 0 0, [.arr 0 55 (r.map aa.pd)]) := clone_ev (g := aa.pd) rfl (fun _ => rfl) h
theorem clone_73 {l r : List (List UInt8)} (h : cloneO 16 l = some r) : EvP prog au ext 73 [.d (.lst (l.map PD.str))] [] (.ref 0 0, [.arr 0 9 (r.map PD.str)]) := clone_ev (g := PD.str) rfl (fun _ => rfl) h
theorem ks {l r : List ac} (h : cloneO 32 l = some r) : EvP prog au ext 75 [.d (.lst (l.map ac.pd))] [] (.ref 0 0, [.arr 0 113 (r.map ac.pd)]) := clone_ev (g := ac.pd) rfl (fun _ => rfl) h
theorem clone_76 {l r : List aj} (h : cloneO 32 l = some r) : EvP prog au ext 76 [.d (.lst (l.map aj.pd))] [] (.ref 0 0, [.arr 0 50 (r.map aj.pd)]) := clone_ev (g := aj.pd) rfl (fun _ => rfl) h
theorem insert_79 {n : Int} {l m r : List ac} (h : insO 32 n l m = some r) : EvP prog au ext 79 [.ref 0 0, rI n, .ref 1 0] [.arr 0 113 (l.map ac.pd), .arr 0 113 (m.map ac.pd)] (.ref 0 1, [.arr 1 113 (r.map ac.pd), .dead]) := insert_ev (g := ac.pd) rfl (fun _ => rfl) h
theorem eB {a0 : Int} {a1 : Int} {a2 : Int} {r : Bool} (h : ei a0 a1 a2 = some r) : EvP prog au ext 68 [rI a0, rI a1, rI a2] [] (rB r, []) := by
 refine Ev.body rfl Tryz.func68 rfl (by kernel_rfl)<|gS rfl rfl<|sU<|sN<|gS rfl rfl<|sM rfl<|sM rfl<|sF h (fun h => ?_) fun h => ?_
 ·refine sM rfl<|sM rfl<|sM rfl<|sV (rB (decide (a0 ≤ a2)))<|sV (rB (decide (a0 ≤ a2)))<|sA rfl<|sN<|qR ?_
  cases oI h
  exact qD
 refine sM rfl<|k3<|sU<|sA rfl<|sN<|qR ?_
 cases oI h
 exact qD
theorem sender_New_ev {a0 : Int} {r : al × Int} (h : iS a0 = some r) : EvP prog au ext 34 [rI a0] [] (.tup [.d (al.pd r.1), rI r.2], []) := by
 refine Ev.body rfl Tryz.func34 rfl (by kernel_rfl)<|gS rfl rfl<|sB (.ptr 32 0) 32 (.var [r0, r0, .nils])<|sV (r0)<|sN<|qS<|gS rfl rfl<|sM rfl<|bE h fun x1 hx1 h => cD (eB hx1)<|sF h (fun h => ?_) fun h => ?_
 ·refine sN<|cT<|gS rfl rfl<|sV (.agg [r0, r0, .nils])<|sS 32 (.var [r0, r0, .nils])<|sV (rI 2)<|sN<|qR ?_
  cases oI h
  exact qD
 refine sN<|cF<|qK<|gS rfl rfl<|sM rfl<|sV (.agg [rI a0, r0, .nils])<|sS 32 (.var [rI a0, r0, .nils])<|sV (r0)<|sN<|qR ?_
 cases oI h
 exact qD
theorem aV {a0 : Int} {a1 : Int} {a2 : Int} {r : Bool} (h : bw a0 a1 a2 = some r) : EvP prog au ext 35 [rI a0, rI a1, rI a2] [] (rB r, []) := by
 refine Ev.body rfl Tryz.func35 rfl (by kernel_rfl)<|gS rfl rfl<|sU<|sN<|gS rfl rfl<|sM rfl<|sM rfl<|sF h (fun h => ?_) fun h => ?_
 ·refine sM rfl<|sM rfl<|sM rfl<|sV (rB (decide (a0 ≤ a2)))<|sV (rB (decide (a0 ≤ a2)))<|sA rfl<|sN<|qR ?_
  cases oI h
  exact qD
 refine sM rfl<|k3<|sU<|sA rfl<|sN<|qR ?_
 cases oI h
 exact qD
theorem receiver_New_ev  {r : ag} (h : gq = some r) : EvP prog au ext 36 [] [] (.d (ag.pd r), []) := by
 refine Ev.body rfl Tryz.func36 rfl (by kernel_rfl)<|gS rfl rfl<|sB (.ptr 0 0) 0 (.var [.nils, .nils])<|sN<|gS rfl rfl<|sV (.agg [.nils, .nils])<|sS 0 (.var [.nils, .nils])<|sN<|qR ?_
 cases oI h
 exact qD
theorem link_New_ev  {r : ai} (h : jk = some r) : EvP prog au ext 37 [] [] (.d (ai.pd r), []) := by
 refine Ev.body rfl Tryz.func37 rfl (by kernel_rfl)<|gS rfl rfl<|sB (.ptr 0 0) 0 (.var [r0, r0, .nils])<|sN<|gS rfl rfl<|sV (.agg [r0, r0, .nils])<|sS 0 (.var [r0, r0, .nils])<|sN<|qR ?_
 cases oI h
 exact qD
theorem jn {a0 : Int} {a1 : Int} {r : ah × Int} (h : fP a0 a1 = some r) : EvP prog au ext 9 [rI a0, rI a1] [] (.tup [.d (ah.pd r.1), rI r.2], []) := by
 refine Ev.body rfl Tryz.func9 rfl (by kernel_rfl)<|gS rfl rfl<|sB (.ptr 64 0) 64 (.var zZ0)<|sV (r0)<|sN<|gS rfl rfl<|sM rfl<|bE h fun x1 hx1 h => cR (.tup [.d (al.pd x1.1), rI x1.2]) [] (sender_New_ev hx1)<|sM rfl<|sV (.d (al.pd x1.1))<|sV (rI x1.2)<|sB (.ptr 96 0) 96 (.var [r0, r0, .nils])<|sS 96 (.var [rI x1.1.aH, rI x1.1.aC, .d (.lst (x1.1.aG.map PD.str))])<|sA rfl ?_
 refine sN<|qS<|gS rfl rfl<|sM rfl<|sF h (fun h => ?_) fun h => ?_
 ·refine sM rfl<|k3<|sT<|sN<|cT<|gS rfl rfl<|sG (.agg zZ0)<|sH 64 (.var zZ0)<|sV (rI 2)<|sN<|qR ?_
  cases oI h
  exact qG
 refine sM rfl<|sM rfl<|bE h fun x3 hx3 h => cD (aV hx3)<|sV (rB (!x3))<|sF h (fun h => ?_) fun h => ?_
 ·refine sN<|cT<|gS rfl rfl<|sG (.agg zZ0)<|sH 64 (.var zZ0)<|sV (rI 2)<|sN<|qR ?_
  cases oI h
  exact qG
 refine sN<|cF<|qK<|WC.regionDSeq rfl rfl<|sM rfl<|sV (.d (.agg [.int .i64 x1.1.aH, .int .i64 x1.1.aC, .lst (x1.1.aG.map PD.str)]))<|bE h fun x5 hx5 h => cD (receiver_New_ev hx5)<|bE h fun x6 hx6 h => cD (link_New_ev hx6)<|bE h fun x7 hx7 h => cD (link_New_ev hx7)<|sG (.agg [r0, rI a1, r0, rI x1.1.aH, rI x1.1.aC, .d (.lst (x1.1.aG.map PD.str)), .d (.lst (x5.aJ.map aa.pd)), .d (.lst (x5.aF.map aa.pd)), rI x6.az, rI x6.aq, .d (.lst (x6.av.map ac.pd)), rI x7.az, rI x7.aq, .d (.lst (x7.av.map ac.pd)), .nils])<|sH 64 (.var [r0, rI a1, r0, rI x1.1.aH, rI x1.1.aC, .d (.lst (x1.1.aG.map PD.str)), .d (.lst (x5.aJ.map aa.pd)), .d (.lst (x5.aF.map aa.pd)), rI x6.az, rI x6.aq, .d (.lst (x6.av.map ac.pd)), rI x7.az, rI x7.aq, .d (.lst (x7.av.map ac.pd)), .nils])<|sV (r0) ?_
 refine sN<|sO<|qR ?_
 cases oI h
 exact qG
theorem bG {a0 : al} {r : Int} (h : bF a0 = some r) : EvP prog au ext 51 [.d (al.pd a0)] [] (rI r, []) := by
 refine Ev.body rfl Tryz.func51 rfl (by kernel_rfl)<|gS rfl rfl<|sB (.ptr 16 0) 16 (.var [rI a0.aH, rI a0.aC, .d (.lst (a0.aG.map PD.str))])<|sV (r0)<|sN<|gS rfl rfl<|sV (.ptr 16 1)<|sL rfl<|sV (.ptr 16 2)<|sL rfl<|sE (rI (a0.aG.length : Int)) (lenMap _ _)<|sV (rI (rW (a0.aC + (a0.aG.length : Int))))<|sA rfl<|sN<|qR ?_
 cases oI h
 exact qD
theorem fO {a0 : (List UInt8)} {r : Bool} (h : de a0 = some r) : EvP prog au ext 98 [rS a0] [] (rB r, []) := by
 refine Ev.body rfl Tryz.func98 rfl (by kernel_rfl)<|gS rfl rfl<|sU<|sN<|gS rfl rfl<|sM rfl<|sV (rI (a0.length : Int))<|sV (rB (decide ((a0.length : Int) > (4064 : Int))))<|sA rfl<|sN<|qR ?_
 cases oI h
 exact qD
theorem fa {a0 : (List (List UInt8))} {r : Int} (h : aY a0 = some r) : EvP prog au ext 119 [.d (.lst (a0.map PD.str)), .d (.raw (.func (.func 98) #[] #[]))] [] (rI r, []) := by
 refine Ev.body rfl Tryz.func119 rfl (by kernel_rfl)<|gS rfl rfl<|sV (r0)<|sN<|qS<|gS rfl rfl<|sM rfl<|sE (rI (a0.length : Int)) (lenMap _ _)<|sV (r0)<|sN<|bE h fun o8 ho8 h => WC.block (WC.loop (WL.ofLoop ho8 (fun s R' B' => ghosts prog 0 (A R' B') (au.at_ 119 0 2) = some (A [(0, .d (.lst (a0.map PD.str))), (1, .d (.raw (.func (.func 98) #[] #[]))), (7, rI (a0.length : Int)), (8, rI s)] [])) (fun o e R' B' => match o with | .inl y => e = .exit 0 ∧ ghosts prog 0 (A R' B') (au.at_ 119 0 7) = some (A [] []) | .inr r => e = .ret ∧ finish prog (au.own 119) Tryz.f119 0 (A R' B') = some (rI r, [])) rfl ?_ ?_))
 ·rintro s1 R' B' q2 hI h
  refine gS rfl hI<|sF h (fun h => ?_) fun h => ?_
  ·refine sN<|qS<|cT<|qK<|qS<|qB<|gS rfl rfl<|sM rfl<|sA rfl<|sN<|gS rfl rfl<|sM rfl<|sM rfl<|sM rfl<|bE h fun x4 hx4 h => ?_
   refine eG hx4 rfl<|sC rfl<|bE h fun x5 hx5 h => ite_elim h (fun hb6 h => ?_) (fun hb6 h => ?_)
   ·refine WO.callR (v := rB true) (u := []) rfl rfl (fun _ => rfl) rfl rfl rfl rfl rfl (fO hx5) rfl rfl (congrArg (fun b => RV.d (.bool b)) hb6) rfl<|sN<|cT<|gS rfl rfl<|sM rfl<|sA rfl<|sN<|qR ?_
    cases oI h
    exact ⟨nofun, rfl, rfl⟩
   refine WO.callR (v := rB false) (u := []) rfl rfl (fun _ => rfl) rfl rfl rfl rfl rfl (fO hx5) rfl rfl (congrArg (fun b => RV.d (.bool b)) hb6) rfl<|sN<|cF<|qK<|WC.region rfl rfl<|sV (rI (rW (s1 + (1 : Int))))<|sM rfl<|sN ?_
   cases oI h
   exact ⟨rfl, rfl⟩
  refine sN<|qS<|cF<|qX ?_
  cases oI h
  exact ⟨nofun, rfl, rfl⟩
 intro e R' B' he hq
 rcases o8 with y9 | r10
 ·obtain ⟨rfl, hI⟩ := hq
  refine qE<|gS rfl hI<|sV (rI (-1))<|sN<|qR ?_
  cases oI h
  exact qD
 obtain ⟨rfl, hf⟩ := hq
 cases oI h
 exact hf
theorem d9 {a0 : (List (List UInt8))} {r : Bool} (h : aS a0 = some r) : EvP prog au ext 97 [.d (.lst (a0.map PD.str)), .d (.raw (.func (.func 98) #[] #[]))] [] (rB r, []) := by
 refine Ev.body rfl Tryz.func97 rfl (by kernel_rfl)<|gS rfl rfl<|sU<|sN<|gS rfl rfl<|sM rfl<|sM rfl<|bE h fun x1 hx1 h => cD (fa hx1)<|sV (rB (decide (x1 ≥ (0 : Int))))<|sA rfl<|sN<|qR ?_
 cases oI h
 exact qD
theorem cQ {a0 : al} {r : Bool} (h : cf a0 = some r) : EvP prog au ext 59 [.d (al.pd a0)] [] (rB r, []) := by
 refine Ev.body rfl Tryz.func59 rfl (by kernel_rfl)<|gS rfl rfl<|sB (.ptr 16 0) 16 (.var [rI a0.aH, rI a0.aC, .d (.lst (a0.aG.map PD.str))])<|sU<|sN<|qS<|gS rfl rfl<|sV (.ptr 16 0)<|sL rfl<|bE h fun x1 hx1 h => cD (eB hx1)<|sF h (fun h => ?_) fun h => ?_
 ·refine sM rfl<|k3<|sK<|sT<|sM rfl<|k3<|k3<|sT<|sM rfl ?_
  refine k3<|sT<|sN<|cT<|gS rfl rfl<|sU<|sN<|qR ?_
  cases oI h
  exact qD
 refine sM rfl<|sV (.ptr 16 1)<|sL rfl<|bE h fun x3 hx3 h => cD (eB hx3)<|sV (rB (!x3))<|sF h (fun h => ?_) fun h => ?_
 ·refine sM rfl<|k3<|k3<|sT<|sM rfl<|k3<|sT<|sN<|cT ?_
  refine gS rfl rfl<|sU<|sN<|qR ?_
  cases oI h
  exact qD
 refine sM rfl<|sV (.ptr 16 2)<|sL rfl<|sE (rI (a0.aG.length : Int)) (lenMap _ _)<|sV (.ptr 16 0)<|sL rfl<|sV (rB (decide ((a0.aG.length : Int) > a0.aH)))<|sF h (fun h => ?_) fun h => ?_
 ·refine sM rfl<|k3<|sT<|sN<|cT<|gS rfl rfl<|sU<|sN<|qR ?_
  cases oI h
  exact qD
 refine sM rfl<|sV (.d (al.pd a0))<|bE h fun x6 hx6 h => cD (bG hx6)<|sV (rB (decide (x6 > (1073741825 : Int))))<|sF h (fun h => ?_) fun h => ?_
 ·refine sN<|cT<|gS rfl rfl<|sU<|sN<|qR ?_
  cases oI h
  exact qD
 refine sN<|cF<|qK<|gS rfl rfl<|sV (.ptr 16 2)<|sL rfl<|bE h fun x8 hx8 h => cD (d9 hx8)<|sV (rB (!x8))<|sA rfl<|sN<|qR ?_
 cases oI h
 exact qD
theorem eX {a0 : aa} {r : Bool} (h : fE a0 = some r) : EvP prog au ext 120 [.d (aa.pd a0)] [] (rB r, []) := by
 refine Ev.body rfl Tryz.func120 rfl (by kernel_rfl)<|gS rfl rfl<|sB (.ptr 16 0) 16 (.var [rI a0.aA, rI a0.fTo])<|sU<|sN<|gS rfl rfl<|sV (.ptr 16 0)<|sL rfl<|sV (.ptr 16 1)<|sL rfl<|sV (rB (decide (a0.aA < a0.fTo)))<|sA rfl<|sN<|qR ?_
 cases oI h
 exact qD
theorem fM {a0 : (List aa)} {r : Bool} (h : gL a0 = some r) : EvP prog au ext 99 [.d (.lst (a0.map aa.pd))] [] (rB r, []) := by
 refine Ev.body rfl Tryz.func99 rfl (by kernel_rfl)<|gS rfl rfl<|sU<|sN<|qS<|gS rfl rfl<|sM rfl<|sE (rI (a0.length : Int)) (lenMap _ _)<|sV (r0)<|sN<|bE h fun o11 ho11 h => WC.block (WC.loop (WL.ofLoop ho11 (fun s R' B' => ghosts prog 0 (A R' B') (au.at_ 99 0 2) = some (A [(0, .d (.lst (a0.map aa.pd))), (5, .d (.lst (a0.map aa.pd))), (6, rI (a0.length : Int)), (7, rI s)] [])) (fun o e R' B' => match o with | .inl y => e = .exit 0 ∧ ghosts prog 0 (A R' B') (au.at_ 99 0 7) = some (A [] []) | .inr r => e = .ret ∧ finish prog (au.own 99) Tryz.f99 0 (A R' B') = some (rB r, [])) rfl ?_ ?_))
 ·rintro s1 R' B' q2 hI h
  refine gS rfl hI<|sF h (fun h => ?_) fun h => ?_
  ·refine sN<|qS<|cT<|qK<|qS<|qB<|gS rfl rfl<|sM rfl<|bE h fun x4 hx4 h => eG hx4 rfl<|sV (.d (aa.pd x4))<|sB (.ptr 64 0) 64 (.var [r0, r0])<|sA rfl<|sS 64 (.var [rI x4.aA, rI x4.fTo])<|sN ?_
   refine WC.regionDSeq rfl rfl<|sV (.d (aa.pd x4))<|bE h fun x5 hx5 h => cD (eX hx5)<|sF h (fun h => ?_) fun h => ?_
   ·refine sM rfl<|k3<|k3<|k3<|k3<|sK<|sT ?_
    refine sN<|sO<|cT<|gS rfl rfl<|sU<|sN<|qR ?_
    cases oI h
    exact ⟨nofun, rfl, rfl⟩
   refine sM rfl<|sM rfl<|sF h (fun h => ?_) fun h => ?_
   ·refine sM rfl<|sV (.ptr 64 0)<|sL rfl<|sM rfl<|sM rfl<|sV (rI (rW (s1 - (1 : Int))))<|bE h fun x8 hx8 h => eG hx8 rfl<|sV (.cptr [.int .i64 x8.fTo])<|sC rfl<|sV (rB (decide (x4.aA ≤ x8.fTo)))<|sV (rB (decide (x4.aA ≤ x8.fTo)))<|sF h (fun h => ?_) fun h => ?_
    ·refine sN<|sO<|cT<|gS rfl rfl<|sU<|sN<|qR ?_
     cases oI h
     exact ⟨nofun, rfl, rfl⟩
    refine sN<|sO<|cF<|qK<|WC.region rfl rfl<|sV (rI (rW (s1 + (1 : Int))))<|sM rfl<|sN ?_
    cases oI h
    exact ⟨rfl, rfl⟩
   refine sM rfl<|k3<|k3<|k3<|sU<|sU ?_
   refine sN<|sO<|cF<|qK<|WC.region rfl rfl<|sV (rI (rW (s1 + (1 : Int))))<|sM rfl<|sN ?_
   cases oI h
   exact ⟨rfl, rfl⟩
  refine sN<|qS<|cF<|qX ?_
  cases oI h
  exact ⟨nofun, rfl, rfl⟩
 intro e R' B' he hq
 rcases o11 with y12 | r13
 ·obtain ⟨rfl, hI⟩ := hq
  refine qE<|gS rfl hI<|sT<|sN<|qR ?_
  cases oI h
  exact qD
 obtain ⟨rfl, hf⟩ := hq
 cases oI h
 exact hf
theorem fY {a0 : (List aa)} {r : Bool} (h : ez a0 = some r) : EvP prog au ext 104 [.d (.lst (a0.map aa.pd))] [] (rB r, []) := by
 refine Ev.body rfl Tryz.func104 rfl (by kernel_rfl)<|gS rfl rfl<|sU<|sN<|gS rfl rfl<|sM rfl<|bE h fun x1 hx1 h => ite_elim h (fun hb2 h => ?_) (fun hb2 h => ?_)
 ·refine WO.callR (v := rB true) (u := []) rfl rfl (fun _ => rfl) rfl rfl rfl rfl rfl (fM hx1) rfl rfl (congrArg (fun b => RV.d (.bool b)) hb2) rfl<|sM rfl<|sM rfl<|sE (rI (a0.length : Int)) (lenMap _ _)<|sF h (fun h => ?_) fun h => ?_
  ·refine sM rfl<|k3<|k3<|k3<|k3<|sK<|sK ?_
   refine sK<|sT<|sT<|sA rfl<|sN<|qR ?_
   cases oI h
   exact qD
  refine sM rfl<|sM rfl<|bE h fun x4 hx4 h => eG hx4 rfl<|sV (.cptr [.int .i64 x4.aA, .int .i64 x4.fTo])<|sC rfl<|sF h (fun h => ?_) fun h => ?_
  ·refine sM rfl<|sM rfl<|sM rfl<|sE (rI (a0.length : Int)) (lenMap _ _)<|sV (rI (rW ((a0.length : Int) - (1 : Int))))<|bE h fun x6 hx6 h => eG hx6 rfl<|sV (.cptr [.int .i64 x6.fTo])<|sC rfl<|sV (rB (decide (x6.fTo ≤ (1073741825 : Int))))<|sV (rB (decide (x6.fTo ≤ (1073741825 : Int))))<|sV (rB (decide (x6.fTo ≤ (1073741825 : Int))))<|sV (rB (decide (x6.fTo ≤ (1073741825 : Int))))<|sA rfl<|sN ?_
   refine qR ?_
   cases oI h
   exact qD
  refine sM rfl<|k3<|k3<|sK<|sK<|sU<|sU<|sU<|sA rfl<|sN<|qR ?_
  cases oI h
  exact qD
 refine WO.callR (v := rB false) (u := []) rfl rfl (fun _ => rfl) rfl rfl rfl rfl rfl (fM hx1) rfl rfl (congrArg (fun b => RV.d (.bool b)) hb2) rfl<|sM rfl<|k3<|k3<|k3<|k3<|sK ?_
 refine k3<|k3<|sK<|sU<|sA rfl<|sN<|qR ?_
 cases oI h
 exact qD
theorem dI {a0 : aa} {r : Bool} (h : cC a0 = some r) : EvP prog au ext 126 [.d (aa.pd a0)] [] (rB r, []) := by
 refine Ev.body rfl Tryz.func126 rfl (by kernel_rfl)<|gS rfl rfl<|sB (.ptr 16 0) 16 (.var [rI a0.aA, rI a0.fTo])<|sU<|sN<|gS rfl rfl<|sV (.d (aa.pd a0))<|bE h fun x1 hx1 h => cD (eX hx1)<|sV (rB (!x1))<|sA rfl<|sN<|qR ?_
 cases oI h
 exact qD
theorem fR {d0 : (List aa)} {r : Int × (List aa)} (h : bn d0 = some r) : EvP prog au ext 124 [.ref 0 0, .d (.raw (.func (.func 126) #[] #[]))] [.arr 0 55 (d0.map aa.pd)] (rI r.1, [.arr 0 55 (r.2.map aa.pd)]) := by
 refine Ev.body rfl Tryz.func124 rfl (by kernel_rfl)<|gS rfl rfl<|sV (r0)<|sN<|qS<|gS rfl rfl<|sM rfl<|WO.lenR rfl rfl rfl rfl rfl rfl rfl rfl rfl<|sV (r0)<|sN<|bE h fun o10 ho10 h => WC.block (WC.loop (WL.ofLoop ho10 (fun s R' B' => ghosts prog 1 (A R' B') (au.at_ 124 1 2) = some (A [(0, .ref 0 0), (1, .d (.raw (.func (.func 126) #[] #[]))), (7, rI (d0.length : Int)), (8, rI s)] [(0, .arr 0 55 (d0.map aa.pd))])) (fun o e R' B' => match o with | .inl y => e = .exit 0 ∧ ghosts prog 1 (A R' B') (au.at_ 124 1 7) = some (A [] [(0, .arr 0 55 (d0.map aa.pd))]) | .inr r => e = .ret ∧ finish prog (au.own 124) Tryz.f124 1 (A R' B') = some (rI r.1, [.arr 0 55 (r.2.map aa.pd)])) rfl ?_ ?_))
 ·rintro s1 R' B' q2 hI h
  refine gS rfl hI<|sF h (fun h => ?_) fun h => ?_
  ·refine sN<|qS<|cT<|qK<|qS<|qB<|gS rfl rfl<|sM rfl<|sA rfl<|sN<|gS rfl rfl<|sM rfl<|sM rfl<|sM rfl<|bE h fun x5 hx5 h => ?_
   refine WO.eltG hx5 rfl rfl rfl rfl rfl rfl rfl rfl<|bE h fun x6 hx6 h => WO.loadE hx6 rfl rfl rfl rfl rfl rfl<|bE h fun x7 hx7 h => ite_elim h (fun hb8 h => ?_) (fun hb8 h => ?_)
   ·refine WO.callR (v := rB true) (u := []) rfl rfl (fun _ => rfl) rfl rfl rfl rfl rfl (dI hx7) rfl rfl (congrArg (fun b => RV.d (.bool b)) hb8) rfl<|sN<|cT<|gS rfl rfl<|sM rfl<|sA rfl<|sN<|qR ?_
    cases oI h
    exact ⟨nofun, rfl, rfl⟩
   refine WO.callR (v := rB false) (u := []) rfl rfl (fun _ => rfl) rfl rfl rfl rfl rfl (dI hx7) rfl rfl (congrArg (fun b => RV.d (.bool b)) hb8) rfl<|sN<|cF<|qK<|WC.region rfl rfl<|sV (rI (rW (s1 + (1 : Int))))<|sM rfl<|sN ?_
   cases oI h
   exact ⟨rfl, rfl⟩
  refine sN<|qS<|cF<|qX ?_
  cases oI h
  exact ⟨nofun, rfl, rfl⟩
 intro e R' B' he hq
 rcases o10 with y11 | r12
 ·obtain ⟨rfl, hI⟩ := hq
  refine qE<|gS rfl hI<|sV (rI (-1))<|sN<|qR ?_
  cases oI h
  exact qD
 obtain ⟨rfl, hf⟩ := hq
 cases oI h
 exact hf
theorem fo {d0 : (List aa)} {r : (List aa)} (h : a6 d0 = some r) : EvP prog au ext 125 [.ref 0 0, .d (.raw (.func (.func 126) #[] #[]))] [.arr 0 55 (d0.map aa.pd)] (.ref 0 1, [.arr 1 55 (r.map aa.pd)]) := by
 refine Ev.body rfl Tryz.func125 rfl (by kernel_rfl)<|gS rfl rfl<|sV .nils<|sN<|gS rfl rfl<|sM rfl<|sM rfl<|bE h fun x1 hx1 h => cR (rI x1.1) [(0, .arr 0 55 (x1.2.map aa.pd))] (fR hx1)<|sA rfl<|sN<|qS<|gS rfl rfl<|sM rfl<|sF h (fun h => ?_) fun h => ?_
 ·refine sN<|cT<|WC.regionSeq (R0 := [(0, .ref 0 1)]) (B0 := [(0, .arr 1 55 (x1.2.map aa.pd))]) rfl rfl<|sM rfl<|sA rfl<|sN<|qR ?_
  cases oI h
  exact qD
 refine sN<|cF<|qK<|qS<|gS rfl rfl<|sM rfl<|sV (rI (rW (x1.1 + (1 : Int))))<|sA rfl<|sN<|bE h fun o19 ho19 h => WC.block (WC.loop (WL.ofLoop ho19 (fun s R' B' => ghosts prog 1 (A R' B') (au.at_ 125 1 5) = some (A [(0, .ref 0 0), (1, .d (.raw (.func (.func 126) #[] #[]))), (5, rI s.1), (6, rI s.2.1)] [(0, .arr 0 55 (s.2.2.map aa.pd))])) (fun o e R' B' => e = .exit 0 ∧ ghosts prog 1 (A R' B') (au.at_ 125 1 11) = some (A [(0, .ref 0 0), (5, rI o.1)] [(0, .arr 0 55 (o.2.map aa.pd))])) rfl ?_ ?_))
 ·rintro ⟨s3, s4, s5⟩ R' B' q8 hI h
  refine qS<|gS rfl hI<|sM rfl<|sM rfl<|WO.lenR rfl rfl rfl rfl rfl rfl rfl rfl rfl<|sF h (fun h => ?_) fun h => ?_
  ·refine sN<|cT<|qK<|qS<|qB<|gS rfl rfl<|sM rfl<|sM rfl<|bE h fun x11 hx11 h => WO.eltG hx11 rfl rfl rfl rfl rfl rfl rfl rfl<|bE h fun x12 hx12 h => WO.loadE hx12 rfl rfl rfl rfl rfl rfl<|sB (.ptr 112 0) 112 (.var [r0, r0])<|sS 112 (.var [rI x12.aA, rI x12.fTo])<|sN ?_
   refine gS rfl rfl<|sM rfl<|sV (.d (aa.pd x12))<|bE h fun x13 hx13 h => cD (dI hx13)<|sF h (fun h => ?_) fun h => ?_
   ·refine sN<|cT<|gS rfl rfl<|sM rfl<|sM rfl<|sV (.d (aa.pd x12))<|bE h fun x16 hx16 h => WO.eltG hx16 rfl rfl rfl rfl rfl rfl rfl rfl<|bE h fun x17 hx17 h => WO.storeE (g := aa.pd) (sz := 2) (p := aa.pd x12) hx17 (fun _ => rfl) (fun _ => rfl) rfl rfl rfl rfl rfl rfl rfl rfl rfl<|sN<|WC.region rfl rfl<|sM rfl<|sV (rI (rW (s3 + (1 : Int))))<|sA rfl ?_
    refine sN<|WC.region rfl rfl<|sM rfl<|sV (rI (rW (s4 + (1 : Int))))<|sA rfl<|sN ?_
    cases oI h
    exact ⟨rfl, rfl⟩
   refine sN<|cF<|qK<|WC.region rfl rfl<|sM rfl<|sV (rI (rW (s4 + (1 : Int))))<|sA rfl<|sN ?_
   cases oI h
   exact ⟨rfl, rfl⟩
  refine sN<|cF<|qX ?_
  cases oI h
  exact ⟨nofun, rfl, rfl⟩
 intro e R' B' he hq
 obtain ⟨rfl, hI⟩ := hq
 refine qE<|gS rfl hI<|sM rfl<|sM rfl<|bE h fun x20 hx20 h => WO.subR hx20 rfl rfl rfl rfl rfl rfl rfl rfl rfl rfl rfl rfl<|bE h fun x21 hx21 h => WO.clearN (z := (aa.mk 0 0)) (g := aa.pd) rfl rfl rfl rfl rfl rfl rfl (dst_view hx21 rfl) rfl rfl rfl rfl<|sN<|gS rfl rfl<|sM rfl<|sM rfl<|bE h fun x23 hx23 h => WO.resl hx23 rfl rfl rfl rfl rfl rfl rfl rfl rfl rfl rfl rfl<|sA rfl ?_
 refine sN<|qR ?_
 cases oI h
 exact qD
theorem cB {a0 : (List aa)} {r : (List aa)} (h : ch a0 = some r) : EvP prog au ext 116 [.d (.lst (a0.map aa.pd))] [] (.d (.lst (r.map aa.pd)), []) := by
 refine Ev.body rfl Tryz.func116 rfl (by kernel_rfl)<|gS rfl rfl<|sV .nils<|sN<|gS rfl rfl<|sM rfl<|bE h fun x1 hx1 h => cR (.ref 144 0) [(144, .arr 0 55 (x1.map aa.pd))] (kr hx1)<|bE h fun x2 hx2 h => cR (.ref 144 1) [(144, .arr 1 55 (x2.map aa.pd))] (fo hx2)<|sA rfl<|sN<|gS rfl rfl<|sM rfl<|bE h fun x3 hx3 h => ?_
 refine cR (.tup []) [(144, .arr 1 55 (x3.map aa.pd))] (sort_127_128 hx3)<|sN<|gS rfl rfl<|sV .nils<|sN<|qS<|gS rfl rfl<|sM rfl<|WO.lenR rfl rfl rfl rfl rfl rfl rfl rfl rfl<|sV (r0)<|sN<|bE h fun o27 ho27 h => WC.block (WC.loop (WL.ofLoop ho27 (fun s R' B' => ghosts prog 0 (A R' B') (au.at_ 116 0 5) = some (A [(4, .ref 816 0), (13, .ref 144 0), (14, rI (x3.length : Int)), (15, rI s.1)] [(144, .arr 0 55 (x3.map aa.pd)), (816, .arr 0 55 (s.2.map aa.pd))])) (fun o e R' B' => e = .exit 0 ∧ ghosts prog 0 (A R' B') (au.at_ 116 0 12) = some (A [(4, .ref 816 0)] [(816, .arr 0 55 (o.map aa.pd))])) rfl ?_ ?_))
 ·rintro ⟨s4, s5⟩ R' B' q7 hI h
  refine gS rfl hI<|sF h (fun h => ?_) fun h => ?_
  ·refine sN<|qS<|cT<|qK<|qS<|qB<|gS rfl rfl<|bE h fun x10 hx10 h => WO.eltG hx10 rfl rfl rfl rfl rfl rfl rfl rfl<|bE h fun x11 hx11 h => WO.loadE hx11 rfl rfl rfl rfl rfl rfl<|sB (.ptr 96 0) 96 (.var [r0, r0])<|sS 96 (.var [rI x11.aA, rI x11.fTo])<|sN<|gS rfl rfl ?_
   refine sM rfl<|WO.lenR rfl rfl rfl rfl rfl rfl rfl rfl rfl<|sA rfl<|sN<|WC.regionDSeq rfl rfl<|sM rfl<|sF h (fun h => ?_) fun h => ?_
   ·refine sM rfl<|sV (.ptr 96 0)<|sL rfl<|sM rfl<|sM rfl<|sV (rI (rW ((s5.length : Int) - (1 : Int))))<|bE h fun x14 hx14 h => WO.eltG hx14 rfl rfl rfl rfl rfl rfl rfl rfl<|sV (.elt 816 0 ((rW ((s5.length : Int) - (1 : Int)))).toNat 1)<|bE h fun x15 hx15 h => WO.loadE hx15 rfl rfl rfl rfl rfl rfl<|sV (rB (decide (x11.aA ≤ x15.fTo)))<|sF h (fun h => ?_) fun h => ?_
    ·refine sN<|sO<|cT<|WC.regionD rfl rfl<|sM rfl<|sM rfl<|sV (rI (rW ((s5.length : Int) - (1 : Int))))<|sM rfl<|sM rfl<|sV (rI (rW ((s5.length : Int) - (1 : Int))))<|bE h fun x18 hx18 h => WO.eltG hx18 rfl rfl rfl rfl rfl rfl rfl rfl<|sV (.elt 816 0 ((rW ((s5.length : Int) - (1 : Int)))).toNat 1)<|bE h fun x19 hx19 h => WO.loadE hx19 rfl rfl rfl rfl rfl rfl<|sV (.ptr 96 1) ?_
     refine sL rfl<|sV (rI (if x11.fTo > x19.fTo then x11.fTo else x19.fTo))<|bE h fun x21 hx21 h => WO.eltG hx21 rfl rfl rfl rfl rfl rfl rfl rfl<|sV (.elt 816 0 ((rW ((s5.length : Int) - (1 : Int)))).toNat 1)<|bE h fun x22 hx22 h => WO.storeF (g := aa.pd) (u := []) (sz := 1) hx22 (fun _ => rfl) (fun _ => Nat.le_of_ble_eq_true rfl) rfl rfl rfl rfl rfl rfl rfl rfl rfl rfl rfl ?_
     refine sN<|sO<|WC.region rfl rfl<|sV (rI (rW (s4 + (1 : Int))))<|sM rfl<|sN ?_
     cases oI h
     exact ⟨rfl, rfl⟩
    refine sN<|sO<|cF<|WC.region rfl rfl<|sM rfl<|sV (.d (aa.pd x11))<|sV (.d (.lst ([x11].map aa.pd)))<|bE h fun x24 hx24 h => aR hx24 (fun _ => rfl) rfl<|sA rfl<|sN<|WC.region rfl rfl<|sV (rI (rW (s4 + (1 : Int))))<|sM rfl<|sN ?_
    cases oI h
    exact ⟨rfl, rfl⟩
   refine sM rfl<|k3<|k3<|k3<|sU ?_
   refine sN<|sO<|cF<|WC.region rfl rfl<|sM rfl<|sV (.d (aa.pd x11))<|sV (.d (.lst ([x11].map aa.pd)))<|bE h fun x25 hx25 h => aR hx25 (fun _ => rfl) rfl<|sA rfl<|sN<|WC.region rfl rfl<|sV (rI (rW (s4 + (1 : Int))))<|sM rfl<|sN ?_
   cases oI h
   exact ⟨rfl, rfl⟩
  refine sN<|qS<|cF<|qX ?_
  cases oI h
  exact ⟨nofun, rfl, rfl⟩
 intro e R' B' he hq
 obtain ⟨rfl, hI⟩ := hq
 refine qE<|gS rfl hI<|sM rfl<|sA rfl<|sN<|qR ?_
 cases oI h
 exact qD
theorem span_Meet_ev {a0 : (List aa)} {a1 : (List aa)} {r : (List aa)} (h : jD a0 a1 = some r) : EvP prog au ext 105 [.d (.lst (a0.map aa.pd)), .d (.lst (a1.map aa.pd))] [] (.d (.lst (r.map aa.pd)), []) := by
 refine Ev.body rfl Tryz.func105 rfl (by kernel_rfl)<|gS rfl rfl<|sV .nils<|sN<|gS rfl rfl<|sM rfl<|bE h fun x1 hx1 h => cD (cB hx1)<|sM rfl<|bE h fun x2 hx2 h => cD (cB hx2)<|sA rfl<|sA rfl<|sN<|gS rfl rfl ?_
 refine sV .nils<|sN<|qS<|gS rfl rfl<|sV (r0)<|sV (r0)<|sN<|bE h fun o23 ho23 h => WC.block (WC.loop (WL.ofLoop ho23 (fun s R' B' => ghosts prog 0 (A R' B') (au.at_ 105 0 4) = some (A [(0, .d (.lst (x1.map aa.pd))), (1, .d (.lst (x2.map aa.pd))), (5, .ref 816 0), (6, rI s.1), (7, rI s.2.1)] [(816, .arr 0 55 (s.2.2.map aa.pd))])) (fun o e R' B' => e = .exit 0 ∧ ghosts prog 0 (A R' B') (au.at_ 105 0 11) = some (A [(5, .ref 816 0)] [(816, .arr 0 55 (o.map aa.pd))])) rfl ?_ ?_))
 ·rintro ⟨s3, s4, s5⟩ R' B' q7 hI h
  refine qS<|gS rfl hI<|sM rfl<|sM rfl<|sE (rI (x1.length : Int)) (lenMap _ _)<|sF h (fun h => ?_) fun h => ?_
  ·refine sM rfl<|sM rfl<|sM rfl<|sE (rI (x2.length : Int)) (lenMap _ _)<|sV (rB (decide (s4 < (x2.length : Int))))<|sF h (fun h => ?_) fun h => ?_
   ·refine sN<|cT<|qK<|qB<|WC.join (α := (List aa)) (fun x R' B' => ghosts prog 0 (A R' B') (au.at_ 105 0 8) = some (A [(0, .d (.lst (x1.map aa.pd))), (1, .d (.lst (x2.map aa.pd))), (5, .ref 816 0), (6, rI s3), (7, rI s4)] [(816, .arr 0 55 (x.map aa.pd))])) (fun x => dL x1 s3 x2 s4 x = some q7) ?_ ?_
    ·refine WC.regionDSeq rfl rfl<|sM rfl<|sM rfl<|bE h fun x15 hx15 h => eG hx15 rfl<|sV (.cptr [.int .i64 x15.aA, .int .i64 x15.fTo])<|sC rfl<|sM rfl<|sM rfl<|bE h fun x16 hx16 h => eG hx16 rfl<|sV (.cptr [.int .i64 x16.aA, .int .i64 x16.fTo])<|sC rfl<|sV (rI (if x16.aA > x15.aA then x16.aA else x15.aA))<|sM rfl ?_
     refine sM rfl<|bE h fun x17 hx17 h => eG hx17 rfl<|sV (.cptr [.int .i64 x17.fTo])<|sC rfl<|sM rfl<|sM rfl<|bE h fun x18 hx18 h => eG hx18 rfl<|sV (.cptr [.int .i64 x18.fTo])<|sC rfl<|sV (rI (if x18.fTo < x17.fTo then x18.fTo else x17.fTo))<|sV (.d (aa.pd (aa.mk (if x16.aA > x15.aA then x16.aA else x15.aA) (if x18.fTo < x17.fTo then x18.fTo else x17.fTo))))<|sB (.ptr 128 0) 128 (.var [r0, r0])<|sS 128 (.var [rI (if x16.aA > x15.aA then x16.aA else x15.aA), rI (if x18.fTo < x17.fTo then x18.fTo else x17.fTo)]) ?_
     refine sN<|sO<|gS rfl rfl<|sV (.d (aa.pd (aa.mk (if x16.aA > x15.aA then x16.aA else x15.aA) (if x18.fTo < x17.fTo then x18.fTo else x17.fTo))))<|bE h fun x19 hx19 h => ite_elim h (fun hb20 h => ?_) (fun hb20 h => ?_)
     ·exact WO.callR (v := rB true) (u := []) rfl rfl (fun _ => rfl) rfl rfl rfl rfl rfl (eX hx19) rfl rfl (congrArg (fun b => RV.d (.bool b)) hb20) rfl<|sN<|cT<|WC.region rfl rfl<|sM rfl<|sV (.d (aa.pd (aa.mk (if x16.aA > x15.aA then x16.aA else x15.aA) (if x18.fTo < x17.fTo then x18.fTo else x17.fTo))))<|sV (.d (.lst ([(aa.mk (if x16.aA > x15.aA then x16.aA else x15.aA) (if x18.fTo < x17.fTo then x18.fTo else x17.fTo))].map aa.pd)))<|bE h fun x21 hx21 h => aR hx21 (fun _ => rfl) rfl<|sA rfl<|sN<|⟨x21, rfl, h⟩
     exact WO.callR (v := rB false) (u := []) rfl rfl (fun _ => rfl) rfl rfl rfl rfl rfl (eX hx19) rfl rfl (congrArg (fun b => RV.d (.bool b)) hb20) rfl<|sN<|cF<|qK<|⟨s5, rfl, h⟩
    rintro j10 R' B' hI h
    refine WC.regionDSeq hI rfl<|sM rfl<|sM rfl<|bE h fun x11 hx11 h => eG hx11 rfl<|sV (.cptr [.int .i64 x11.fTo])<|sC rfl<|sM rfl<|sM rfl<|bE h fun x12 hx12 h => eG hx12 rfl<|sV (.cptr [.int .i64 x12.fTo])<|sC rfl<|sF h (fun h => ?_) fun h => ?_
    ·refine sN<|sO<|cT<|WC.region rfl rfl<|sM rfl<|sV (rI (rW (s3 + (1 : Int))))<|sA rfl<|sN ?_
     cases oI h
     exact ⟨rfl, rfl⟩
    refine sN<|sO<|cF<|WC.region rfl rfl<|sM rfl<|sV (rI (rW (s4 + (1 : Int))))<|sA rfl<|sN ?_
    cases oI h
    exact ⟨rfl, rfl⟩
   refine sN<|cF<|qX ?_
   cases oI h
   exact ⟨nofun, rfl, rfl⟩
  refine sM rfl<|k3<|sK<|sU<|sN<|cF<|qX ?_
  cases oI h
  exact ⟨nofun, rfl, rfl⟩
 intro e R' B' he hq
 obtain ⟨rfl, hI⟩ := hq
 refine qE<|gS rfl hI<|sM rfl<|sA rfl<|sN<|qR ?_
 cases oI h
 exact qD
theorem cd {a0 : ag} {r : Bool} (h : bD a0 = some r) : EvP prog au ext 69 [.d (ag.pd a0)] [] (rB r, []) := by
 refine Ev.body rfl Tryz.func69 rfl (by kernel_rfl)<|gS rfl rfl<|sB (.ptr 16 0) 16 (.var [.d (.lst (a0.aJ.map aa.pd)), .d (.lst (a0.aF.map aa.pd))])<|sU<|sN<|gS rfl rfl<|sV (.ptr 16 0)<|sL rfl<|bE h fun x1 hx1 h => ite_elim h (fun hb2 h => ?_) (fun hb2 h => ?_)
 ·refine WO.callR (v := rB true) (u := []) rfl rfl (fun _ => rfl) rfl rfl rfl rfl rfl (fY hx1) rfl rfl (congrArg (fun b => RV.d (.bool b)) hb2) rfl<|sM rfl<|sV (.ptr 16 1)<|sL rfl<|bE h fun x3 hx3 h => cD (fY hx3)<|sF h (fun h => ?_) fun h => ?_
  ·refine sM rfl<|sV (.ptr 16 0)<|sL rfl<|sV (.ptr 16 1)<|sL rfl<|bE h fun x5 hx5 h => cD (span_Meet_ev hx5)<|sE (rI (x5.length : Int)) (lenMap _ _)<|sV (rB ((x5.length : Int) == (0 : Int)))<|sV (rB ((x5.length : Int) == (0 : Int)))<|sA rfl<|sN<|qR ?_
   cases oI h
   exact qD
  refine sM rfl<|k3<|k3<|sK<|sU<|sA rfl<|sN<|qR ?_
  cases oI h
  exact qD
 refine WO.callR (v := rB false) (u := []) rfl rfl (fun _ => rfl) rfl rfl rfl rfl rfl (fY hx1) rfl rfl (congrArg (fun b => RV.d (.bool b)) hb2) rfl<|sM rfl<|k3<|sU<|sM rfl<|k3<|k3<|sK<|sU ?_
 refine sA rfl<|sN<|qR ?_
 cases oI h
 exact qD
theorem dX {a0 : Int} {a1 : Int} {a2 : Int} {r : Bool} (h : gp a0 a1 a2 = some r) : EvP prog au ext 72 [rI a0, rI a1, rI a2] [] (rB r, []) := by
 refine Ev.body rfl Tryz.func72 rfl (by kernel_rfl)<|gS rfl rfl<|sU<|sN<|gS rfl rfl<|sM rfl<|sM rfl<|sF h (fun h => ?_) fun h => ?_
 ·refine sM rfl<|sM rfl<|sM rfl<|sV (rB (decide (a0 ≤ a2)))<|sV (rB (decide (a0 ≤ a2)))<|sA rfl<|sN<|qR ?_
  cases oI h
  exact qD
 refine sM rfl<|k3<|sU<|sA rfl<|sN<|qR ?_
 cases oI h
 exact qD
theorem cmp_Or_int_ev {a0 : (List Int)} {r : Int} (h : iI a0 = some r) : EvP prog au ext 107 [.d (.lst (a0.map (PD.int .i64)))] [] (rI r, []) := by
 refine Ev.body rfl Tryz.func107 rfl (by kernel_rfl)<|gS rfl rfl<|sV (r0)<|sN<|gS rfl rfl<|sV (r0)<|sN<|qS<|gS rfl rfl<|sM rfl<|sE (rI (a0.length : Int)) (lenMap _ _)<|sV (r0)<|sN<|bE h fun o7 ho7 h => WC.block (WC.loop (WL.ofLoop ho7 (fun s R' B' => ghosts prog 0 (A R' B') (au.at_ 107 0 3) = some (A [(3, r0), (6, .d (.lst (a0.map (PD.int .i64)))), (7, rI (a0.length : Int)), (8, rI s)] [])) (fun o e R' B' => match o with | .inl y => e = .exit 0 ∧ ghosts prog 0 (A R' B') (au.at_ 107 0 8) = some (A [(3, r0)] []) | .inr r => e = .ret ∧ finish prog (au.own 107) Tryz.f107 0 (A R' B') = some (rI r, [])) rfl ?_ ?_))
 ·rintro s1 R' B' q2 hI h
  refine gS rfl hI<|sF h (fun h => ?_) fun h => ?_
  ·refine sN<|qS<|cT<|qK<|qS<|qB<|gS rfl rfl<|bE h fun x4 hx4 h => eG hx4 rfl<|sC rfl<|sA rfl<|sN<|gS rfl rfl<|sM rfl<|sM rfl ?_
   refine sF h (fun h => ?_) fun h => ?_
   ·refine sN<|cT<|gS rfl rfl<|sM rfl<|sA rfl<|sN<|qR ?_
    cases oI h
    exact ⟨nofun, rfl, rfl⟩
   refine sN<|cF<|qK<|WC.region rfl rfl<|sV (rI (rW (s1 + (1 : Int))))<|sM rfl<|sN ?_
   cases oI h
   exact ⟨rfl, rfl⟩
  refine sN<|qS<|cF<|qX ?_
  cases oI h
  exact ⟨nofun, rfl, rfl⟩
 intro e R' B' he hq
 rcases o7 with y8 | r9
 ·obtain ⟨rfl, hI⟩ := hq
  refine qE<|gS rfl hI<|sM rfl<|sA rfl<|sN<|qR ?_
  cases oI h
  exact qD
 obtain ⟨rfl, hf⟩ := hq
 cases oI h
 exact hf
theorem ic {a0 : ac} {a1 : ac} {r : Int} (h : ff a0 a1 = some r) : EvP prog au ext 78 [.d (ac.pd a0), .d (ac.pd a1)] [] (rI r, []) := by
 refine Ev.body rfl Tryz.func78 rfl (by kernel_rfl)<|gS rfl rfl<|sB (.ptr 32 0) 32 (.var [rI a0.fAt, rI a0.aq, rS a0.aG])<|sB (.ptr 48 0) 48 (.var [rI a1.fAt, rI a1.aq, rS a1.aG])<|sV (r0)<|sN<|gS rfl rfl<|sV (.ptr 32 0)<|sL rfl<|sV (.ptr 48 0)<|sL rfl<|sV (rI (rW (a0.fAt - a1.fAt)))<|sV (.ptr 32 1)<|sL rfl<|sV (.ptr 48 1) ?_
 refine sL rfl<|sV (rI (rW (a0.aq - a1.aq)))<|sV (.d (.lst ([(rW (a0.fAt - a1.fAt)), (rW (a0.aq - a1.aq))].map (PD.int .i64))))<|bE h fun x1 hx1 h => cD (cmp_Or_int_ev hx1)<|sA rfl<|sN<|qR ?_
 cases oI h
 exact qD
theorem fH {a0 : ai} {r : Bool} (h : dU a0 = some r) : EvP prog au ext 70 [.d (ai.pd a0)] [] (rB r, []) := by
 refine Ev.body rfl Tryz.func70 rfl (by kernel_rfl)<|gS rfl rfl<|sB (.ptr 16 0) 16 (.var [rI a0.az, rI a0.aq, .d (.lst (a0.av.map ac.pd))])<|sU<|sN<|qS<|gS rfl rfl<|sV (.ptr 16 0)<|sL rfl<|bE h fun x1 hx1 h => cD (dX hx1)<|sF h (fun h => ?_) fun h => ?_
 ·refine sM rfl<|k3<|sK<|sT<|sM rfl<|k3<|sK<|sT<|sN<|cT<|gS rfl rfl ?_
  refine sU<|sN<|qR ?_
  cases oI h
  exact qD
 refine sM rfl<|sV (.ptr 16 1)<|sL rfl<|bE h fun x3 hx3 h => cD (dX hx3)<|sV (rB (!x3))<|sF h (fun h => ?_) fun h => ?_
 ·refine sM rfl<|k3<|sK<|sT<|sN<|cT<|gS rfl rfl<|sU<|sN<|qR ?_
  cases oI h
  exact qD
 refine sM rfl<|sV (.ptr 16 2)<|sL rfl<|sE (rI (a0.av.length : Int)) (lenMap _ _)<|sV (rB (decide ((a0.av.length : Int) > (1024 : Int))))<|sF h (fun h => ?_) fun h => ?_
 ·refine sN<|cT<|gS rfl rfl<|sU<|sN<|qR ?_
  cases oI h
  exact qD
 refine sN<|cF<|qK<|qS<|gS rfl rfl<|sV (.ptr 16 2)<|sL rfl<|sE (rI (a0.av.length : Int)) (lenMap _ _)<|sV (r0)<|sN<|bE h fun o20 ho20 h => WC.block (WC.loop (WL.ofLoop ho20 (fun s R' B' => ghosts prog 0 (A R' B') (au.at_ 70 0 4) = some (A [(1, .ptr 16 0), (22, .d (.lst (a0.av.map ac.pd))), (23, rI (a0.av.length : Int)), (24, rI s)] [(16, .var [rI a0.az, rI a0.aq, .d (.lst (a0.av.map ac.pd))])])) (fun o e R' B' => match o with | .inl y => e = .exit 0 ∧ ghosts prog 0 (A R' B') (au.at_ 70 0 9) = some (A [] []) | .inr r => e = .ret ∧ finish prog (au.own 70) Tryz.f70 0 (A R' B') = some (rB r, [])) rfl ?_ ?_))
 ·rintro s6 R' B' q7 hI h
  refine gS rfl hI<|sF h (fun h => ?_) fun h => ?_
  ·refine sN<|qS<|cT<|qK<|qS<|qB<|gS rfl rfl<|sM rfl<|bE h fun x9 hx9 h => eG hx9 rfl<|sV (.d (ac.pd x9))<|sB (.ptr 64 0) 64 (.var [r0, r0, rS []])<|sA rfl<|sS 64 (.var [rI x9.fAt, rI x9.aq, rS x9.aG])<|sN ?_
   refine WC.regionDSeq rfl rfl<|sV (.ptr 64 2)<|sL rfl<|sV (rI (x9.aG.length : Int))<|sF h (fun h => ?_) fun h => ?_
   ·refine sM rfl<|k3<|k3<|sK<|sT<|sM rfl<|k3<|sK<|sK ?_
    refine sK<|sK<|sT<|sM rfl<|k3<|k3<|k3<|sK<|sK ?_
    refine sK<|sK<|sT ?_
    refine sN<|sO<|cT<|gS rfl rfl<|sU<|sN<|qR ?_
    cases oI h
    exact ⟨nofun, rfl, rfl⟩
   refine sM rfl<|sV (.ptr 64 0)<|sL rfl<|sV (.ptr 16 0)<|sL rfl<|sV (rI (rW (a0.az + (1 : Int))))<|bE h fun x11 hx11 h => cD (dX hx11)<|sV (rB (!x11))<|sF h (fun h => ?_) fun h => ?_
   ·refine sM rfl<|k3<|k3<|sK<|sT<|sM rfl<|k3<|sK<|sK ?_
    refine k3<|k3<|sK<|sK<|sT ?_
    refine sN<|sO<|cT<|gS rfl rfl<|sU<|sN<|qR ?_
    cases oI h
    exact ⟨nofun, rfl, rfl⟩
   refine sM rfl<|sV (.ptr 64 1)<|sL rfl<|sV (.ptr 16 1)<|sL rfl<|sV (rI (rW (a0.aq - (1 : Int))))<|bE h fun x13 hx13 h => cD (dX hx13)<|sV (rB (!x13))<|sF h (fun h => ?_) fun h => ?_
   ·refine sM rfl<|k3<|k3<|k3<|k3<|sK<|sT ?_
    refine sN<|sO<|cT<|gS rfl rfl<|sU<|sN<|qR ?_
    cases oI h
    exact ⟨nofun, rfl, rfl⟩
   refine sM rfl<|sM rfl<|sF h (fun h => ?_) fun h => ?_
   ·refine sM rfl<|sV (.ptr 16 2)<|sL rfl<|sM rfl<|sV (rI (rW (s6 - (1 : Int))))<|bE h fun x16 hx16 h => eG hx16 rfl<|sV (.d (ac.pd x16))<|sV (.d (ac.pd x9))<|bE h fun x17 hx17 h => cD (ic hx17)<|sV (rB (decide (x17 ≥ (0 : Int))))<|sV (rB (decide (x17 ≥ (0 : Int))))<|sF h (fun h => ?_) fun h => ?_
    ·refine sN<|sO<|cT<|gS rfl rfl<|sU<|sN<|qR ?_
     cases oI h
     exact ⟨nofun, rfl, rfl⟩
    refine sN<|sO<|cF<|qK<|WC.region rfl rfl<|sV (rI (rW (s6 + (1 : Int))))<|sM rfl<|sN ?_
    cases oI h
    exact ⟨rfl, rfl⟩
   refine sM rfl<|k3<|k3<|k3<|sU<|sU ?_
   refine sN<|sO<|cF<|qK<|WC.region rfl rfl<|sV (rI (rW (s6 + (1 : Int))))<|sM rfl<|sN ?_
   cases oI h
   exact ⟨rfl, rfl⟩
  refine sN<|qS<|cF<|qX ?_
  cases oI h
  exact ⟨nofun, rfl, rfl⟩
 intro e R' B' he hq
 rcases o20 with y21 | r22
 ·obtain ⟨rfl, hI⟩ := hq
  refine qE<|gS rfl hI<|sT<|sN<|qR ?_
  cases oI h
  exact qD
 obtain ⟨rfl, hf⟩ := hq
 cases oI h
 exact hf
theorem iF {a0 : aa} {d0 : Int} {r : Bool} (h : fL a0 d0 = some r) : EvP prog au ext 121 [.d (aa.pd a0), .ptr 0 0] [.var [rI d0]] (rB r, [.var [rI d0]]) := by
 refine Ev.body rfl Tryz.func121 rfl (by kernel_rfl)<|gS rfl rfl<|sB (.ptr 32 0) 32 (.var [rI a0.aA, rI a0.fTo])<|sU<|sN<|gS rfl rfl<|sV (.ptr 32 0)<|sL rfl<|sL rfl<|sF h (fun h => ?_) fun h => ?_
 ·refine sM rfl<|sL rfl<|sV (.ptr 32 1)<|sL rfl<|sV (rB (decide (d0 < a0.fTo)))<|sV (rB (decide (d0 < a0.fTo)))<|sA rfl<|sN<|qR ?_
  cases oI h
  exact qD
 refine sM rfl<|k3<|sK<|sU<|sA rfl<|sN<|qR ?_
 cases oI h
 exact qD
theorem fu {a0 : (List aa)} {d0 : Int} {r : Int} (h : a8 a0 d0 = some r) : EvP prog au ext 124 [.d (.lst (a0.map aa.pd)), .clo 121 [.ptr 0 0]] [.var [rI d0]] (rI r, [.var [rI d0]]) := by
 refine Ev.body rfl Tryz.func124 rfl (by kernel_rfl)<|gS rfl rfl<|sV (r0)<|sN<|qS<|gS rfl rfl<|sM rfl<|sE (rI (a0.length : Int)) (lenMap _ _)<|sV (r0)<|sN<|bE h fun o8 ho8 h => WC.block (WC.loop (WL.ofLoop ho8 (fun s R' B' => ghosts prog 1 (A R' B') (au.at_ 124 1 2) = some (A [(0, .d (.lst (a0.map aa.pd))), (1, .clo 121 [.ptr 0 0]), (7, rI (a0.length : Int)), (8, rI s)] [(0, .var [rI d0])])) (fun o e R' B' => match o with | .inl y => e = .exit 0 ∧ ghosts prog 1 (A R' B') (au.at_ 124 1 7) = some (A [] [(0, .var [rI d0])]) | .inr r => e = .ret ∧ finish prog (au.own 124) Tryz.f124 1 (A R' B') = some (rI r, [.var [rI d0]])) rfl ?_ ?_))
 ·rintro s1 R' B' q2 hI h
  refine gS rfl hI<|sF h (fun h => ?_) fun h => ?_
  ·refine sN<|qS<|cT<|qK<|qS<|qB<|gS rfl rfl<|sM rfl<|sA rfl<|sN<|gS rfl rfl<|sM rfl<|sM rfl<|sM rfl<|bE h fun x4 hx4 h => ?_
   refine eG hx4 rfl<|sV (.d (aa.pd x4))<|bE h fun x5 hx5 h => ite_elim h (fun hb6 h => ?_) (fun hb6 h => ?_)
   ·refine WO.callR (v := rB true) (u := [(0, .var [rI d0])]) rfl rfl (fun _ => rfl) rfl rfl rfl rfl rfl (iF hx5) rfl rfl (congrArg (fun b => RV.d (.bool b)) hb6) rfl<|sN<|cT<|gS rfl rfl<|sM rfl<|sA rfl<|sN<|qR ?_
    cases oI h
    exact ⟨nofun, rfl, rfl⟩
   refine WO.callR (v := rB false) (u := [(0, .var [rI d0])]) rfl rfl (fun _ => rfl) rfl rfl rfl rfl rfl (iF hx5) rfl rfl (congrArg (fun b => RV.d (.bool b)) hb6) rfl<|sN<|cF<|qK<|WC.region rfl rfl<|sV (rI (rW (s1 + (1 : Int))))<|sM rfl<|sN ?_
   cases oI h
   exact ⟨rfl, rfl⟩
  refine sN<|qS<|cF<|qX ?_
  cases oI h
  exact ⟨nofun, rfl, rfl⟩
 intro e R' B' he hq
 rcases o8 with y9 | r10
 ·obtain ⟨rfl, hI⟩ := hq
  refine qE<|gS rfl hI<|sV (rI (-1))<|sN<|qR ?_
  cases oI h
  exact qD
 obtain ⟨rfl, hf⟩ := hq
 cases oI h
 exact hf
theorem eP {a0 : (List aa)} {d0 : Int} {r : Bool} (h : aU a0 d0 = some r) : EvP prog au ext 112 [.d (.lst (a0.map aa.pd)), .clo 121 [.ptr 0 0]] [.var [rI d0]] (rB r, [.var [rI d0]]) := by
 refine Ev.body rfl Tryz.func112 rfl (by kernel_rfl)<|gS rfl rfl<|sU<|sN<|gS rfl rfl<|sM rfl<|sM rfl<|bE h fun x1 hx1 h => cR (rI x1) [(0, .var [rI d0])] (fu hx1)<|sV (rB (decide (x1 ≥ (0 : Int))))<|sA rfl<|sN<|qR ?_
 cases oI h
 exact qD
theorem span_Has_ev {a0 : (List aa)} {a1 : Int} {r : Bool} (h : jv a0 a1 = some r) : EvP prog au ext 106 [.d (.lst (a0.map aa.pd)), rI a1] [] (rB r, []) := by
 refine Ev.body rfl Tryz.func106 rfl (by kernel_rfl)<|gS rfl rfl<|sB (.ptr 48 0) 48 (.var [rI a1])<|sU<|sN<|gS rfl rfl<|sM rfl<|sV (.clo 121 [.ptr 48 0])<|bE h fun x1 hx1 h => cR (rB x1) [(48, .var [rI a1])] (eP hx1)<|sA rfl<|sN<|qR ?_
 cases oI h
 exact qD
theorem jt {a0 : ah} {r : Bool} (h : dh a0 = some r) : EvP prog au ext 71 [.d (ah.pd a0)] [] (rB r, []) := by
 refine Ev.body rfl Tryz.func71 rfl (by kernel_rfl)<|gS rfl rfl<|sB (.ptr 16 0) 16 (.var (ah.rc a0))<|sU<|sN<|gS rfl rfl<|sB (.ptr 112 0) 112 (.map 3 4 (([] : List (Int × Bool)).map fun e => ((PD.int .i64) e.1, PD.bool e.2)))<|sA rfl<|sN<|gS rfl rfl<|sV (r0)<|sN<|qS<|gS rfl rfl<|sV (.ptr 16 14) ?_
 refine sL rfl<|sE (rI (a0.aw.length : Int)) (lenMap _ _)<|sV (r0)<|sN<|bE h fun o15 ho15 h => WC.block (WC.loop (WL.ofLoop ho15 (fun s R' B' => ghosts prog 0 (A R' B') (au.at_ 71 0 4) = some (A [(1, .ptr 16 0), (3, .ptr 112 0), (4, rI s.1), (9, .d (.lst (a0.aw.map aj.pd))), (10, rI (a0.aw.length : Int)), (11, rI s.2.1)] [(16, .var (ah.rc a0)), (112, .map 3 4 (s.2.2.map fun e => ((PD.int .i64) e.1, PD.bool e.2)))])) (fun o e R' B' => match o with | .inl y => e = .exit 0 ∧ ghosts prog 0 (A R' B') (au.at_ 71 0 10) = some (A [(1, .ptr 16 0)] [(16, .var (ah.rc a0))]) | .inr r => e = .ret ∧ finish prog (au.own 71) Tryz.f71 0 (A R' B') = some (rB r, [])) rfl ?_ ?_))
 ·rintro ⟨s1, s2, s3⟩ R' B' q4 hI h
  refine gS rfl hI<|sF h (fun h => ?_) fun h => ?_
  ·refine sN<|qS<|cT<|qK<|qS<|qB<|gS rfl rfl<|bE h fun x6 hx6 h => eG hx6 rfl<|sV (.d (aj.pd x6))<|sB (.ptr 96 0) 96 (.var [r0, r0, rS []])<|sS 96 (.var [rI x6.kb, rI x6.fAt, rS x6.aG])<|sN<|qS<|gS rfl rfl ?_
   refine sM rfl<|sV (.ptr 96 0)<|sL rfl<|ite_elim h (fun hb7 h => ?_) (fun hb7 h => ?_)
   ·refine WO.lookS (z := false) (KeyT.int rfl) hb7 rfl rfl rfl rfl rfl rfl rfl rfl<|sM rfl<|k3<|sK<|sT<|sM rfl<|k3<|k3<|sK ?_
    refine sT<|sM rfl<|k3<|k3<|sK<|sT<|sN<|cT<|gS rfl rfl<|sU<|sN ?_
    refine qR ?_
    cases oI h
    exact ⟨nofun, rfl, rfl⟩
   refine WO.lookS (z := false) (KeyT.int rfl) hb7 rfl rfl rfl rfl rfl rfl rfl rfl<|sM rfl<|sV (.ptr 96 0)<|sL rfl<|bE h fun x8 hx8 h => cD (aV hx8)<|sV (rB (!x8))<|sF h (fun h => ?_) fun h => ?_
   ·refine sM rfl<|k3<|k3<|sK<|sT<|sM rfl<|k3<|sK<|sK ?_
    refine sK<|sK<|sT<|sN<|cT<|gS rfl rfl<|sU<|sN<|qR ?_
    cases oI h
    exact ⟨nofun, rfl, rfl⟩
   refine sM rfl<|sV (.ptr 16 6)<|sV (.ptr 16 6)<|sL rfl<|sV (.ptr 96 0)<|sL rfl<|bE h fun x10 hx10 h => cD (span_Has_ev hx10)<|sV (rB (!x10))<|sF h (fun h => ?_) fun h => ?_
   ·refine sM rfl<|k3<|k3<|sK<|sT<|sN<|cT<|gS rfl rfl<|sU<|sN<|qR ?_
    cases oI h
    exact ⟨nofun, rfl, rfl⟩
   refine sM rfl<|sV (.ptr 96 1)<|sL rfl<|sM rfl<|sV (.ptr 16 0)<|sL rfl<|bE h fun x12 hx12 h => cD (aV hx12)<|sV (rB (!x12))<|sF h (fun h => ?_) fun h => ?_
   ·refine sN<|cT<|gS rfl rfl<|sU<|sN<|qR ?_
    cases oI h
    exact ⟨nofun, rfl, rfl⟩
   refine sN<|cF<|qK<|WC.regionD rfl rfl<|sM rfl<|sV (.ptr 96 0)<|sL rfl<|sV (.ptr 96 1)<|sL rfl<|WO.mput (gv := PD.bool) (y := true) (KeyT.int rfl) rfl rfl rfl rfl rfl rfl rfl rfl rfl rfl<|sA rfl ?_
   refine sN<|sO<|WC.region rfl rfl<|sV (rI (rW (s2 + (1 : Int))))<|sM rfl<|sN ?_
   cases oI h
   exact ⟨rfl, rfl⟩
  refine sN<|qS<|cF<|qX ?_
  cases oI h
  exact ⟨nofun, rfl, rfl⟩
 intro e R' B' he hq
 rcases o15 with y16 | r17
 ·obtain ⟨rfl, hI⟩ := hq
  refine qE<|gS rfl hI<|sV (.ptr 16 14)<|sL rfl<|sE (rI (a0.aw.length : Int)) (lenMap _ _)<|sV (rB (decide ((a0.aw.length : Int) ≤ (4096 : Int))))<|sA rfl<|sN<|qR ?_
  cases oI h
  exact qG
 obtain ⟨rfl, hf⟩ := hq
 cases oI h
 exact hf
theorem cv {a0 : ah} {r : Bool} (h : cj a0 = some r) : EvP prog au ext 38 [.d (ah.pd a0)] [] (rB r, []) := by
 refine Ev.body rfl Tryz.func38 rfl (by kernel_rfl)<|gS rfl rfl<|sB (.ptr 16 0) 16 (.var (ah.rc a0))<|sU<|sN<|WC.regionDSeq rfl rfl<|sV (.ptr 16 0)<|sL rfl<|bE h fun x1 hx1 h => ite_elim h (fun hb2 h => ?_) (fun hb2 h => ?_)
 ·refine WO.callR (v := rB true) (u := []) rfl rfl (fun _ => rfl) rfl rfl rfl rfl rfl (aV hx1) rfl rfl (congrArg (fun b => RV.d (.bool b)) hb2) rfl<|sM rfl<|sV (.ptr 16 1)<|sL rfl<|bE h fun x3 hx3 h => cD (aV hx3)<|sF h (fun h => ?_) fun h => ?_
  ·refine sM rfl<|sV (.ptr 16 3)<|sV (.d (al.pd a0.ar))<|bE h fun x5 hx5 h => cD (cQ hx5)<|sF h (fun h => ?_) fun h => ?_
   ·refine sM rfl<|sV (.ptr 16 2)<|sL rfl<|sV (.ptr 16 3)<|sV (.d (al.pd a0.ar))<|bE h fun x7 hx7 h => cD (bG hx7)<|bE h fun x8 hx8 h => cD (aV hx8)<|sF h (fun h => ?_) fun h => ?_
    ·refine sM rfl<|sV (.ptr 16 6)<|sV (.d (ag.pd a0.ap))<|bE h fun x10 hx10 h => cD (cd hx10)<|sF h (fun h => ?_) fun h => ?_
     ·refine sM rfl<|sV (.ptr 16 8)<|sV (.d (ai.pd a0.aB))<|bE h fun x12 hx12 h => cD (fH hx12)<|sF h (fun h => ?_) fun h => ?_
      ·refine sM rfl<|sV (.ptr 16 11)<|sV (.d (ai.pd a0.fUp))<|bE h fun x14 hx14 h => cD (fH hx14)<|sF h (fun h => ?_) fun h => ?_
       ·refine sM rfl<|sV (.ptr 16 8)<|sV (.ptr 16 8)<|sL rfl<|sV (.ptr 16 0)<|sL rfl<|sV (rB (a0.aB.az == a0.az))<|sF h (fun h => ?_) fun h => ?_
        ·refine sM rfl<|sV (.ptr 16 11)<|sV (.ptr 16 11)<|sL rfl<|sV (.ptr 16 0)<|sL rfl<|sV (rB (a0.fUp.az == a0.az))<|sF h (fun h => ?_) fun h => ?_
         ·refine sM rfl<|sV (.d (ah.pd a0))<|bE h fun x18 hx18 h => cD (jt hx18)<|sV (rB x18)<|sA rfl ?_
          refine sN<|sO<|qR ?_
          cases oI h
          exact qG
         refine sM rfl<|sK<|sK<|sU<|sA rfl ?_
         refine sN<|sO<|qR ?_
         cases oI h
         exact qG
        refine sM rfl<|k3<|k3<|sU<|sM rfl<|sK<|sK<|sU<|sA rfl ?_
        refine sN<|sO<|qR ?_
        cases oI h
        exact qG
       refine sM rfl<|k3<|k3<|sU<|sM rfl<|k3<|sK<|sK<|sK ?_
       refine sU<|sM rfl<|sK<|sK<|sU<|sA rfl ?_
       refine sN<|sO<|qR ?_
       cases oI h
       exact qG
      refine sM rfl<|k3<|sU<|sM rfl<|k3<|k3<|sU<|sM rfl<|sK ?_
      refine k3<|sK<|sK<|sU<|sM rfl<|sK<|sK<|sU<|sA rfl ?_
      refine sN<|sO<|qR ?_
      cases oI h
      exact qG
     refine sM rfl<|k3<|sU<|sM rfl<|k3<|sU<|sM rfl<|k3<|sK ?_
     refine sK<|sK<|sU<|sM rfl<|k3<|k3<|sU<|sM rfl<|sK<|sK<|sU ?_
     refine sA rfl ?_
     refine sN<|sO<|qR ?_
     cases oI h
     exact qG
    refine sM rfl<|k3<|sU<|sM rfl<|k3<|sU<|sM rfl<|k3<|sU ?_
    refine sM rfl<|k3<|k3<|sU<|sM rfl<|k3<|sK<|sK<|sK ?_
    refine sU<|sM rfl<|sK<|sK<|sU<|sA rfl ?_
    refine sN<|sO<|qR ?_
    cases oI h
    exact qG
   refine sM rfl<|k3<|k3<|sU<|sM rfl<|k3<|sU<|sM rfl<|sK ?_
   refine sK<|sK<|sU<|sM rfl<|k3<|sU<|sM rfl<|k3<|sK<|sK<|sK ?_
   refine sU<|sM rfl<|k3<|k3<|sU<|sM rfl<|sK<|sK<|sU<|sA rfl ?_
   refine sN<|sO<|qR ?_
   cases oI h
   exact qG
  refine sM rfl<|k3<|sU<|sM rfl<|k3<|k3<|sU<|sM rfl<|sK ?_
  refine sK<|sK<|sU<|sM rfl<|k3<|sU<|sM rfl<|k3<|sU<|sM rfl<|sK ?_
  refine k3<|sK<|sK<|sU<|sM rfl<|k3<|k3<|sU<|sM rfl ?_
  refine sK<|sK<|sU<|sA rfl ?_
  refine sN<|sO<|qR ?_
  cases oI h
  exact qG
 refine WO.callR (v := rB false) (u := []) rfl rfl (fun _ => rfl) rfl rfl rfl rfl rfl (aV hx1) rfl rfl (congrArg (fun b => RV.d (.bool b)) hb2) rfl<|sM rfl<|k3<|sU<|sM rfl<|k3<|sU<|sM rfl<|sK<|sK<|sK ?_
 refine k3<|sU<|sM rfl<|k3<|sU<|sM rfl<|k3<|sU<|sM rfl ?_
 refine k3<|sU<|sM rfl<|k3<|k3<|sU<|sM rfl<|sK<|sK ?_
 refine k3<|sK<|sU<|sM rfl<|sK<|sK<|sU<|sA rfl ?_
 refine sN<|sO<|qR ?_
 cases oI h
 exact qG
theorem dV {a0 : ae} {r : Bool} (h : b7 a0 = some r) : EvP prog au ext 39 [.d (ae.pd a0)] [] (rB r, []) := by
 refine Ev.body rfl Tryz.func39 rfl (by kernel_rfl)<|gS rfl rfl<|sB (.ptr 16 0) 16 (.var [rB a0.i4, rI a0.bT, rI a0.cm])<|sU<|sN<|gS rfl rfl<|sV (.ptr 16 1)<|sL rfl<|bE h fun x1 hx1 h => ite_elim h (fun hb2 h => ?_) (fun hb2 h => ?_)
 ·refine WO.callR (v := rB true) (u := []) rfl rfl (fun _ => rfl) rfl rfl rfl rfl rfl (dX hx1) rfl rfl (congrArg (fun b => RV.d (.bool b)) hb2) rfl<|sM rfl<|sV (.ptr 16 2)<|sL rfl<|bE h fun x3 hx3 h => cD (dX hx3)<|sV (rB x3)<|sA rfl<|sN<|qR ?_
  cases oI h
  exact qD
 refine WO.callR (v := rB false) (u := []) rfl rfl (fun _ => rfl) rfl rfl rfl rfl rfl (dX hx1) rfl rfl (congrArg (fun b => RV.d (.bool b)) hb2) rfl<|sM rfl<|k3<|sU<|sA rfl<|sN<|qR ?_
 cases oI h
 exact qD
theorem eI {a0 : ah} {r : ah} (h : cw a0 = some r) : EvP prog au ext 40 [.d (ah.pd a0)] [] (.agg [rI r.az, rI r.aD, rI r.aI, rI r.ar.aH, rI r.ar.aC, .d (.lst (r.ar.aG.map PD.str)), .d (.lst (r.ap.aJ.map aa.pd)), .d (.lst (r.ap.aF.map aa.pd)), rI r.aB.az, rI r.aB.aq, .d (.lst (r.aB.av.map ac.pd)), rI r.fUp.az, rI r.fUp.aq, .d (.lst (r.fUp.av.map ac.pd)), .ref 0 0], [.arr 0 50 (r.aw.map aj.pd)]) := by
 refine Ev.body rfl Tryz.func40 rfl (by kernel_rfl)<|gS rfl rfl<|sB (.ptr 16 0) 16 (.var (ah.rc a0))<|sB (.ptr 32 0) 32 (.var zZ0)<|sN<|WC.regionDSeq rfl rfl<|sV (.ptr 16 3)<|sV (.ptr 16 5)<|sL rfl<|bE h fun x1 hx1 h => cR (.ref 96 0) [(96, .arr 0 9 (x1.map PD.str))] (clone_73 hx1)<|sV (.ptr 16 6)<|sV (.ptr 16 6)<|sL rfl<|bE h fun x2 hx2 h => ?_
 refine cR (.ref 160 0) [(160, .arr 0 55 (x2.map aa.pd))] (kr hx2)<|sV (.ptr 16 6)<|sV (.ptr 16 7)<|sL rfl<|bE h fun x3 hx3 h => cR (.ref 224 0) [(224, .arr 0 55 (x3.map aa.pd))] (kr hx3)<|sV (.ptr 16 3)<|sV (.ptr 16 5)<|sS 16 (.var [rI a0.az, rI a0.aD, rI a0.aI, rI a0.ar.aH, rI a0.ar.aC, .ref 96 0, .d (.lst (a0.ap.aJ.map aa.pd)), .d (.lst (a0.ap.aF.map aa.pd)), rI a0.aB.az, rI a0.aB.aq, .d (.lst (a0.aB.av.map ac.pd)), rI a0.fUp.az, rI a0.fUp.aq, .d (.lst (a0.fUp.av.map ac.pd)), .d (.lst (a0.aw.map aj.pd))])<|sV (.ptr 16 6)<|sV (.ptr 16 6)<|sS 16 (.var [rI a0.az, rI a0.aD, rI a0.aI, rI a0.ar.aH, rI a0.ar.aC, .ref 96 0, .ref 160 0, .d (.lst (a0.ap.aF.map aa.pd)), rI a0.aB.az, rI a0.aB.aq, .d (.lst (a0.aB.av.map ac.pd)), rI a0.fUp.az, rI a0.fUp.aq, .d (.lst (a0.fUp.av.map ac.pd)), .d (.lst (a0.aw.map aj.pd))])<|sV (.ptr 16 6)<|sV (.ptr 16 7)<|sS 16 (.var [rI a0.az, rI a0.aD, rI a0.aI, rI a0.ar.aH, rI a0.ar.aC, .ref 96 0, .ref 160 0, .ref 224 0, rI a0.aB.az, rI a0.aB.aq, .d (.lst (a0.aB.av.map ac.pd)), rI a0.fUp.az, rI a0.fUp.aq, .d (.lst (a0.fUp.av.map ac.pd)), .d (.lst (a0.aw.map aj.pd))]) ?_
 refine sN<|sO<|WC.regionDSeq rfl rfl<|sV (.ptr 16 8)<|sV (.ptr 16 10)<|sL rfl<|bE h fun x4 hx4 h => cR (.ref 384 0) [(384, .arr 0 113 (x4.map ac.pd))] (ks hx4)<|sV (.ptr 16 11)<|sV (.ptr 16 13)<|sL rfl<|bE h fun x5 hx5 h => cR (.ref 448 0) [(448, .arr 0 113 (x5.map ac.pd))] (ks hx5)<|sV (.ptr 16 14)<|sL rfl<|bE h fun x6 hx6 h => ?_
 refine cR (.ref 496 0) [(496, .arr 0 50 (x6.map aj.pd))] (clone_76 hx6)<|sV (.ptr 16 8)<|sV (.ptr 16 10)<|sS 16 (.var [rI a0.az, rI a0.aD, rI a0.aI, rI a0.ar.aH, rI a0.ar.aC, .ref 96 0, .ref 160 0, .ref 224 0, rI a0.aB.az, rI a0.aB.aq, .ref 384 0, rI a0.fUp.az, rI a0.fUp.aq, .d (.lst (a0.fUp.av.map ac.pd)), .d (.lst (a0.aw.map aj.pd))])<|sV (.ptr 16 11)<|sV (.ptr 16 13)<|sS 16 (.var [rI a0.az, rI a0.aD, rI a0.aI, rI a0.ar.aH, rI a0.ar.aC, .ref 96 0, .ref 160 0, .ref 224 0, rI a0.aB.az, rI a0.aB.aq, .ref 384 0, rI a0.fUp.az, rI a0.fUp.aq, .ref 448 0, .d (.lst (a0.aw.map aj.pd))])<|sV (.ptr 16 14)<|sS 16 (.var [rI a0.az, rI a0.aD, rI a0.aI, rI a0.ar.aH, rI a0.ar.aC, .ref 96 0, .ref 160 0, .ref 224 0, rI a0.aB.az, rI a0.aB.aq, .ref 384 0, rI a0.fUp.az, rI a0.fUp.aq, .ref 448 0, .ref 496 0]) ?_
 refine sN<|sO<|WC.regionSeq (R0 := [(1, .ptr 16 0), (2, .ptr 32 0)]) (B0 := [(16, .var [rI a0.az, rI a0.aD, rI a0.aI, rI a0.ar.aH, rI a0.ar.aC, .d (.lst (x1.map PD.str)), .d (.lst (x2.map aa.pd)), .d (.lst (x3.map aa.pd)), rI a0.aB.az, rI a0.aB.aq, .d (.lst (x4.map ac.pd)), rI a0.fUp.az, rI a0.fUp.aq, .d (.lst (x5.map ac.pd)), .ref 496 0]), (32, .var zZ0), (496, .arr 0 50 (x6.map aj.pd))]) rfl rfl<|sV (.agg [rI a0.az, rI a0.aD, rI a0.aI, rI a0.ar.aH, rI a0.ar.aC, .d (.lst (x1.map PD.str)), .d (.lst (x2.map aa.pd)), .d (.lst (x3.map aa.pd)), rI a0.aB.az, rI a0.aB.aq, .d (.lst (x4.map ac.pd)), rI a0.fUp.az, rI a0.fUp.aq, .d (.lst (x5.map ac.pd)), .ref 496 0])<|sH 32 (.var [rI a0.az, rI a0.aD, rI a0.aI, rI a0.ar.aH, rI a0.ar.aC, .d (.lst (x1.map PD.str)), .d (.lst (x2.map aa.pd)), .d (.lst (x3.map aa.pd)), rI a0.aB.az, rI a0.aB.aq, .d (.lst (x4.map ac.pd)), rI a0.fUp.az, rI a0.fUp.aq, .d (.lst (x5.map ac.pd)), .ref 496 0])<|sN<|qR ?_
 cases oI h
 exact qG
theorem sender_Push_ev {a0 : al} {a1 : (List UInt8)} {r : al × Int × Int} (h : gU a0 a1 = some r) : EvP prog au ext 41 [.d (al.pd a0), rS a1] [] (.tup [.d (al.pd r.1), rI r.2.1, rI r.2.2], []) := by
 refine Ev.body rfl Tryz.func41 rfl (by kernel_rfl)<|gS rfl rfl<|sB (.ptr 32 0) 32 (.var [rI a0.aH, rI a0.aC, .d (.lst (a0.aG.map PD.str))])<|sB (.ptr 64 0) 64 (.var [r0, r0, .nils])<|sV (r0)<|sV (r0)<|sN<|qS<|gS rfl rfl<|sV (.d (al.pd a0))<|bE h fun x1 hx1 h => cD (cQ hx1)<|sF h (fun h => ?_) fun h => ?_
 ·refine sN<|cT<|gS rfl rfl<|sV (.agg [r0, r0, .nils])<|sS 64 (.var [r0, r0, .nils])<|sV (r0)<|sV (rI 1)<|sN<|qR ?_
  cases oI h
  exact qD
 refine sN<|cF<|qK<|gS rfl rfl<|sV (.d (al.pd a0))<|bE h fun x3 hx3 h => cD (bG hx3)<|sA rfl<|sN<|qS<|gS rfl rfl<|sM rfl<|sV (rI (a1.length : Int))<|sF h (fun h => ?_) fun h => ?_
 ·refine sM rfl<|sK<|sK<|sT<|sN<|cT<|gS rfl rfl<|sV (.agg [r0, r0, .nils])<|sS 64 (.var [r0, r0, .nils])<|sV (r0)<|sV (rI 8)<|sN<|qR ?_
  cases oI h
  exact qD
 refine sM rfl<|sM rfl<|sV (rB (x3 == (1073741825 : Int)))<|sF h (fun h => ?_) fun h => ?_
 ·refine sN<|cT<|gS rfl rfl<|sV (.agg [r0, r0, .nils])<|sS 64 (.var [r0, r0, .nils])<|sV (r0)<|sV (rI 8)<|sN<|qR ?_
  cases oI h
  exact qD
 refine sN<|cF<|qK<|gS rfl rfl<|sV (.ptr 32 2)<|sL rfl<|sE (rI (a0.aG.length : Int)) (lenMap _ _)<|sA rfl<|sN<|gS rfl rfl<|sV (.ptr 32 2)<|sL rfl<|sM rfl<|sM rfl<|WO.fullG (g := PD.str) (li := a0.aG) rfl rfl rfl rfl rfl rfl rfl rfl rfl rfl rfl rfl rfl ?_
 refine sM rfl<|sV (.d (.lst ([a1].map PD.str)))<|bE h fun x6 hx6 h => WO.appD hx6 (fun _ => rfl) rfl rfl rfl rfl rfl rfl rfl rfl rfl rfl rfl rfl rfl rfl<|sV (.ptr 32 2)<|sS 32 (.var [rI a0.aH, rI a0.aC, .d (.lst (x6.map PD.str))])<|sN<|qS<|gS rfl rfl<|sM rfl<|sV (.ptr 32 0)<|sL rfl<|sF h (fun h => ?_) fun h => ?_
 ·refine sN<|cT<|WC.regionD rfl rfl<|sV (.ptr 32 2)<|sL rfl<|bE h fun x8 hx8 h => WO.cutL (sz := 1) (g := PD.str) hx8 (fun _ => rfl) rfl rfl rfl rfl rfl rfl rfl rfl rfl rfl rfl<|sV (.ptr 32 1)<|sL rfl<|sV (rI (rW (a0.aC + (1 : Int))))<|sV (.ptr 32 2)<|sS 32 (.var [rI a0.aH, rI a0.aC, .d (.lst (x8.map PD.str))])<|sV (.ptr 32 1)<|sS 32 (.var [rI a0.aH, rI (rW (a0.aC + (1 : Int))), .d (.lst (x8.map PD.str))]) ?_
  refine sN<|sO<|gS rfl rfl<|sV (.d (al.pd (al.mk a0.aH (rW (a0.aC + (1 : Int))) x8)))<|sM rfl<|sS 64 (.var [rI a0.aH, rI (rW (a0.aC + (1 : Int))), .d (.lst (x8.map PD.str))])<|sA rfl<|sV (r0)<|sN<|qR ?_
  cases oI h
  exact qD
 refine sN<|cF<|qK<|gS rfl rfl<|sV (.d (al.pd (al.mk a0.aH a0.aC x6)))<|sM rfl<|sS 64 (.var [rI a0.aH, rI a0.aC, .d (.lst (x6.map PD.str))])<|sA rfl<|sV (r0)<|sN<|qR ?_
 cases oI h
 exact qD
theorem jW {a0 : Int} {a1 : Int} {a2 : Int} {r : Bool} (h : jA a0 a1 a2 = some r) : EvP prog au ext 118 [rI a0, rI a1, rI a2] [] (rB r, []) := by
 refine Ev.body rfl Tryz.func118 rfl (by kernel_rfl)<|gS rfl rfl<|sU<|sN<|gS rfl rfl<|sM rfl<|sM rfl<|sF h (fun h => ?_) fun h => ?_
 ·refine sM rfl<|sM rfl<|sM rfl<|sV (rB (decide (a0 ≤ a2)))<|sV (rB (decide (a0 ≤ a2)))<|sA rfl<|sN<|qR ?_
  cases oI h
  exact qD
 refine sM rfl<|k3<|sU<|sA rfl<|sN<|qR ?_
 cases oI h
 exact qD
theorem bits_Put_ev {a0 : (List UInt8)} {a1 : Int} {a2 : Int} {r : (List UInt8) × Int} (h : kq a0 a1 a2 = some r) : EvP prog au ext 95 [rS a0, rI a1, rI a2] [] (.tup [rS r.1, rI r.2], []) := by
 refine Ev.body rfl Tryz.func95 rfl (by kernel_rfl)<|gS rfl rfl<|sV (rS [])<|sV (r0)<|sN<|qS<|gS rfl rfl<|sM rfl<|bE h fun x1 hx1 h => cD (jW hx1)<|sF h (fun h => ?_) fun h => ?_
 ·refine sM rfl<|k3<|k3<|sK<|sT<|sN<|cT<|gS rfl rfl<|sV (rS [])<|sV (rI 2)<|sN ?_
  refine qR ?_
  cases oI h
  exact qD
 refine sM rfl<|sM rfl<|sM rfl<|sV (rI (rW ((8 : Int) * a2)))<|bE h fun x3 hx3 h => WO.shlG hx3 rfl rfl rfl rfl rfl<|sV (rI (rW (x3 - (1 : Int))))<|bE h fun x4 hx4 h => cD (jW hx4)<|sV (rB (!x4))<|sF h (fun h => ?_) fun h => ?_
 ·refine sN<|cT<|gS rfl rfl<|sV (rS [])<|sV (rI 2)<|sN<|qR ?_
  cases oI h
  exact qD
 refine sN<|cF<|qK<|gS rfl rfl<|sM rfl<|bE h fun b6 hb6 h => WO.bytR hb6 rfl rfl rfl rfl rfl rfl rfl rfl rfl<|sA rfl<|sN<|qS<|gS rfl rfl<|sM rfl<|sV (rI (rW (a2 - (1 : Int))))<|sA rfl<|sN ?_
 refine bE h fun o15 ho15 h => WC.block (WC.loop (WL.ofLoop ho15 (fun s R' B' => ghosts prog 0 (A R' B') (au.at_ 95 0 5) = some (A [(1, rI a1), (8, .ref 368 0), (9, rI s.1)] [(368, .arr 0 5 (s.2.map (PD.int .u8)))])) (fun o e R' B' => e = .exit 0 ∧ ghosts prog 0 (A R' B') (au.at_ 95 0 8) = some (A [(8, .ref 368 0)] [(368, .arr 0 5 (o.map (PD.int .u8)))])) rfl ?_ ?_))
 ·rintro ⟨s7, s8⟩ R' B' q10 hI h
  refine qS<|gS rfl hI<|sM rfl<|sF h (fun h => ?_) fun h => ?_
  ·refine sN<|cT<|qK<|qS<|qB<|WC.region rfl rfl<|sM rfl<|sM rfl<|sM rfl<|sV (rI (rW ((8 : Int) * s7)))<|bE h fun x12 hx12 h => WO.shrG hx12 rfl rfl rfl rfl rfl<|sV (.d (.int .u8 (IntKind.wrap .u8 x12)))<|sV (.d (.lst ([(IntKind.wrap .u8 x12)].map (PD.int .u8))))<|bE h fun x13 hx13 h => ?_
   refine aR hx13 (fun _ => rfl) rfl<|sA rfl<|sN<|WC.region rfl rfl<|sM rfl<|sV (rI (rW (s7 - (1 : Int))))<|sA rfl<|sN ?_
   cases oI h
   exact ⟨rfl, rfl⟩
  refine sN<|cF<|qX ?_
  cases oI h
  exact ⟨nofun, rfl, rfl⟩
 intro e R' B' he hq
 obtain ⟨rfl, hI⟩ := hq
 refine qE<|gS rfl hI<|sM rfl<|WO.rowS rfl rfl rfl rfl rfl rfl rfl rfl<|sA rfl<|sV (r0)<|sN<|qR ?_
 cases oI h
 exact qD
theorem d6 {a0 : (List UInt8)} {a1 : (List Int)} {r : (List UInt8)} (h : b9 a0 a1 = some r) : EvP prog au ext 54 [rS a0, .d (.lst (a1.map (PD.int .i64)))] [] (rS r, []) := by
 refine Ev.body rfl Tryz.func54 rfl (by kernel_rfl)<|gS rfl rfl<|sV (rS [])<|sN<|qS<|gS rfl rfl<|sM rfl<|sE (rI (a1.length : Int)) (lenMap _ _)<|sV (r0)<|sN<|bE h fun o9 ho9 h => WC.block (WC.loop (WL.ofLoop ho9 (fun s R' B' => ghosts prog 0 (A R' B') (au.at_ 54 0 2) = some (A [(0, rS s.1), (7, .d (.lst (a1.map (PD.int .i64)))), (8, rI (a1.length : Int)), (9, rI s.2)] [])) (fun o e R' B' => e = .exit 0 ∧ ghosts prog 0 (A R' B') (au.at_ 54 0 6) = some (A [(0, rS o)] [])) rfl ?_ ?_))
 ·rintro ⟨s1, s2⟩ R' B' q4 hI h
  refine gS rfl hI<|sF h (fun h => ?_) fun h => ?_
  ·refine sN<|qS<|cT<|qK<|qS<|qB<|gS rfl rfl<|bE h fun x6 hx6 h => eG hx6 rfl<|sC rfl<|sA rfl<|sN<|WC.region rfl rfl<|sM rfl<|sM rfl ?_
   refine bE h fun x7 hx7 h => cR (.tup [rS x7.1, rI x7.2]) [] (bits_Put_ev hx7)<|sM rfl<|sV (rS x7.1)<|sV (rI x7.2)<|sA rfl<|sN<|WC.region rfl rfl<|sV (rI (rW (s2 + (1 : Int))))<|sM rfl<|sN ?_
   cases oI h
   exact ⟨rfl, rfl⟩
  refine sN<|qS<|cF<|qX ?_
  cases oI h
  exact ⟨nofun, rfl, rfl⟩
 intro e R' B' he hq
 obtain ⟨rfl, hI⟩ := hq
 refine qE<|gS rfl hI<|sM rfl<|sA rfl<|sN<|qR ?_
 cases oI h
 exact qD
theorem crc_table_ev  {r : (List Int)} (h : iy = some r) : EvP prog au ext 130 [] [] (.d (.agg (r.map (PD.int .i64))), []) := by
 refine Ev.body rfl Tryz.func130 rfl (by kernel_rfl)<|gS rfl rfl<|WO.s1 (rd := [0]) (v := .ptr 0 0) (id := 0) (bx := .var ((List.replicate 256 (0 : Int)).map (cI .i64))) rfl rfl (by intro _; kernel_rfl)<|sN<|gS rfl rfl<|WO.s1 (rd := [16]) (v := .ptr 16 0) (id := 16) (bx := .var ((List.replicate 256 (0 : Int)).map (cI .i64))) rfl rfl (by intro _; kernel_rfl)<|sN<|qS<|gS rfl rfl<|sV (r0)<|sN<|bE h fun o33 ho33 h => WC.block (WC.loop (WL.ofLoop ho33 (fun s R' B' => ghosts prog 0 (A R' B') (au.at_ 130 0 3) = some (A [(0, .ptr 0 0), (1, .ptr 16 0), (5, rI s.1)] [(0, .var ((List.replicate 256 (0 : Int)).map (cI .i64))), (16, .var (s.2.map (cI .i64)))])) (fun o e R' B' => e = .exit 0 ∧ ghosts prog 0 (A R' B') (au.at_ 130 0 15) = some (A [(0, .ptr 0 0), (1, .ptr 16 0)] [(0, .var ((List.replicate 256 (0 : Int)).map (cI .i64))), (16, .var (o.map (cI .i64)))])) (tabG (B1 := []) (tabG (B1 := [_]) rfl (fun _ => rfl)) (fun _ => rfl)) ?_ ?_))
 ·rintro ⟨s1, s2⟩ R' B' q4 hI h
  refine gS rfl hI<|sF h (fun h => ?_) fun h => ?_
  ·refine sN<|qS<|cT<|qK<|qS<|qB<|gS rfl rfl<|sM rfl<|sA rfl<|sN<|gS rfl rfl<|sM rfl<|sA rfl<|sN<|qS ?_
   refine gS rfl rfl<|sV (r0)<|sN<|WC.block (WC.loop ?_)
   refine WL.round<|gS rfl rfl<|sT<|sN<|qS<|cT<|qK<|WC.join (α := Int) (fun x R' B' => ghosts prog 0 (A R' B') (au.at_ 130 0 12) = some (A [(0, .ptr 0 0), (1, .ptr 16 0), (2, rI s1), (3, rI x), (5, rI s1), (9, r0)] [(0, .var ((List.replicate 256 (0 : Int)).map (cI .i64))), (16, .var (s2.map (cI .i64)))])) (fun x => hM s1 s2 x = some q4) ?_ ?_
   ·refine qB<|gS rfl rfl<|sM rfl<|sV (rI (andI .i64 s1 (1 : Int)))<|sA rfl<|sN<|gS rfl rfl<|sM rfl<|sV (rI (shrI .i64 s1 (1 : Int)))<|sA rfl<|sN<|gS rfl rfl<|sM rfl<|sF h (fun h => ?_) fun h => ?_
    ·exact sN<|cT<|WC.region rfl rfl<|sM rfl<|sV (rI (xorI .i64 (shrI .i64 s1 (1 : Int)) (3988292384 : Int)))<|sA rfl<|sN<|⟨(xorI .i64 (shrI .i64 s1 (1 : Int)) (3988292384 : Int)), (tabG (B1 := []) (tabG (B1 := [_]) rfl (fun _ => rfl)) (fun _ => rfl)), h⟩
    exact sN<|cF<|qK<|⟨(shrI .i64 s1 (1 : Int)), (tabG (B1 := []) (tabG (B1 := [_]) rfl (fun _ => rfl)) (fun _ => rfl)), h⟩
   rintro j6 R' B' hI h
   refine WC.region hI rfl<|sV (rI 1)<|sM rfl<|sN<|WL.round<|gS rfl rfl<|sT<|sN<|qS<|cT<|qK<|WC.join (α := Int) (fun x R' B' => ghosts prog 0 (A R' B') (au.at_ 130 0 12) = some (A [(0, .ptr 0 0), (1, .ptr 16 0), (2, rI s1), (3, rI x), (5, rI s1), (9, rI 1)] [(0, .var ((List.replicate 256 (0 : Int)).map (cI .i64))), (16, .var (s2.map (cI .i64)))])) (fun x => hJ s1 s2 x = some q4) ?_ ?_
   ·refine qB<|gS rfl rfl<|sM rfl<|sV (rI (andI .i64 j6 (1 : Int)))<|sA rfl<|sN<|gS rfl rfl<|sM rfl<|sV (rI (shrI .i64 j6 (1 : Int)))<|sA rfl<|sN<|gS rfl rfl<|sM rfl<|sF h (fun h => ?_) fun h => ?_
    ·exact sN<|cT<|WC.region rfl rfl<|sM rfl<|sV (rI (xorI .i64 (shrI .i64 j6 (1 : Int)) (3988292384 : Int)))<|sA rfl<|sN<|⟨(xorI .i64 (shrI .i64 j6 (1 : Int)) (3988292384 : Int)), (tabG (B1 := []) (tabG (B1 := [_]) rfl (fun _ => rfl)) (fun _ => rfl)), h⟩
    exact sN<|cF<|qK<|⟨(shrI .i64 j6 (1 : Int)), (tabG (B1 := []) (tabG (B1 := [_]) rfl (fun _ => rfl)) (fun _ => rfl)), h⟩
   rintro j7 R' B' hI h
   refine WC.region hI rfl<|sV (rI 2)<|sM rfl<|sN<|WL.round<|gS rfl rfl<|sT<|sN<|qS<|cT<|qK<|WC.join (α := Int) (fun x R' B' => ghosts prog 0 (A R' B') (au.at_ 130 0 12) = some (A [(0, .ptr 0 0), (1, .ptr 16 0), (2, rI s1), (3, rI x), (5, rI s1), (9, rI 2)] [(0, .var ((List.replicate 256 (0 : Int)).map (cI .i64))), (16, .var (s2.map (cI .i64)))])) (fun x => hF s1 s2 x = some q4) ?_ ?_
   ·refine qB<|gS rfl rfl<|sM rfl<|sV (rI (andI .i64 j7 (1 : Int)))<|sA rfl<|sN<|gS rfl rfl<|sM rfl<|sV (rI (shrI .i64 j7 (1 : Int)))<|sA rfl<|sN<|gS rfl rfl<|sM rfl<|sF h (fun h => ?_) fun h => ?_
    ·exact sN<|cT<|WC.region rfl rfl<|sM rfl<|sV (rI (xorI .i64 (shrI .i64 j7 (1 : Int)) (3988292384 : Int)))<|sA rfl<|sN<|⟨(xorI .i64 (shrI .i64 j7 (1 : Int)) (3988292384 : Int)), (tabG (B1 := []) (tabG (B1 := [_]) rfl (fun _ => rfl)) (fun _ => rfl)), h⟩
    exact sN<|cF<|qK<|⟨(shrI .i64 j7 (1 : Int)), (tabG (B1 := []) (tabG (B1 := [_]) rfl (fun _ => rfl)) (fun _ => rfl)), h⟩
   rintro j8 R' B' hI h
   refine WC.region hI rfl<|sV (rI 3)<|sM rfl<|sN<|WL.round<|gS rfl rfl<|sT<|sN<|qS<|cT<|qK<|WC.join (α := Int) (fun x R' B' => ghosts prog 0 (A R' B') (au.at_ 130 0 12) = some (A [(0, .ptr 0 0), (1, .ptr 16 0), (2, rI s1), (3, rI x), (5, rI s1), (9, rI 3)] [(0, .var ((List.replicate 256 (0 : Int)).map (cI .i64))), (16, .var (s2.map (cI .i64)))])) (fun x => hC s1 s2 x = some q4) ?_ ?_
   ·refine qB<|gS rfl rfl<|sM rfl<|sV (rI (andI .i64 j8 (1 : Int)))<|sA rfl<|sN<|gS rfl rfl<|sM rfl<|sV (rI (shrI .i64 j8 (1 : Int)))<|sA rfl<|sN<|gS rfl rfl<|sM rfl<|sF h (fun h => ?_) fun h => ?_
    ·exact sN<|cT<|WC.region rfl rfl<|sM rfl<|sV (rI (xorI .i64 (shrI .i64 j8 (1 : Int)) (3988292384 : Int)))<|sA rfl<|sN<|⟨(xorI .i64 (shrI .i64 j8 (1 : Int)) (3988292384 : Int)), (tabG (B1 := []) (tabG (B1 := [_]) rfl (fun _ => rfl)) (fun _ => rfl)), h⟩
    exact sN<|cF<|qK<|⟨(shrI .i64 j8 (1 : Int)), (tabG (B1 := []) (tabG (B1 := [_]) rfl (fun _ => rfl)) (fun _ => rfl)), h⟩
   rintro j9 R' B' hI h
   refine WC.region hI rfl<|sV (rI 4)<|sM rfl<|sN<|WL.round<|gS rfl rfl<|sT<|sN<|qS<|cT<|qK<|WC.join (α := Int) (fun x R' B' => ghosts prog 0 (A R' B') (au.at_ 130 0 12) = some (A [(0, .ptr 0 0), (1, .ptr 16 0), (2, rI s1), (3, rI x), (5, rI s1), (9, rI 4)] [(0, .var ((List.replicate 256 (0 : Int)).map (cI .i64))), (16, .var (s2.map (cI .i64)))])) (fun x => g9 s1 s2 x = some q4) ?_ ?_
   ·refine qB<|gS rfl rfl<|sM rfl<|sV (rI (andI .i64 j9 (1 : Int)))<|sA rfl<|sN<|gS rfl rfl<|sM rfl<|sV (rI (shrI .i64 j9 (1 : Int)))<|sA rfl<|sN<|gS rfl rfl<|sM rfl<|sF h (fun h => ?_) fun h => ?_
    ·exact sN<|cT<|WC.region rfl rfl<|sM rfl<|sV (rI (xorI .i64 (shrI .i64 j9 (1 : Int)) (3988292384 : Int)))<|sA rfl<|sN<|⟨(xorI .i64 (shrI .i64 j9 (1 : Int)) (3988292384 : Int)), (tabG (B1 := []) (tabG (B1 := [_]) rfl (fun _ => rfl)) (fun _ => rfl)), h⟩
    exact sN<|cF<|qK<|⟨(shrI .i64 j9 (1 : Int)), (tabG (B1 := []) (tabG (B1 := [_]) rfl (fun _ => rfl)) (fun _ => rfl)), h⟩
   rintro j10 R' B' hI h
   refine WC.region hI rfl<|sV (rI 5)<|sM rfl<|sN<|WL.round<|gS rfl rfl<|sT<|sN<|qS<|cT<|qK<|WC.join (α := Int) (fun x R' B' => ghosts prog 0 (A R' B') (au.at_ 130 0 12) = some (A [(0, .ptr 0 0), (1, .ptr 16 0), (2, rI s1), (3, rI x), (5, rI s1), (9, rI 5)] [(0, .var ((List.replicate 256 (0 : Int)).map (cI .i64))), (16, .var (s2.map (cI .i64)))])) (fun x => gZ s1 s2 x = some q4) ?_ ?_
   ·refine qB<|gS rfl rfl<|sM rfl<|sV (rI (andI .i64 j10 (1 : Int)))<|sA rfl<|sN<|gS rfl rfl<|sM rfl<|sV (rI (shrI .i64 j10 (1 : Int)))<|sA rfl<|sN<|gS rfl rfl<|sM rfl<|sF h (fun h => ?_) fun h => ?_
    ·exact sN<|cT<|WC.region rfl rfl<|sM rfl<|sV (rI (xorI .i64 (shrI .i64 j10 (1 : Int)) (3988292384 : Int)))<|sA rfl<|sN<|⟨(xorI .i64 (shrI .i64 j10 (1 : Int)) (3988292384 : Int)), (tabG (B1 := []) (tabG (B1 := [_]) rfl (fun _ => rfl)) (fun _ => rfl)), h⟩
    exact sN<|cF<|qK<|⟨(shrI .i64 j10 (1 : Int)), (tabG (B1 := []) (tabG (B1 := [_]) rfl (fun _ => rfl)) (fun _ => rfl)), h⟩
   rintro j11 R' B' hI h
   refine WC.region hI rfl<|sV (rI 6)<|sM rfl<|sN<|WL.round<|gS rfl rfl<|sT<|sN<|qS<|cT<|qK<|WC.join (α := Int) (fun x R' B' => ghosts prog 0 (A R' B') (au.at_ 130 0 12) = some (A [(0, .ptr 0 0), (1, .ptr 16 0), (2, rI s1), (3, rI x), (5, rI s1), (9, rI 6)] [(0, .var ((List.replicate 256 (0 : Int)).map (cI .i64))), (16, .var (s2.map (cI .i64)))])) (fun x => gY s1 s2 x = some q4) ?_ ?_
   ·refine qB<|gS rfl rfl<|sM rfl<|sV (rI (andI .i64 j11 (1 : Int)))<|sA rfl<|sN<|gS rfl rfl<|sM rfl<|sV (rI (shrI .i64 j11 (1 : Int)))<|sA rfl<|sN<|gS rfl rfl<|sM rfl<|sF h (fun h => ?_) fun h => ?_
    ·exact sN<|cT<|WC.region rfl rfl<|sM rfl<|sV (rI (xorI .i64 (shrI .i64 j11 (1 : Int)) (3988292384 : Int)))<|sA rfl<|sN<|⟨(xorI .i64 (shrI .i64 j11 (1 : Int)) (3988292384 : Int)), (tabG (B1 := []) (tabG (B1 := [_]) rfl (fun _ => rfl)) (fun _ => rfl)), h⟩
    exact sN<|cF<|qK<|⟨(shrI .i64 j11 (1 : Int)), (tabG (B1 := []) (tabG (B1 := [_]) rfl (fun _ => rfl)) (fun _ => rfl)), h⟩
   rintro j12 R' B' hI h
   refine WC.region hI rfl<|sV (rI 7)<|sM rfl<|sN<|WL.round<|gS rfl rfl<|sT<|sN<|qS<|cT<|qK<|WC.join (α := Int) (fun x R' B' => ghosts prog 0 (A R' B') (au.at_ 130 0 12) = some (A [(0, .ptr 0 0), (1, .ptr 16 0), (2, rI s1), (3, rI x), (5, rI s1), (9, rI 7)] [(0, .var ((List.replicate 256 (0 : Int)).map (cI .i64))), (16, .var (s2.map (cI .i64)))])) (fun x => gX s1 s2 x = some q4) ?_ ?_
   ·refine qB<|gS rfl rfl<|sM rfl<|sV (rI (andI .i64 j12 (1 : Int)))<|sA rfl<|sN<|gS rfl rfl<|sM rfl<|sV (rI (shrI .i64 j12 (1 : Int)))<|sA rfl<|sN<|gS rfl rfl<|sM rfl<|sF h (fun h => ?_) fun h => ?_
    ·exact sN<|cT<|WC.region rfl rfl<|sM rfl<|sV (rI (xorI .i64 (shrI .i64 j12 (1 : Int)) (3988292384 : Int)))<|sA rfl<|sN<|⟨(xorI .i64 (shrI .i64 j12 (1 : Int)) (3988292384 : Int)), (tabG (B1 := []) (tabG (B1 := [_]) rfl (fun _ => rfl)) (fun _ => rfl)), h⟩
    exact sN<|cF<|qK<|⟨(shrI .i64 j12 (1 : Int)), (tabG (B1 := []) (tabG (B1 := [_]) rfl (fun _ => rfl)) (fun _ => rfl)), h⟩
   rintro j13 R' B' hI h
   refine WC.region hI rfl<|sV (rI 8)<|sM rfl<|sN<|WL.round<|gS rfl rfl<|sU<|sN<|qS<|cF<|qX<|qE<|WC.region rfl rfl<|sM rfl<|sM rfl ?_
   refine bE h fun x14 hx14 h => WO.tabE hx14 rfl rfl rfl rfl rfl rfl rfl rfl<|bE h fun x15 hx15 h => WO.tabS hx15 rfl rfl rfl rfl rfl rfl rfl<|sN<|WC.region rfl rfl<|sV (rI (rW (s1 + (1 : Int))))<|sM rfl<|sN ?_
   cases oI h
   exact ⟨rfl, (tabG (B1 := []) (tabG (B1 := [_]) rfl (fun _ => rfl)) (fun _ => rfl))⟩
  refine sN<|qS<|cF<|qX ?_
  cases oI h
  exact ⟨nofun, rfl, (tabG (B1 := []) (tabG (B1 := [_]) rfl (fun _ => rfl)) (fun _ => rfl))⟩
 intro e R' B' he hq
 obtain ⟨rfl, hI⟩ := hq
 refine qE<|gS rfl hI<|bE h fun x34 hx34 h => WO.tabW hx34 rfl rfl rfl rfl rfl rfl<|bE h fun x37 hx37 h => bE h fun x35 hx35 h => WO.tabP hx37 hx35 rfl rfl rfl rfl rfl rfl rfl<|sN<|qR<|bE h fun x36 hx36 h => ?_
 cases oI h
 exact WC.done rfl (finish_tab hx36 rfl rfl rfl rfl rfl) rfl
theorem crc_Update_ev {a0 : Int} {a1 : (List UInt8)} {r : Int} (h : gA a0 a1 = some r) : EvP prog au ext 117 [rI a0, rS a1] [] (rI r, []) := by
 refine Ev.body rfl Tryz.func117 rfl (by kernel_rfl)<|gS rfl rfl<|sV (r0)<|sN<|qS<|gS rfl rfl<|sM rfl<|sF h (fun h => ?_) fun h => ?_
 ·refine sM rfl<|sK<|sK<|sT<|sN<|cT<|gS rfl rfl<|sV (r0)<|sN<|qR ?_
  cases oI h
  exact qD
 refine sM rfl<|sM rfl<|sV (rB (decide (a0 > (4294967295 : Int))))<|sF h (fun h => ?_) fun h => ?_
 ·refine sN<|cT<|gS rfl rfl<|sV (r0)<|sN<|qR ?_
  cases oI h
  exact qD
 refine sN<|cF<|qK<|gS rfl rfl<|bE h fun x3 hx3 h => cD (crc_table_ev hx3)<|WO.s1 (rd := [80]) (v := .ptr 80 0) (id := 80) (bx := .var ((List.replicate 256 (0 : Int)).map (cI .i64))) rfl rfl (by intro _; kernel_rfl)<|bE h fun x15 hx15 h => bE h fun x4 hx4 h => WO.tabP hx15 hx4 rfl rfl rfl rfl rfl rfl rfl<|sN<|gS rfl rfl<|sM rfl<|sV (rI (xorI .i64 a0 (4294967295 : Int)))<|sA rfl ?_
 refine sN<|qS<|gS rfl rfl<|sM rfl<|sV (rI (a1.length : Int))<|sV (r0)<|sN<|bE h fun o14 ho14 h => WC.block (WC.loop (WL.ofLoop ho14 (fun s R' B' => ghosts prog 0 (A R' B') (au.at_ 117 0 6) = some (A [(1, rS a1), (5, .ptr 80 0), (6, rI s.1), (18, rI (a1.length : Int)), (19, rI s.2)] [(80, .var (x4.map (cI .i64)))])) (fun o e R' B' => e = .exit 0 ∧ ghosts prog 0 (A R' B') (au.at_ 117 0 10) = some (A [(6, rI o)] [])) (tabG (B1 := []) rfl (fun _ => rfl)) ?_ ?_))
 ·rintro ⟨s5, s6⟩ R' B' q8 hI h
  refine gS rfl hI<|sF h (fun h => ?_) fun h => ?_
  ·refine sN<|qS<|cT<|qK<|qS<|qB<|gS rfl rfl<|sM rfl<|sA rfl<|sN<|WC.region rfl rfl<|sM rfl<|sV (rI (shrI .i64 s5 (8 : Int)))<|sM rfl<|sM rfl ?_
   refine sM rfl<|bE h fun x10 hx10 h => WO.byteG hx10 rfl rfl rfl rfl rfl rfl<|sV (rI (IntKind.wrap .i64 x10))<|sV (rI (xorI .i64 s5 (IntKind.wrap .i64 x10)))<|sV (rI (andI .i64 (xorI .i64 s5 (IntKind.wrap .i64 x10)) (255 : Int)))<|bE h fun x11 hx11 h => WO.tabE hx11 rfl rfl rfl rfl rfl rfl rfl rfl<|bE h fun x12 hx12 h => WO.tabL hx12 rfl rfl rfl rfl rfl rfl<|sV (rI (xorI .i64 (shrI .i64 s5 (8 : Int)) x12))<|sA rfl<|sN<|WC.region rfl rfl<|sV (rI (rW (s6 + (1 : Int)))) ?_
   refine sM rfl<|sN ?_
   cases oI h
   exact ⟨rfl, (tabG (B1 := []) rfl (fun _ => rfl))⟩
  refine sN<|qS<|cF<|qX ?_
  cases oI h
  exact ⟨nofun, rfl, rfl⟩
 intro e R' B' he hq
 obtain ⟨rfl, hI⟩ := hq
 refine qE<|gS rfl hI<|sM rfl<|sV (rI (xorI .i64 o14 (4294967295 : Int)))<|sA rfl<|sN<|qR ?_
 cases oI h
 exact qD
theorem crc_Sum_ev {a0 : (List UInt8)} {r : Int} (h : crc_Sum a0 = some r) : EvP prog au ext 94 [rS a0] [] (rI r, []) := by
 refine Ev.body rfl Tryz.func94 rfl (by kernel_rfl)<|gS rfl rfl<|sV (r0)<|sN<|gS rfl rfl<|sM rfl<|bE h fun x1 hx1 h => cD (crc_Update_ev hx1)<|sA rfl<|sN<|qR ?_
 cases oI h
 exact qD
theorem fF {a0 : (List UInt8)} {r : (List UInt8)} (h : dS a0 = some r) : EvP prog au ext 53 [rS a0] [] (rS r, []) := by
 refine Ev.body rfl Tryz.func53 rfl (by kernel_rfl)<|gS rfl rfl<|sV (rS [])<|sN<|gS rfl rfl<|sM rfl<|bE h fun x1 hx1 h => cD (crc_Sum_ev hx1)<|sA rfl<|sN<|gS rfl rfl<|sM rfl<|sM rfl<|sV (.d (.int .u8 (IntKind.wrap .u8 x1)))<|sM rfl ?_
 refine sV (rI (shrI .i64 x1 (8 : Int)))<|sV (.d (.int .u8 (IntKind.wrap .u8 (shrI .i64 x1 (8 : Int)))))<|sM rfl<|sV (rI (shrI .i64 x1 (16 : Int)))<|sV (.d (.int .u8 (IntKind.wrap .u8 (shrI .i64 x1 (16 : Int)))))<|sM rfl<|sV (rI (shrI .i64 x1 (24 : Int)))<|sV (.d (.int .u8 (IntKind.wrap .u8 (shrI .i64 x1 (24 : Int)))))<|sV (.d (.lst ([(IntKind.wrap .u8 x1), (IntKind.wrap .u8 (shrI .i64 x1 (8 : Int))), (IntKind.wrap .u8 (shrI .i64 x1 (16 : Int))), (IntKind.wrap .u8 (shrI .i64 x1 (24 : Int)))].map (PD.int .u8))))<|WO.strU rfl rfl rfl rfl rfl rfl rfl<|bE h fun x2 hx2 h => WO.catG hx2 rfl rfl rfl rfl rfl<|sA rfl<|sN<|qR ?_
 cases oI h
 exact qD
theorem i5 {a0 : Int} {a1 : Int} {a2 : (List UInt8)} {r : (List UInt8) × Int} (h : eC a0 a1 a2 = some r) : EvP prog au ext 18 [rI a0, rI a1, rS a2] [] (.tup [rS r.1, rI r.2], []) := by
 refine Ev.body rfl Tryz.func18 rfl (by kernel_rfl)<|gS rfl rfl<|sV (rS [])<|sV (r0)<|sN<|qS<|gS rfl rfl<|sM rfl<|bE h fun x1 hx1 h => cD (aV hx1)<|sF h (fun h => ?_) fun h => ?_
 ·refine sM rfl<|k3<|sT<|sN<|cT<|gS rfl rfl<|sV (rS [])<|sV (rI 2)<|sN<|qR ?_
  cases oI h
  exact qD
 refine sM rfl<|sM rfl<|bE h fun x3 hx3 h => cD (aV hx3)<|sV (rB (!x3))<|sF h (fun h => ?_) fun h => ?_
 ·refine sN<|cT<|gS rfl rfl<|sV (rS [])<|sV (rI 2)<|sN<|qR ?_
  cases oI h
  exact qD
 refine sN<|cF<|qK<|gS rfl rfl<|sM rfl<|sM rfl<|sV (.d (.lst ([a0, a1].map (PD.int .i64))))<|bE h fun x5 hx5 h => cD (d6 hx5)<|sM rfl<|bE h fun x6 hx6 h => WO.catG hx6 rfl rfl rfl rfl rfl<|bE h fun x7 hx7 h => cD (fF hx7)<|sA rfl ?_
 refine sN<|qS<|gS rfl rfl<|sM rfl<|sV (rI (x7.length : Int))<|sF h (fun h => ?_) fun h => ?_
 ·refine sN<|cT<|gS rfl rfl<|sV (rS [])<|sV (rI 8)<|sN<|qR ?_
  cases oI h
  exact qD
 refine sN<|cF<|qK<|gS rfl rfl<|sM rfl<|sA rfl<|sV (r0)<|sN<|qR ?_
 cases oI h
 exact qD
theorem c8 {a1 : ac} {d0 : (List ac)} {r : Int × Bool × (List ac)} (h : aL a1 d0 = some r) : EvP prog au ext 77 [.ref 0 0, .d (ac.pd a1), .d (.raw (.func (.func 78) #[] #[]))] [.arr 0 113 (d0.map ac.pd)] (.tup [rI r.1, rB r.2.1], [.arr 0 113 (r.2.2.map ac.pd)]) := by
 refine Ev.body rfl Tryz.func77 rfl (by kernel_rfl)<|gS rfl rfl<|sB (.ptr 64 0) 64 (.var [rI a1.fAt, rI a1.aq, rS a1.aG])<|sV (r0)<|sU<|sN<|gS rfl rfl<|sM rfl<|WO.lenR rfl rfl rfl rfl rfl rfl rfl rfl rfl<|sA rfl<|sN<|gS rfl rfl<|sM rfl<|sV (r0)<|sA rfl ?_
 refine sN<|qS<|bE h fun o12 ho12 h => WC.block (WC.loop (WL.ofLoop ho12 (fun s R' B' => ghosts prog 1 (A R' B') (au.at_ 77 1 3) = some (A [(0, .ref 0 0), (2, .d (.raw (.func (.func 78) #[] #[]))), (4, .ptr 64 0), (8, rI (d0.length : Int)), (9, rI s.1), (10, rI s.2)] [(0, .arr 0 113 (d0.map ac.pd)), (64, .var [rI a1.fAt, rI a1.aq, rS a1.aG])])) (fun o e R' B' => e = .exit 0 ∧ ghosts prog 1 (A R' B') (au.at_ 77 1 8) = some (A [(0, .ref 0 0), (2, .d (.raw (.func (.func 78) #[] #[]))), (4, .ptr 64 0), (8, rI (d0.length : Int)), (9, rI o)] [(0, .arr 0 113 (d0.map ac.pd)), (64, .var [rI a1.fAt, rI a1.aq, rS a1.aG])])) rfl ?_ ?_))
 ·rintro ⟨s1, s2⟩ R' B' q4 hI h
  refine qS<|gS rfl hI<|sM rfl<|sM rfl<|sF h (fun h => ?_) fun h => ?_
  ·refine sN<|cT<|qK<|qB<|gS rfl rfl<|sM rfl<|sM rfl<|sV (rI (rW (s1 + s2)))<|sV (.d (.int .u64 (IntKind.wrap .u64 (rW (s1 + s2)))))<|sV (.d (.int .u64 (shrI .u64 (IntKind.wrap .u64 (rW (s1 + s2))) (1 : Int))))<|sV (rI (rW (shrI .u64 (IntKind.wrap .u64 (rW (s1 + s2))) (1 : Int))))<|sA rfl<|sN<|WC.regionDSeq rfl rfl<|sM rfl ?_
   refine sM rfl<|sM rfl<|bE h fun x7 hx7 h => WO.eltG hx7 rfl rfl rfl rfl rfl rfl rfl rfl<|bE h fun x8 hx8 h => WO.loadE hx8 rfl rfl rfl rfl rfl rfl<|sV (.d (ac.pd a1))<|bE h fun x9 hx9 h => cD (ic hx9)<|sF h (fun h => ?_) fun h => ?_
   ·refine sN<|sO<|cT<|WC.region rfl rfl<|sM rfl<|sV (rI (rW ((rW (shrI .u64 (IntKind.wrap .u64 (rW (s1 + s2))) (1 : Int))) + (1 : Int))))<|sA rfl<|sN ?_
    cases oI h
    exact ⟨rfl, rfl⟩
   refine sN<|sO<|cF<|WC.region rfl rfl<|sM rfl<|sA rfl<|sN ?_
   cases oI h
   exact ⟨rfl, rfl⟩
  refine sN<|cF<|qX ?_
  cases oI h
  exact ⟨nofun, rfl, rfl⟩
 intro e R' B' he hq
 obtain ⟨rfl, hI⟩ := hq
 refine qE<|WC.regionDSeq hI rfl<|sM rfl<|sM rfl<|sM rfl<|sF h (fun h => ?_) fun h => ?_
 ·refine sM rfl<|sM rfl<|sM rfl<|sM rfl<|bE h fun x15 hx15 h => WO.eltG hx15 rfl rfl rfl rfl rfl rfl rfl rfl<|bE h fun x16 hx16 h => WO.loadE hx16 rfl rfl rfl rfl rfl rfl<|sV (.d (ac.pd a1))<|bE h fun x17 hx17 h => cD (ic hx17)<|sV (rB (x17 == (0 : Int)))<|sV (rB (x17 == (0 : Int)))<|sA rfl<|sA rfl ?_
  refine sN<|sO<|qR ?_
  cases oI h
  exact qD
 refine sM rfl<|k3<|k3<|sK<|sK<|sU<|sA rfl<|sA rfl ?_
 refine sN<|sO<|qR ?_
 cases oI h
 exact qD
theorem iO {a0 : ai} {a1 : (List UInt8)} {a2 : ae} {r : ai × Int} (h : gx a0 a1 a2 = some r) : EvP prog au ext 42 [.d (ai.pd a0), rS a1, .d (ae.pd a2)] [] (.tup [.d (ai.pd r.1), rI r.2], []) := by
 refine Ev.body rfl Tryz.func42 rfl (by kernel_rfl)<|gS rfl rfl<|sB (.ptr 48 0) 48 (.var [rI a0.az, rI a0.aq, .d (.lst (a0.av.map ac.pd))])<|sB (.ptr 80 0) 80 (.var [rB a2.i4, rI a2.bT, rI a2.cm])<|sB (.ptr 96 0) 96 (.var [r0, r0, .nils])<|sV (r0)<|sN<|qS<|gS rfl rfl<|sV (.d (ai.pd a0))<|bE h fun x1 hx1 h => cD (fH hx1)<|sF h (fun h => ?_) fun h => ?_
 ·refine sM rfl<|k3<|sT<|sN<|cT<|gS rfl rfl<|sV (.agg [r0, r0, .nils])<|sS 96 (.var [r0, r0, .nils])<|sV (rI 1)<|sN<|qR ?_
  cases oI h
  exact qD
 refine sM rfl<|sV (.d (ae.pd a2))<|bE h fun x3 hx3 h => cD (dV hx3)<|sV (rB (!x3))<|sF h (fun h => ?_) fun h => ?_
 ·refine sN<|cT<|gS rfl rfl<|sV (.agg [r0, r0, .nils])<|sS 96 (.var [r0, r0, .nils])<|sV (rI 1)<|sN<|qR ?_
  cases oI h
  exact qD
 refine sN<|cF<|qK<|gS rfl rfl<|sV (.ptr 80 2)<|sL rfl<|sV (rI (rW ((1 : Int) + a2.cm)))<|sA rfl<|sN<|WC.join (α := Int) (fun x R' B' => ghosts prog 0 (A R' B') (au.at_ 42 0 6) = some (A [(1, rS a1), (3, .ptr 48 0), (5, .ptr 80 0), (6, .ptr 96 0), (8, rI x)] [(48, .var [rI a0.az, rI a0.aq, .d (.lst (a0.av.map ac.pd))]), (80, .var [rB a2.i4, rI a2.bT, rI a2.cm]), (96, .var [r0, r0, .nils])])) (fun x => dJ a1 a0 a2 x = some r) ?_ ?_
 ·refine gS rfl rfl<|sV (.ptr 80 0)<|sF h (fun h => ?_) fun h => ?_
  ·exact sN<|cT<|WC.region rfl rfl<|sV (r0)<|sN<|⟨0, rfl, h⟩
  exact sN<|cF<|qK<|⟨(rW ((1 : Int) + a2.cm)), rfl, h⟩
 rintro j5 R' B' hI h
 refine qS<|gS rfl hI<|sM rfl<|sV (rI (a1.length : Int))<|sF h (fun h => ?_) fun h => ?_
 ·refine sM rfl<|k3<|sT<|sM rfl<|k3<|k3<|sT<|sN<|cT ?_
  refine gS rfl rfl<|sV (.agg [r0, r0, .nils])<|sS 96 (.var [r0, r0, .nils])<|sV (rI 8)<|sN<|qR ?_
  cases oI h
  exact qD
 refine sM rfl<|sV (.ptr 48 1)<|sL rfl<|sV (rB (a0.aq == (1099511627776 : Int)))<|sF h (fun h => ?_) fun h => ?_
 ·refine sM rfl<|k3<|k3<|sT<|sN<|cT<|gS rfl rfl<|sV (.agg [r0, r0, .nils])<|sS 96 (.var [r0, r0, .nils])<|sV (rI 8)<|sN ?_
  refine qR ?_
  cases oI h
  exact qD
 refine sM rfl<|sV (.ptr 48 2)<|sL rfl<|sE (rI (a0.av.length : Int)) (lenMap _ _)<|sM rfl<|sV (rI (rW ((a0.av.length : Int) + j5)))<|sV (rB (decide ((rW ((a0.av.length : Int) + j5)) > (1024 : Int))))<|sF h (fun h => ?_) fun h => ?_
 ·refine sN<|cT<|gS rfl rfl<|sV (.agg [r0, r0, .nils])<|sS 96 (.var [r0, r0, .nils])<|sV (rI 8)<|sN<|qR ?_
  cases oI h
  exact qD
 refine sN<|cF<|qK<|gS rfl rfl<|sV (.ptr 48 2)<|sL rfl<|bE h fun x9 hx9 h => cR (.ref 736 0) [(736, .arr 0 113 (x9.map ac.pd))] (ks hx9)<|sV (.ptr 48 2)<|sS 48 (.var [rI a0.az, rI a0.aq, .ref 736 0])<|sN<|qS<|gS rfl rfl<|sM rfl<|sV (r0) ?_
 refine sN<|bE h fun o18 ho18 h => WC.block (WC.loop (WL.ofLoop ho18 (fun s R' B' => ghosts prog 0 (A R' B') (au.at_ 42 0 10) = some (A [(1, rS a1), (3, .ptr 48 0), (5, .ptr 80 0), (6, .ptr 96 0), (48, rI j5), (49, rI s.1)] [(48, .var [rI a0.az, rI a0.aq, .ref 736 0]), (80, .var [rB a2.i4, rI a2.bT, rI a2.cm]), (96, .var [r0, r0, .nils]), (736, .arr 0 113 (s.2.map ac.pd))])) (fun o e R' B' => e = .exit 0 ∧ ghosts prog 0 (A R' B') (au.at_ 42 0 16) = some (A [(3, .ptr 48 0), (6, .ptr 96 0)] [(48, .var [rI a0.az, rI a0.aq, .ref 736 0]), (96, .var [r0, r0, .nils]), (736, .arr 0 113 (o.map ac.pd))])) rfl ?_ ?_))
 ·rintro ⟨s10, s11⟩ R' B' q13 hI h
  refine gS rfl hI<|sF h (fun h => ?_) fun h => ?_
  ·refine sN<|qS<|cT<|qK<|qS<|qB<|gS rfl rfl<|sM rfl<|sA rfl<|sN<|gS rfl rfl<|sV (.ptr 48 0)<|sL rfl<|sV (rI (rW (a0.az + (1 : Int))))<|sV (.ptr 80 1) ?_
   refine sL rfl<|sV (rI (rW ((rW (a0.az + (1 : Int))) + a2.bT)))<|sM rfl<|sV (rI (rW ((rW ((rW (a0.az + (1 : Int))) + a2.bT)) + s10)))<|sV (.ptr 48 1)<|sL rfl<|sM rfl<|sV (.d (ac.pd (ac.mk (rW ((rW ((rW (a0.az + (1 : Int))) + a2.bT)) + s10)) a0.aq a1)))<|sB (.ptr 160 0) 160 (.var [r0, r0, rS []])<|sS 160 (.var [rI (rW ((rW ((rW (a0.az + (1 : Int))) + a2.bT)) + s10)), rI a0.aq, rS a1])<|sN<|gS rfl rfl<|sV (.ptr 48 2)<|sL rfl<|sV (.d (ac.pd (ac.mk (rW ((rW ((rW (a0.az + (1 : Int))) + a2.bT)) + s10)) a0.aq a1))) ?_
   refine bE h fun x15 hx15 h => cR (.tup [rI x15.1, rB x15.2.1]) [(736, .arr 0 113 (x15.2.2.map ac.pd))] (c8 hx15)<|sM rfl<|sV (rI x15.1)<|sV (rB x15.2.1)<|sA rfl<|sA rfl<|sN<|WC.region rfl rfl<|sV (.ptr 48 2)<|sL rfl<|sM rfl<|sV (.d (ac.pd (ac.mk (rW ((rW ((rW (a0.az + (1 : Int))) + a2.bT)) + s10)) a0.aq a1)))<|sB (.ref 1200 0) 1200 (.arr 0 113 ([(ac.mk (rW ((rW ((rW (a0.az + (1 : Int))) + a2.bT)) + s10)) a0.aq a1)].map ac.pd))<|bE h fun x16 hx16 h => ?_
   refine cR (.ref 736 1) [(736, .arr 1 113 (x16.map ac.pd)), (1200, .dead)] (insert_79 hx16)<|sV (.ptr 48 2)<|sS 48 (.var [rI a0.az, rI a0.aq, .ref 736 1])<|sN<|WC.region rfl rfl<|sV (rI (rW (s10 + (1 : Int))))<|sM rfl<|sN ?_
   cases oI h
   exact ⟨rfl, rfl⟩
  refine sN<|qS<|cF<|qX ?_
  cases oI h
  exact ⟨nofun, rfl, rfl⟩
 intro e R' B' he hq
 obtain ⟨rfl, hI⟩ := hq
 refine qE<|gS rfl hI<|sV (.ptr 48 1)<|sL rfl<|sV (rI (rW (a0.aq + (1 : Int))))<|sV (.ptr 48 1)<|sS 48 (.var [rI a0.az, rI (rW (a0.aq + (1 : Int))), .ref 736 0])<|sN<|gS rfl rfl<|sV (.agg [rI a0.az, rI (rW (a0.aq + (1 : Int))), .ref 736 0])<|sS 96 (.var [rI a0.az, rI (rW (a0.aq + (1 : Int))), .ref 736 0])<|sV (r0)<|sN<|qR ?_
 cases oI h
 exact qD
theorem f5 {a0 : ah} {a1 : (List UInt8)} {a2 : ae} {r : ah × Int × Int} (h : dy a0 a1 a2 = some r) : EvP prog au ext 12 [.d (ah.pd a0), rS a1, .d (ae.pd a2)] [] (.tup [.d (ah.pd r.1), rI r.2.1, rI r.2.2], []) := by
 refine Ev.body rfl Tryz.func12 rfl (by kernel_rfl)<|gS rfl rfl<|sB (.ptr 48 0) 48 (.var (ah.rc a0))<|sB (.ptr 80 0) 80 (.var [rB a2.i4, rI a2.bT, rI a2.cm])<|sB (.ptr 96 0) 96 (.var zZ0)<|sV (r0)<|sV (r0)<|sN<|qS<|gS rfl rfl<|sV (.d (ah.pd a0))<|bE h fun x1 hx1 h => cD (cv hx1)<|sF h (fun h => ?_) fun h => ?_
 ·refine sM rfl<|k3<|sT<|sN<|cT<|gS rfl rfl<|sG (.agg zZ0)<|sH 96 (.var zZ0)<|sV (r0)<|sV (rI 1)<|sN<|qR ?_
  cases oI h
  exact qG
 refine sM rfl<|sV (.d (ae.pd a2))<|bE h fun x3 hx3 h => cD (dV hx3)<|sV (rB (!x3))<|sF h (fun h => ?_) fun h => ?_
 ·refine sN<|cT<|gS rfl rfl<|sG (.agg zZ0)<|sH 96 (.var zZ0)<|sV (r0)<|sV (rI 1)<|sN<|qR ?_
  cases oI h
  exact qG
 refine sN<|cF<|qK<|gS rfl rfl<|sV (.d (ah.pd a0))<|bE h fun x5 hx5 h => cR (.agg [rI x5.az, rI x5.aD, rI x5.aI, rI x5.ar.aH, rI x5.ar.aC, .d (.lst (x5.ar.aG.map PD.str)), .d (.lst (x5.ap.aJ.map aa.pd)), .d (.lst (x5.ap.aF.map aa.pd)), rI x5.aB.az, rI x5.aB.aq, .d (.lst (x5.aB.av.map ac.pd)), rI x5.fUp.az, rI x5.fUp.aq, .d (.lst (x5.fUp.av.map ac.pd)), .ref 384 0]) [(384, .arr 0 50 (x5.aw.map aj.pd))] (eI hx5)<|sH 48 (.var [rI x5.az, rI x5.aD, rI x5.aI, rI x5.ar.aH, rI x5.ar.aC, .d (.lst (x5.ar.aG.map PD.str)), .d (.lst (x5.ap.aJ.map aa.pd)), .d (.lst (x5.ap.aF.map aa.pd)), rI x5.aB.az, rI x5.aB.aq, .d (.lst (x5.aB.av.map ac.pd)), rI x5.fUp.az, rI x5.fUp.aq, .d (.lst (x5.fUp.av.map ac.pd)), .ref 384 0])<|sN<|gS rfl rfl<|sV (.ptr 48 3)<|sV (.d (.agg [.int .i64 x5.ar.aH, .int .i64 x5.ar.aC, .lst (x5.ar.aG.map PD.str)]))<|sM rfl<|bE h fun x6 hx6 h => cR (.tup [.d (al.pd x6.1), rI x6.2.1, rI x6.2.2]) [] (sender_Push_ev hx6) ?_
 refine sM rfl<|sV (.d (al.pd x6.1))<|sV (rI x6.2.1)<|sV (rI x6.2.2)<|sB (.ptr 144 0) 144 (.var [r0, r0, .nils])<|sS 144 (.var [rI x6.1.aH, rI x6.1.aC, .d (.lst (x6.1.aG.map PD.str))])<|sA rfl<|sA rfl<|sN<|qS<|gS rfl rfl<|sM rfl<|sF h (fun h => ?_) fun h => ?_
 ·refine sN<|cT<|gS rfl rfl<|sG (.agg zZ0)<|sM rfl<|sH 96 (.var zZ0)<|sV (r0)<|sA rfl<|sN<|qR ?_
  cases oI h
  exact qG
 refine sN<|cF<|qK<|gS rfl rfl<|sV (.d (.agg [.int .i64 x6.1.aH, .int .i64 x6.1.aC, .lst (x6.1.aG.map PD.str)]))<|sV (.ptr 48 3)<|sS 48 (.var [rI x5.az, rI x5.aD, rI x5.aI, rI x6.1.aH, rI x6.1.aC, .d (.lst (x6.1.aG.map PD.str)), .d (.lst (x5.ap.aJ.map aa.pd)), .d (.lst (x5.ap.aF.map aa.pd)), rI x5.aB.az, rI x5.aB.aq, .d (.lst (x5.aB.av.map ac.pd)), rI x5.fUp.az, rI x5.fUp.aq, .d (.lst (x5.fUp.av.map ac.pd)), .ref 384 0])<|sN<|gS rfl rfl<|sM rfl<|sV (.ptr 144 1)<|sL rfl<|sM rfl<|bE h fun x8 hx8 h => cR (.tup [rS x8.1, rI x8.2]) [] (i5 hx8) ?_
 refine sM rfl<|sV (rS x8.1)<|sV (rI x8.2)<|sA rfl<|sA rfl<|sN<|qS<|gS rfl rfl<|sV (.ptr 48 8)<|sV (.d (.agg [.int .i64 x5.aB.az, .int .i64 x5.aB.aq, .lst (x5.aB.av.map ac.pd)]))<|sM rfl<|sV (.d (ae.pd a2))<|bE h fun x9 hx9 h => cR (.tup [.d (ai.pd x9.1), rI x9.2]) [] (iO hx9)<|sM rfl ?_
 refine sV (.d (ai.pd x9.1))<|sV (rI x9.2)<|sV (.ptr 48 8)<|sS 48 (.var [rI x5.az, rI x5.aD, rI x5.aI, rI x6.1.aH, rI x6.1.aC, .d (.lst (x6.1.aG.map PD.str)), .d (.lst (x5.ap.aJ.map aa.pd)), .d (.lst (x5.ap.aF.map aa.pd)), rI x9.1.az, rI x9.1.aq, .d (.lst (x9.1.av.map ac.pd)), rI x5.fUp.az, rI x5.fUp.aq, .d (.lst (x5.fUp.av.map ac.pd)), .ref 384 0])<|sA rfl<|sN<|gS rfl rfl<|sM rfl<|sF h (fun h => ?_) fun h => ?_
 ·refine sN<|cT<|gS rfl rfl<|sG (.agg zZ0)<|sM rfl<|sH 96 (.var zZ0)<|sV (r0)<|sA rfl<|sN<|qR ?_
  cases oI h
  exact qG
 refine sN<|cF<|qK<|gS rfl rfl<|sV (.agg [rI x5.az, rI x5.aD, rI x5.aI, rI x6.1.aH, rI x6.1.aC, .d (.lst (x6.1.aG.map PD.str)), .d (.lst (x5.ap.aJ.map aa.pd)), .d (.lst (x5.ap.aF.map aa.pd)), rI x9.1.az, rI x9.1.aq, .d (.lst (x9.1.av.map ac.pd)), rI x5.fUp.az, rI x5.fUp.aq, .d (.lst (x5.fUp.av.map ac.pd)), .ref 384 0])<|sM rfl<|sH 96 (.var [rI x5.az, rI x5.aD, rI x5.aI, rI x6.1.aH, rI x6.1.aC, .d (.lst (x6.1.aG.map PD.str)), .d (.lst (x5.ap.aJ.map aa.pd)), .d (.lst (x5.ap.aF.map aa.pd)), rI x9.1.az, rI x9.1.aq, .d (.lst (x9.1.av.map ac.pd)), rI x5.fUp.az, rI x5.fUp.aq, .d (.lst (x5.fUp.av.map ac.pd)), .ref 384 0])<|sA rfl<|sV (r0)<|sN<|qR ?_
 cases oI h
 exact qG
theorem fQ {a0 : ae} {r : Bool} (h : dg a0 = some r) : EvP prog au ext 43 [.d (ae.pd a0)] [] (rB r, []) := by
 refine Ev.body rfl Tryz.func43 rfl (by kernel_rfl)<|gS rfl rfl<|sB (.ptr 16 0) 16 (.var [rB a0.i4, rI a0.bT, rI a0.cm])<|sU<|sN<|gS rfl rfl<|sV (.d (ae.pd a0))<|bE h fun x1 hx1 h => cD (dV hx1)<|sV (rB (!x1))<|sA rfl<|sN<|qR ?_
 cases oI h
 exact qD
theorem fq {a0 : (List ae)} {r : Int} (h : a7 a0 = some r) : EvP prog au ext 80 [.d (.lst (a0.map ae.pd)), .d (.raw (.func (.func 43) #[] #[]))] [] (rI r, []) := by
 refine Ev.body rfl Tryz.func80 rfl (by kernel_rfl)<|gS rfl rfl<|sV (r0)<|sN<|qS<|gS rfl rfl<|sM rfl<|sE (rI (a0.length : Int)) (lenMap _ _)<|sV (r0)<|sN<|bE h fun o8 ho8 h => WC.block (WC.loop (WL.ofLoop ho8 (fun s R' B' => ghosts prog 0 (A R' B') (au.at_ 80 0 2) = some (A [(0, .d (.lst (a0.map ae.pd))), (1, .d (.raw (.func (.func 43) #[] #[]))), (7, rI (a0.length : Int)), (8, rI s)] [])) (fun o e R' B' => match o with | .inl y => e = .exit 0 ∧ ghosts prog 0 (A R' B') (au.at_ 80 0 7) = some (A [] []) | .inr r => e = .ret ∧ finish prog (au.own 80) Tryz.f80 0 (A R' B') = some (rI r, [])) rfl ?_ ?_))
 ·rintro s1 R' B' q2 hI h
  refine gS rfl hI<|sF h (fun h => ?_) fun h => ?_
  ·refine sN<|qS<|cT<|qK<|qS<|qB<|gS rfl rfl<|sM rfl<|sA rfl<|sN<|gS rfl rfl<|sM rfl<|sM rfl<|sM rfl<|bE h fun x4 hx4 h => ?_
   refine eG hx4 rfl<|sV (.d (ae.pd x4))<|bE h fun x5 hx5 h => ite_elim h (fun hb6 h => ?_) (fun hb6 h => ?_)
   ·refine WO.callR (v := rB true) (u := []) rfl rfl (fun _ => rfl) rfl rfl rfl rfl rfl (fQ hx5) rfl rfl (congrArg (fun b => RV.d (.bool b)) hb6) rfl<|sN<|cT<|gS rfl rfl<|sM rfl<|sA rfl<|sN<|qR ?_
    cases oI h
    exact ⟨nofun, rfl, rfl⟩
   refine WO.callR (v := rB false) (u := []) rfl rfl (fun _ => rfl) rfl rfl rfl rfl rfl (fQ hx5) rfl rfl (congrArg (fun b => RV.d (.bool b)) hb6) rfl<|sN<|cF<|qK<|WC.region rfl rfl<|sV (rI (rW (s1 + (1 : Int))))<|sM rfl<|sN ?_
   cases oI h
   exact ⟨rfl, rfl⟩
  refine sN<|qS<|cF<|qX ?_
  cases oI h
  exact ⟨nofun, rfl, rfl⟩
 intro e R' B' he hq
 rcases o8 with y9 | r10
 ·obtain ⟨rfl, hI⟩ := hq
  refine qE<|gS rfl hI<|sV (rI (-1))<|sN<|qR ?_
  cases oI h
  exact qD
 obtain ⟨rfl, hf⟩ := hq
 cases oI h
 exact hf
theorem bX {a0 : (List ae)} {r : Bool} (h : aM a0 = some r) : EvP prog au ext 44 [.d (.lst (a0.map ae.pd)), .d (.raw (.func (.func 43) #[] #[]))] [] (rB r, []) := by
 refine Ev.body rfl Tryz.func44 rfl (by kernel_rfl)<|gS rfl rfl<|sU<|sN<|gS rfl rfl<|sM rfl<|sM rfl<|bE h fun x1 hx1 h => cD (fq hx1)<|sV (rB (decide (x1 ≥ (0 : Int))))<|sA rfl<|sN<|qR ?_
 cases oI h
 exact qD
theorem kC {a0 : ai} {r : ai × (List (List UInt8)) × Int} (h : iA a0 = some r) : EvP prog au ext 45 [.d (ai.pd a0)] [] (.tup [.d (ai.pd r.1), .d (.lst (r.2.1.map PD.str)), rI r.2.2], []) := by
 refine Ev.body rfl Tryz.func45 rfl (by kernel_rfl)<|gS rfl rfl<|sB (.ptr 16 0) 16 (.var [rI a0.az, rI a0.aq, .d (.lst (a0.av.map ac.pd))])<|sB (.ptr 32 0) 32 (.var [r0, r0, .nils])<|sV .nils<|sV (r0)<|sN<|qS<|gS rfl rfl<|sV (.d (ai.pd a0))<|bE h fun x1 hx1 h => cD (fH hx1)<|sF h (fun h => ?_) fun h => ?_
 ·refine sN<|cT<|gS rfl rfl<|sV (.agg [r0, r0, .nils])<|sS 32 (.var [r0, r0, .nils])<|sV .nils<|sV (rI 1)<|sN<|qR ?_
  cases oI h
  exact qD
 refine sN<|cF<|qK<|qS<|gS rfl rfl<|sV (.ptr 16 0)<|sL rfl<|sF h (fun h => ?_) fun h => ?_
 ·refine sN<|cT<|gS rfl rfl<|sV (.agg [r0, r0, .nils])<|sS 32 (.var [r0, r0, .nils])<|sV .nils<|sV (rI 8)<|sN<|qR ?_
  cases oI h
  exact qD
 refine sN<|cF<|qK<|gS rfl rfl<|sV (.ptr 16 0)<|sL rfl<|sV (rI (rW (a0.az + (1 : Int))))<|sV (.ptr 16 0)<|sS 16 (.var [rI (rW (a0.az + (1 : Int))), rI a0.aq, .d (.lst (a0.av.map ac.pd))])<|sN<|gS rfl rfl<|sV .nils<|sN<|gS rfl rfl<|sV (r0) ?_
 refine sN<|qS<|bE h fun o15 ho15 h => WC.block (WC.loop (WL.ofLoop ho15 (fun s R' B' => ghosts prog 0 (A R' B') (au.at_ 45 0 8) = some (A [(1, .ptr 16 0), (2, .ptr 32 0), (5, .ref 720 0), (6, rI s.1)] [(16, .var [rI (rW (a0.az + (1 : Int))), rI a0.aq, .d (.lst (a0.av.map ac.pd))]), (32, .var [r0, r0, .nils]), (720, .arr 0 9 (s.2.map PD.str))])) (fun o e R' B' => e = .exit 0 ∧ ghosts prog 0 (A R' B') (au.at_ 45 0 11) = some (A [(1, .ptr 16 0), (2, .ptr 32 0), (5, .ref 720 0), (6, rI o.1)] [(16, .var [rI (rW (a0.az + (1 : Int))), rI a0.aq, .d (.lst (a0.av.map ac.pd))]), (32, .var [r0, r0, .nils]), (720, .arr 0 9 (o.2.map PD.str))])) rfl ?_ ?_))
 ·rintro ⟨s4, s5⟩ R' B' q8 hI h
  refine qS<|WC.regionDSeq hI rfl<|sM rfl<|sV (.ptr 16 2)<|sL rfl<|sE (rI (a0.av.length : Int)) (lenMap _ _)<|sF h (fun h => ?_) fun h => ?_
  ·refine sM rfl<|sV (.ptr 16 2)<|sL rfl<|sM rfl<|bE h fun x10 hx10 h => eG hx10 rfl<|sV (.cptr [.int .i64 x10.fAt, .int .i64 x10.aq, .str x10.aG])<|sC rfl<|sV (.ptr 16 0)<|sL rfl<|sV (rB (x10.fAt == (rW (a0.az + (1 : Int)))))<|sF h (fun h => ?_) fun h => ?_
   ·refine sN<|sO<|cT<|qK<|qS<|qB<|WC.region rfl rfl<|sM rfl<|sV (.ptr 16 2)<|sL rfl<|sM rfl<|bE h fun x12 hx12 h => eG hx12 rfl<|sV (.cptr [.str x12.aG])<|sC rfl<|sV (.d (.lst ([x12.aG].map PD.str))) ?_
    refine bE h fun x13 hx13 h => aR hx13 (fun _ => rfl) rfl<|sA rfl<|sN<|WC.region rfl rfl<|sM rfl<|sV (rI (rW (s4 + (1 : Int))))<|sA rfl<|sN ?_
    cases oI h
    exact ⟨rfl, rfl⟩
   refine sN<|sO<|cF<|qX ?_
   cases oI h
   exact ⟨nofun, rfl, rfl⟩
  refine sM rfl<|k3<|k3<|k3<|sU ?_
  refine sN<|sO<|cF<|qX ?_
  cases oI h
  exact ⟨nofun, rfl, rfl⟩
 intro e R' B' he hq
 obtain ⟨rfl, hI⟩ := hq
 refine qE<|gS rfl hI<|sV (.ptr 16 2)<|sL rfl<|sM rfl<|bE h fun x16 hx16 h => WO.cutL (sz := 3) (g := ac.pd) hx16 (fun _ => rfl) rfl rfl rfl rfl rfl rfl rfl rfl rfl rfl rfl<|bE h fun x17 hx17 h => cR (.ref 800 0) [(800, .arr 0 113 (x17.map ac.pd))] (ks hx17)<|sV (.ptr 16 2)<|sS 16 (.var [rI (rW (a0.az + (1 : Int))), rI a0.aq, .ref 800 0])<|sN<|gS rfl rfl<|sV (.agg [rI (rW (a0.az + (1 : Int))), rI a0.aq, .ref 800 0])<|sM rfl ?_
 refine sS 32 (.var [rI (rW (a0.az + (1 : Int))), rI a0.aq, .ref 800 0])<|sA rfl<|sV (r0)<|sN<|qR ?_
 cases oI h
 exact qD
theorem crc_Check_ev {a0 : (List UInt8)} {r : Bool} (h : jB a0 = some r) : EvP prog au ext 100 [rS a0] [] (rB r, []) := by
 refine Ev.body rfl Tryz.func100 rfl (by kernel_rfl)<|gS rfl rfl<|sU<|sN<|gS rfl rfl<|sM rfl<|sV (rI (a0.length : Int))<|sV (rI (rW ((a0.length : Int) - (4 : Int))))<|sA rfl<|sN<|gS rfl rfl<|sM rfl<|sF h (fun h => ?_) fun h => ?_
 ·refine sM rfl<|sM rfl<|sM rfl<|bE h fun x2 hx2 h => WO.cutG hx2 rfl rfl rfl rfl rfl rfl rfl rfl rfl rfl<|bE h fun x3 hx3 h => cD (fF hx3)<|sM rfl<|sV (rB (x3 == a0))<|sV (rB (x3 == a0))<|sA rfl<|sN<|qR ?_
  cases oI h
  exact qD
 refine sM rfl<|k3<|k3<|sU<|sA rfl<|sN<|qR ?_
 cases oI h
 exact qD
theorem f9 {a0 : (List UInt8)} {a1 : (List UInt8)} {a2 : Int} {r : (List UInt8) × Int} (h : dB a0 a1 a2 = some r) : EvP prog au ext 64 [rS a0, rS a1, rI a2] [] (.tup [rS r.1, rI r.2], []) := by
 refine Ev.body rfl Tryz.func64 rfl (by kernel_rfl)<|gS rfl rfl<|sV (rS [])<|sV (r0)<|sN<|gS rfl rfl<|sM rfl<|sV (rI (a0.length : Int))<|sV (rI (rW ((a0.length : Int) - (4 : Int))))<|sA rfl<|sN<|qS<|qB<|gS rfl rfl<|sM rfl ?_
 refine sV (rI (a0.length : Int))<|sM rfl<|sF h (fun h => ?_) fun h => ?_
 ·refine sA rfl<|sN<|cT<|gS rfl rfl<|sV (rS [])<|sV (rI 4)<|sN<|qR ?_
  cases oI h
  exact qD
 refine sA rfl<|sN<|cF<|gS rfl rfl<|sM rfl<|bE h fun x2 hx2 h => cD (crc_Check_ev hx2)<|sF h (fun h => ?_) fun h => ?_
 ·refine sA rfl<|sN<|cT<|gS rfl rfl<|sV (rS [])<|sV (rI 5)<|sN<|qR ?_
  cases oI h
  exact qD
 refine sA rfl<|sN<|cF<|gS rfl rfl<|sM rfl<|bE h fun x4 hx4 h => WO.cutG hx4 rfl rfl rfl rfl rfl rfl rfl rfl rfl rfl<|sM rfl<|sF h (fun h => ?_) fun h => ?_
 ·refine sA rfl<|sN<|cT<|gS rfl rfl<|sV (rS [])<|sV (rI 3)<|sN<|qR ?_
  cases oI h
  exact qD
 refine sA rfl<|sN<|cF<|qK<|gS rfl rfl<|sM rfl<|sM rfl<|bE h fun x6 hx6 h => WO.cutG hx6 rfl rfl rfl rfl rfl rfl rfl rfl rfl rfl<|sA rfl<|sV (r0)<|sN<|qR ?_
 cases oI h
 exact qD
theorem bits_Get_ev {a0 : (List UInt8)} {a1 : Int} {a2 : Int} {r : Int × Int} (h : ko a0 a1 a2 = some r) : EvP prog au ext 101 [rS a0, rI a1, rI a2] [] (.tup [rI r.1, rI r.2], []) := by
 refine Ev.body rfl Tryz.func101 rfl (by kernel_rfl)<|gS rfl rfl<|sV (r0)<|sV (r0)<|sN<|qS<|gS rfl rfl<|sM rfl<|bE h fun x1 hx1 h => cD (jW hx1)<|sF h (fun h => ?_) fun h => ?_
 ·refine sM rfl<|sK<|sK<|sT<|sN<|cT<|gS rfl rfl<|sV (r0)<|sV (rI 2)<|sN<|qR ?_
  cases oI h
  exact qD
 refine sM rfl<|sM rfl<|sV (rB (decide (a1 < (0 : Int))))<|sF h (fun h => ?_) fun h => ?_
 ·refine sN<|cT<|gS rfl rfl<|sV (r0)<|sV (rI 2)<|sN<|qR ?_
  cases oI h
  exact qD
 refine sN<|cF<|qK<|qS<|gS rfl rfl<|sM rfl<|sM rfl<|sV (rI (a0.length : Int))<|sM rfl<|sV (rI (rW ((a0.length : Int) - a2)))<|sF h (fun h => ?_) fun h => ?_
 ·refine sN<|cT<|gS rfl rfl<|sV (r0)<|sV (rI 4)<|sN<|qR ?_
  cases oI h
  exact qD
 refine sN<|cF<|qK<|gS rfl rfl<|sV (r0)<|sN<|qS<|gS rfl rfl<|sM rfl<|sV (r0)<|sN<|bE h fun o12 ho12 h => WC.block (WC.loop (WL.ofLoop ho12 (fun s R' B' => ghosts prog 0 (A R' B') (au.at_ 101 0 7) = some (A [(0, rS a0), (1, rI a1), (8, rI s.1), (23, rI a2), (24, rI s.2)] [])) (fun o e R' B' => e = .exit 0 ∧ ghosts prog 0 (A R' B') (au.at_ 101 0 11) = some (A [(8, rI o)] [])) rfl ?_ ?_))
 ·rintro ⟨s5, s6⟩ R' B' q8 hI h
  refine gS rfl hI<|sF h (fun h => ?_) fun h => ?_
  ·refine sN<|qS<|cT<|qK<|qS<|qB<|gS rfl rfl<|sM rfl<|sA rfl<|sN<|WC.region rfl rfl<|sM rfl<|sV (rI (shlI .i64 s5 (8 : Int)))<|sM rfl<|sM rfl ?_
   refine sM rfl<|sV (rI (rW (a1 + s6)))<|bE h fun x10 hx10 h => WO.byteG hx10 rfl rfl rfl rfl rfl rfl<|sV (rI (IntKind.wrap .i64 x10))<|sV (rI (orI .i64 (shlI .i64 s5 (8 : Int)) (IntKind.wrap .i64 x10)))<|sA rfl<|sN<|WC.region rfl rfl<|sV (rI (rW (s6 + (1 : Int))))<|sM rfl<|sN ?_
   cases oI h
   exact ⟨rfl, rfl⟩
  refine sN<|qS<|cF<|qX ?_
  cases oI h
  exact ⟨nofun, rfl, rfl⟩
 intro e R' B' he hq
 obtain ⟨rfl, hI⟩ := hq
 refine qE<|gS rfl hI<|sM rfl<|sA rfl<|sV (r0)<|sN<|qR ?_
 cases oI h
 exact qD
theorem bM {a0 : (List UInt8)} {a1 : Int} {r : Int} (h : bh a0 a1 = some r) : EvP prog au ext 65 [rS a0, rI a1] [] (rI r, []) := by
 refine Ev.body rfl Tryz.func65 rfl (by kernel_rfl)<|gS rfl rfl<|sV (r0)<|sN<|gS rfl rfl<|sM rfl<|sM rfl<|sV (rI (rW (a1 * (4 : Int))))<|bE h fun x1 hx1 h => cR (.tup [rI x1.1, rI x1.2]) [] (bits_Get_ev hx1)<|sM rfl<|sV (rI x1.1)<|sV (rI x1.2)<|sA rfl<|sA rfl ?_
 refine sN<|gS rfl rfl<|sM rfl<|sA rfl<|sN<|qR ?_
 cases oI h
 exact qD
theorem jp {a0 : (List UInt8)} {r : Int × Int × (List UInt8) × Int} (h : df a0 = some r) : EvP prog au ext 27 [rS a0] [] (.tup [rI r.1, rI r.2.1, rS r.2.2.1, rI r.2.2.2], []) := by
 refine Ev.body rfl Tryz.func27 rfl (by kernel_rfl)<|gS rfl rfl<|sV (r0)<|sV (r0)<|sV (rS [])<|sV (r0)<|sN<|gS rfl rfl<|sM rfl<|bE h fun x1 hx1 h => cR (.tup [rS x1.1, rI x1.2]) [] (f9 hx1)<|sM rfl<|sV (rS x1.1)<|sV (rI x1.2)<|sA rfl ?_
 refine sA rfl<|sN<|qS<|gS rfl rfl<|sM rfl<|sF h (fun h => ?_) fun h => ?_
 ·refine sN<|cT<|gS rfl rfl<|sM rfl<|sV (r0)<|sV (r0)<|sV (rS [])<|sA rfl<|sN<|qR ?_
  cases oI h
  exact qD
 refine sN<|cF<|qK<|gS rfl rfl<|sM rfl<|bE h fun x3 hx3 h => cD (bM hx3)<|sM rfl<|bE h fun x4 hx4 h => cD (bM hx4)<|sA rfl<|sA rfl<|sN<|qS<|gS rfl rfl ?_
 refine sM rfl<|sF h (fun h => ?_) fun h => ?_
 ·refine sM rfl<|sK<|sK<|sT<|sN<|cT<|gS rfl rfl<|sV (r0)<|sV (r0)<|sV (rS [])<|sV (rI 3)<|sN<|qR ?_
  cases oI h
  exact qD
 refine sM rfl<|sM rfl<|sV (rB (decide (x4 > (1073741825 : Int))))<|sF h (fun h => ?_) fun h => ?_
 ·refine sN<|cT<|gS rfl rfl<|sV (r0)<|sV (r0)<|sV (rS [])<|sV (rI 3)<|sN<|qR ?_
  cases oI h
  exact qD
 refine sN<|cF<|qK<|WC.regionDSeq rfl rfl<|sM rfl<|sM rfl<|sM rfl<|bE h fun x7 hx7 h => WO.cutG hx7 rfl rfl rfl rfl rfl rfl rfl rfl rfl rfl<|sA rfl<|sA rfl<|sA rfl<|sV (r0) ?_
 refine sN<|sO<|qR ?_
 cases oI h
 exact qD
theorem ew {a0 : Int} {a1 : Int} {a2 : Int} {r : Bool} (h : di a0 a1 a2 = some r) : EvP prog au ext 89 [rI a0, rI a1, rI a2] [] (rB r, []) := by
 refine Ev.body rfl Tryz.func89 rfl (by kernel_rfl)<|gS rfl rfl<|sU<|sN<|gS rfl rfl<|sM rfl<|sM rfl<|sF h (fun h => ?_) fun h => ?_
 ·refine sM rfl<|sM rfl<|sM rfl<|sV (rB (decide (a0 ≤ a2)))<|sV (rB (decide (a0 ≤ a2)))<|sA rfl<|sN<|qR ?_
  cases oI h
  exact qD
 refine sM rfl<|k3<|sU<|sA rfl<|sN<|qR ?_
 cases oI h
 exact qD
theorem jN {a0 : Int} {r : (List aa)} (h : dC a0 = some r) : EvP prog au ext 132 [.nils, rI a0] [] (.ref 0 0, [.arr 0 55 (r.map aa.pd)]) := by
 refine Ev.body rfl Tryz.func132 rfl (by kernel_rfl)<|gS rfl rfl<|sV .nils<|sN<|qS<|gS rfl rfl<|sM rfl<|sF h (fun h => ?_) fun h => ?_
 ·refine sN<|cT<|WC.region rfl rfl ?_
  cases h
 refine sN<|cF<|qK<|WC.join (α := (List aa)) (fun x R' B' => ghosts prog 0 (A R' B') (au.at_ 132 0 6) = some (A [(0, .ref 90097 0)] [(90097, .arr 0 55 (x.map aa.pd))])) (fun x => bQ x = some r) ?_ ?_
 ·refine gS rfl rfl<|sM rfl<|sM rfl<|sV (r0)<|sM rfl<|sV (r0)<|sV (r0)<|sV (rI (rW (a0 - (0 : Int))))<|sA rfl<|sN<|gS rfl rfl<|sM rfl<|sF h (fun h => ?_) fun h => ?_
  ·refine sN<|cT<|WC.region rfl rfl<|sM rfl<|sM rfl<|sV (r0)<|sV .nils<|sM rfl<|bE h fun x5 hx5 h => WO.appZ (g := aa.pd) hx5 rfl rfl rfl rfl rfl rfl rfl rfl rfl rfl rfl rfl rfl rfl rfl rfl<|sM rfl<|sV (r0)<|bE h fun x6 hx6 h => WO.resl hx6 rfl rfl rfl rfl rfl rfl rfl rfl rfl rfl rfl rfl<|sA rfl ?_
   exact sN<|⟨(x5.take (0 : Int).toNat), rfl, h⟩
  exact sN<|cF<|qK<|⟨([] : List aa), rfl, h⟩
 rintro j2 R' B' hI h
 refine gS rfl hI<|sM rfl<|sA rfl<|sN<|qR ?_
 cases oI h
 exact qD
theorem jd {a0 : (List (List aa))} {r : (List aa)} (h : cM a0 = some r) : EvP prog au ext 123 [.d (.lst (a0.map (fun l => PD.lst (l.map aa.pd))))] [] (.d (.lst (r.map aa.pd)), []) := by
 refine Ev.body rfl Tryz.func123 rfl (by kernel_rfl)<|gS rfl rfl<|sV .nils<|sN<|gS rfl rfl<|sV (r0)<|sN<|qS<|gS rfl rfl<|sM rfl<|sE (rI (a0.length : Int)) (lenMap _ _)<|sV (r0)<|sN<|bE h fun o9 ho9 h => WC.block (WC.loop (WL.ofLoop ho9 (fun s R' B' => ghosts prog 0 (A R' B') (au.at_ 123 0 3) = some (A [(0, .d (.lst (a0.map (fun l => PD.lst (l.map aa.pd))))), (3, rI s.1), (9, .d (.lst (a0.map (fun l => PD.lst (l.map aa.pd))))), (10, rI (a0.length : Int)), (11, rI s.2)] [])) (fun o e R' B' => e = .exit 0 ∧ ghosts prog 0 (A R' B') (au.at_ 123 0 9) = some (A [(0, .d (.lst (a0.map (fun l => PD.lst (l.map aa.pd))))), (3, rI o)] [])) rfl ?_ ?_))
 ·rintro ⟨s1, s2⟩ R' B' q4 hI h
  refine gS rfl hI<|sF h (fun h => ?_) fun h => ?_
  ·refine sN<|qS<|cT<|qK<|qS<|qB<|gS rfl rfl<|bE h fun x6 hx6 h => eG hx6 rfl<|sC rfl<|sA rfl<|sN<|gS rfl rfl<|sM rfl<|sM rfl ?_
   refine sE (rI (x6.length : Int)) (lenMap _ _)<|sV (rI (rW (s1 + (x6.length : Int))))<|sA rfl<|sN<|gS rfl rfl<|sM rfl<|sF h (fun h => ?_) fun h => ?_
   ·refine sN<|cT<|WC.region rfl rfl ?_
    cases h
   refine sN<|cF<|qK<|WC.region rfl rfl<|sV (rI (rW (s2 + (1 : Int))))<|sM rfl<|sN ?_
   cases oI h
   exact ⟨rfl, rfl⟩
  refine sN<|qS<|cF<|qX ?_
  cases oI h
  exact ⟨nofun, rfl, rfl⟩
 intro e R' B' he hq
 obtain ⟨rfl, hI⟩ := hq
 refine qE<|gS rfl hI<|sM rfl<|bE h fun x10 hx10 h => cR (.ref 384 0) [(384, .arr 0 55 (x10.map aa.pd))] (jN hx10)<|sA rfl<|sN<|qS<|gS rfl rfl<|sM rfl<|sE (rI (a0.length : Int)) (lenMap _ _)<|sV (r0)<|sN<|bE h fun o19 ho19 h => WC.block (WC.loop (WL.ofLoop ho19 (fun s R' B' => ghosts prog 0 (A R' B') (au.at_ 123 0 11) = some (A [(6, .ref 384 0), (25, .d (.lst (a0.map (fun l => PD.lst (l.map aa.pd))))), (26, rI (a0.length : Int)), (27, rI s.1)] [(384, .arr 0 55 (s.2.map aa.pd))])) (fun o e R' B' => e = .exit 2 ∧ ghosts prog 0 (A R' B') (au.at_ 123 0 15) = some (A [(6, .ref 384 0)] [(384, .arr 0 55 (o.map aa.pd))])) rfl ?_ ?_))
 ·rintro ⟨s11, s12⟩ R' B' q14 hI h
  refine gS rfl hI<|sF h (fun h => ?_) fun h => ?_
  ·refine sN<|qS<|cT<|qK<|qS<|qB<|gS rfl rfl<|bE h fun x16 hx16 h => eG hx16 rfl<|sC rfl<|sA rfl<|sN<|WC.region rfl rfl<|sM rfl<|sM rfl ?_
   refine bE h fun x17 hx17 h => aR hx17 (fun _ => rfl) rfl<|sA rfl<|sN<|WC.region rfl rfl<|sV (rI (rW (s11 + (1 : Int))))<|sM rfl<|sN ?_
   cases oI h
   exact ⟨rfl, rfl⟩
  refine sN<|qS<|cF<|qX ?_
  cases oI h
  exact ⟨nofun, rfl, rfl⟩
 intro e R' B' he hq
 obtain ⟨rfl, hI⟩ := hq
 refine qE<|gS rfl hI<|sM rfl<|sA rfl<|sN<|qR ?_
 cases oI h
 exact qD
theorem ir {a0 : (List aa)} {a1 : (List aa)} {r : (List aa)} (h : fC a0 a1 = some r) : EvP prog au ext 111 [.d (.lst (a0.map aa.pd)), .d (.lst (a1.map aa.pd))] [] (.d (.lst (r.map aa.pd)), []) := by
 refine Ev.body rfl Tryz.func111 rfl (by kernel_rfl)<|gS rfl rfl<|sV .nils<|sN<|gS rfl rfl<|sM rfl<|sM rfl<|sV (.d (.lst ([a0, a1].map (fun l => PD.lst (l.map aa.pd)))))<|bE h fun x1 hx1 h => cD (jd hx1)<|bE h fun x2 hx2 h => cD (cB hx2)<|sA rfl<|sN<|qR ?_
 cases oI h
 exact qD
theorem ip {a0 : (List aa)} {a1 : (List aa)} {r : (List aa)} (h : fy a0 a1 = some r) : EvP prog au ext 90 [.d (.lst (a0.map aa.pd)), .d (.lst (a1.map aa.pd))] [] (.d (.lst (r.map aa.pd)), []) := by
 refine Ev.body rfl Tryz.func90 rfl (by kernel_rfl)<|gS rfl rfl<|sV .nils<|sN<|gS rfl rfl<|sM rfl<|bE h fun x1 hx1 h => cD (cB hx1)<|sA rfl<|sN<|gS rfl rfl<|sV .nils<|sN<|qS<|gS rfl rfl ?_
 refine sM rfl<|bE h fun x2 hx2 h => cD (cB hx2)<|sE (rI (x2.length : Int)) (lenMap _ _)<|sV (r0)<|sN<|bE h fun o27 ho27 h => WC.block (WC.loop (WL.ofLoop ho27 (fun s R' B' => ghosts prog 0 (A R' B') (au.at_ 90 0 4) = some (A [(1, .d (.lst (x1.map aa.pd))), (5, .ref 784 0), (14, .d (.lst (x2.map aa.pd))), (15, rI (x2.length : Int)), (16, rI s.1)] [(784, .arr 0 55 (s.2.map aa.pd))])) (fun o e R' B' => e = .exit 0 ∧ ghosts prog 0 (A R' B') (au.at_ 90 0 18) = some (A [(5, .ref 784 0)] [(784, .arr 0 55 (o.map aa.pd))])) rfl ?_ ?_))
 ·rintro ⟨s3, s4⟩ R' B' q6 hI h
  refine gS rfl hI<|sF h (fun h => ?_) fun h => ?_
  ·refine sN<|qS<|cT<|qK<|qS<|qB<|gS rfl rfl<|bE h fun x8 hx8 h => eG hx8 rfl<|sV (.d (aa.pd x8))<|sB (.ptr 112 0) 112 (.var [r0, r0])<|sS 112 (.var [rI x8.aA, rI x8.fTo])<|sN<|gS rfl rfl<|sV (.ptr 112 0) ?_
   refine sL rfl<|sA rfl<|sN<|qS<|gS rfl rfl<|sM rfl<|sE (rI (x1.length : Int)) (lenMap _ _)<|sV (r0)<|sN<|bE h fun o23 ho23 h => WC.block (WC.loop (WL.ofLoop ho23 (fun s R' B' => ghosts prog 0 (A R' B') (au.at_ 90 0 8) = some (A [(1, .d (.lst (x1.map aa.pd))), (5, .ref 784 0), (7, .ptr 112 0), (8, rI s.1), (14, .d (.lst (x2.map aa.pd))), (15, rI (x2.length : Int)), (16, rI s3), (22, .d (.lst (x1.map aa.pd))), (23, rI (x1.length : Int)), (24, rI s.2.1)] [(112, .var [rI x8.aA, rI x8.fTo]), (784, .arr 0 55 (s.2.2.map aa.pd))])) (fun o e R' B' => e = .exit 2 ∧ ghosts prog 0 (A R' B') (au.at_ 90 0 15) = some (A [(1, .d (.lst (x1.map aa.pd))), (5, .ref 784 0), (7, .ptr 112 0), (8, rI o.1), (14, .d (.lst (x2.map aa.pd))), (15, rI (x2.length : Int)), (16, rI o.2.1)] [(112, .var [rI x8.aA, rI x8.fTo]), (784, .arr 0 55 (o.2.2.map aa.pd))])) rfl ?_ ?_))
   ·rintro ⟨s9, s10, s11⟩ R' B' q15 hI h
    refine gS rfl hI<|sF h (fun h => ?_) fun h => ?_
    ·refine sN<|qS<|cT<|qK<|qS<|qB<|gS rfl rfl<|bE h fun x17 hx17 h => eG hx17 rfl<|sV (.d (aa.pd x17))<|sB (.ptr 160 0) 160 (.var [r0, r0])<|sS 160 (.var [rI x17.aA, rI x17.fTo])<|sN<|qS<|gS rfl rfl ?_
     refine sV (.ptr 160 1)<|sL rfl<|sM rfl<|sF h (fun h => ?_) fun h => ?_
     ·refine sM rfl<|k3<|sK<|sK<|sT<|sN<|cT<|qX<|qE<|WC.region rfl rfl<|sV (rI (rW (s10 + (1 : Int))))<|sM rfl<|sN ?_
      cases oI h
      exact ⟨rfl, rfl⟩
     refine sM rfl<|sV (.ptr 160 0)<|sL rfl<|sV (.ptr 112 1)<|sL rfl<|sV (rB (decide (x17.aA ≥ x8.fTo)))<|sF h (fun h => ?_) fun h => ?_
     ·refine sN<|cT<|qX<|qE<|WC.region rfl rfl<|sV (rI (rW (s10 + (1 : Int))))<|sM rfl<|sN ?_
      cases oI h
      exact ⟨rfl, rfl⟩
     refine sN<|cF<|qK<|qS<|gS rfl rfl<|sM rfl<|sV (.ptr 160 0)<|sL rfl<|sF h (fun h => ?_) fun h => ?_
     ·refine sN<|cT<|WC.region rfl rfl<|sM rfl<|sM rfl<|sV (.ptr 160 0)<|sL rfl<|sV (.d (aa.pd (aa.mk s9 x17.aA)))<|sV (.d (.lst ([(aa.mk s9 x17.aA)].map aa.pd)))<|bE h fun x21 hx21 h => aR hx21 (fun _ => rfl) rfl<|sA rfl<|sN<|WC.region rfl rfl<|sM rfl ?_
      refine sV (.ptr 160 1)<|sL rfl<|sV (rI (if x17.fTo > s9 then x17.fTo else s9))<|sA rfl<|sN<|WC.region rfl rfl<|sV (rI (rW (s10 + (1 : Int))))<|sM rfl<|sN ?_
      cases oI h
      exact ⟨rfl, rfl⟩
     refine sN<|cF<|qK<|WC.region rfl rfl<|sM rfl<|sV (.ptr 160 1)<|sL rfl<|sV (rI (if x17.fTo > s9 then x17.fTo else s9))<|sA rfl<|sN<|WC.region rfl rfl<|sV (rI (rW (s10 + (1 : Int))))<|sM rfl<|sN ?_
     cases oI h
     exact ⟨rfl, rfl⟩
    refine sN<|qS<|cF<|qX ?_
    cases oI h
    exact ⟨nofun, rfl, rfl⟩
   intro e R' B' he hq
   obtain ⟨rfl, hI⟩ := hq
   refine qE<|gS rfl hI<|sM rfl<|sV (.ptr 112 1)<|sL rfl<|sF h (fun h => ?_) fun h => ?_
   ·refine sN<|cT<|WC.region rfl rfl<|sM rfl<|sM rfl<|sV (.ptr 112 1)<|sL rfl<|sV (.d (aa.pd (aa.mk o23.1 x8.fTo)))<|sV (.d (.lst ([(aa.mk o23.1 x8.fTo)].map aa.pd)))<|bE h fun x25 hx25 h => aR hx25 (fun _ => rfl) rfl<|sA rfl<|sN<|WC.region rfl rfl<|sV (rI (rW (o23.2.1 + (1 : Int)))) ?_
    refine sM rfl<|sN ?_
    cases oI h
    exact ⟨rfl, rfl⟩
   refine sN<|cF<|qK<|WC.region rfl rfl<|sV (rI (rW (o23.2.1 + (1 : Int))))<|sM rfl<|sN ?_
   cases oI h
   exact ⟨rfl, rfl⟩
  refine sN<|qS<|cF<|qX ?_
  cases oI h
  exact ⟨nofun, rfl, rfl⟩
 intro e R' B' he hq
 obtain ⟨rfl, hI⟩ := hq
 refine qE<|gS rfl hI<|sM rfl<|sA rfl<|sN<|qR ?_
 cases oI h
 exact qD
theorem gi {a0 : (List aa)} {a1 : (List aa)} {r : ag × Int} (h : ct a0 a1 = some r) : EvP prog au ext 110 [.d (.lst (a0.map aa.pd)), .d (.lst (a1.map aa.pd))] [] (.tup [.d (ag.pd r.1), rI r.2], []) := by
 refine Ev.body rfl Tryz.func110 rfl (by kernel_rfl)<|gS rfl rfl<|sB (.ptr 64 0) 64 (.var [.nils, .nils])<|sV (r0)<|sN<|qS<|gS rfl rfl<|sM rfl<|sE (rI (a0.length : Int)) (lenMap _ _)<|sF h (fun h => ?_) fun h => ?_
 ·refine sM rfl<|k3<|sT<|sN<|cT<|gS rfl rfl<|sV (.agg [.nils, .nils])<|sS 64 (.var [.nils, .nils])<|sV (rI 8)<|sN<|qR ?_
  cases oI h
  exact qD
 refine sM rfl<|sM rfl<|sE (rI (a1.length : Int)) (lenMap _ _)<|sV (rB (decide ((a1.length : Int) > (4096 : Int))))<|sF h (fun h => ?_) fun h => ?_
 ·refine sN<|cT<|gS rfl rfl<|sV (.agg [.nils, .nils])<|sS 64 (.var [.nils, .nils])<|sV (rI 8)<|sN<|qR ?_
  cases oI h
  exact qD
 refine sN<|cF<|qK<|gS rfl rfl<|sM rfl<|sM rfl<|sV (.d (ag.pd (ag.mk a0 a1)))<|sS 64 (.var [.d (.lst (a0.map aa.pd)), .d (.lst (a1.map aa.pd))])<|sV (r0)<|sN<|qR ?_
 cases oI h
 exact qD
theorem kd {a0 : ag} {a1 : Int} {r : ag × Bool × Int} (h : dO a0 a1 = some r) : EvP prog au ext 81 [.d (ag.pd a0), rI a1] [] (.tup [.d (ag.pd r.1), rB r.2.1, rI r.2.2], []) := by
 refine Ev.body rfl Tryz.func81 rfl (by kernel_rfl)<|gS rfl rfl<|sB (.ptr 32 0) 32 (.var [.d (.lst (a0.aJ.map aa.pd)), .d (.lst (a0.aF.map aa.pd))])<|sB (.ptr 64 0) 64 (.var [.nils, .nils])<|sU<|sV (r0)<|sN<|qS<|gS rfl rfl<|sV (.d (ag.pd a0))<|bE h fun x1 hx1 h => cD (cd hx1)<|sF h (fun h => ?_) fun h => ?_
 ·refine sN<|cT<|gS rfl rfl<|sV (.agg [.nils, .nils])<|sS 64 (.var [.nils, .nils])<|sU<|sV (rI 1)<|sN<|qR ?_
  cases oI h
  exact qD
 refine sN<|cF<|qK<|qS<|gS rfl rfl<|sM rfl<|bE h fun x3 hx3 h => cD (ew hx3)<|sF h (fun h => ?_) fun h => ?_
 ·refine sN<|cT<|gS rfl rfl<|sV (.agg [.nils, .nils])<|sS 64 (.var [.nils, .nils])<|sU<|sV (rI 2)<|sN<|qR ?_
  cases oI h
  exact qD
 refine sN<|cF<|qK<|gS rfl rfl<|sM rfl<|sM rfl<|sV (rI (rW (a1 + (1 : Int))))<|sV (.d (aa.pd (aa.mk a1 (rW (a1 + (1 : Int))))))<|sV (.d (.lst ([(aa.mk a1 (rW (a1 + (1 : Int))))].map aa.pd)))<|sA rfl<|sN<|gS rfl rfl<|sV (.ptr 32 0)<|sL rfl<|sM rfl ?_
 refine bE h fun x5 hx5 h => cD (span_Has_ev hx5)<|sV (rB (!x5))<|sA rfl<|sN<|WC.regionDSeq rfl rfl<|sV (.ptr 32 0)<|sL rfl<|sM rfl<|bE h fun x6 hx6 h => cD (ir hx6)<|sV (.ptr 32 1)<|sL rfl<|sM rfl<|bE h fun x7 hx7 h => ?_
 refine cD (ip hx7)<|bE h fun x8 hx8 h => cR (.tup [.d (ag.pd x8.1), rI x8.2]) [] (gi hx8)<|sM rfl<|sV (.d (ag.pd x8.1))<|sV (rI x8.2)<|sS 32 (.var [.d (.lst (x8.1.aJ.map aa.pd)), .d (.lst (x8.1.aF.map aa.pd))])<|sA rfl ?_
 refine sN<|sO<|gS rfl rfl<|sV (.d (.agg [.lst (x8.1.aJ.map aa.pd), .lst (x8.1.aF.map aa.pd)]))<|sF h (fun h => ?_) fun h => ?_
 ·refine sM rfl<|sM rfl<|sV (rB (x8.2 == (0 : Int)))<|sV (rB (x8.2 == (0 : Int)))<|sM rfl<|sS 64 (.var [.d (.lst (x8.1.aJ.map aa.pd)), .d (.lst (x8.1.aF.map aa.pd))])<|sA rfl<|sA rfl<|sN<|qR ?_
  cases oI h
  exact qD
 refine sM rfl<|sK<|sK<|sU<|sM rfl<|sS 64 (.var [.d (.lst (x8.1.aJ.map aa.pd)), .d (.lst (x8.1.aF.map aa.pd))])<|sA rfl<|sA rfl<|sN<|qR ?_
 cases oI h
 exact qD
theorem iB {a0 : ag} {a1 : Int} {r : ag × Int} (h : dK a0 a1 = some r) : EvP prog au ext 82 [.d (ag.pd a0), rI a1] [] (.tup [.d (ag.pd r.1), rI r.2], []) := by
 refine Ev.body rfl Tryz.func82 rfl (by kernel_rfl)<|gS rfl rfl<|sB (.ptr 32 0) 32 (.var [.d (.lst (a0.aJ.map aa.pd)), .d (.lst (a0.aF.map aa.pd))])<|sB (.ptr 64 0) 64 (.var [.nils, .nils])<|sV (r0)<|sN<|qS<|gS rfl rfl<|sV (.d (ag.pd a0))<|bE h fun x1 hx1 h => cD (cd hx1)<|sF h (fun h => ?_) fun h => ?_
 ·refine sN<|cT<|gS rfl rfl<|sV (.agg [.nils, .nils])<|sS 64 (.var [.nils, .nils])<|sV (rI 1)<|sN<|qR ?_
  cases oI h
  exact qD
 refine sN<|cF<|qK<|qS<|gS rfl rfl<|sM rfl<|bE h fun x3 hx3 h => cD (ew hx3)<|sF h (fun h => ?_) fun h => ?_
 ·refine sN<|cT<|gS rfl rfl<|sV (.agg [.nils, .nils])<|sS 64 (.var [.nils, .nils])<|sV (rI 2)<|sN<|qR ?_
  cases oI h
  exact qD
 refine sN<|cF<|qK<|gS rfl rfl<|sM rfl<|sV (.d (aa.pd (aa.mk 0 a1)))<|sV (.d (.lst ([(aa.mk 0 a1)].map aa.pd)))<|sV (.ptr 32 0)<|sL rfl<|bE h fun x5 hx5 h => cD (ip hx5)<|sA rfl<|sN<|WC.regionDSeq rfl rfl<|sV (.ptr 32 0) ?_
 refine sL rfl<|bE h fun x6 hx6 h => cR (.ref 368 0) [(368, .arr 0 55 (x6.map aa.pd))] (kr hx6)<|sV (.ptr 32 1)<|sL rfl<|sM rfl<|bE h fun x7 hx7 h => cD (ir hx7)<|bE h fun x8 hx8 h => cR (.tup [.d (ag.pd x8.1), rI x8.2]) [(368, .dead)] (gi hx8)<|sV (.d (ag.pd x8.1))<|sV (rI x8.2)<|sS 64 (.var [.d (.lst (x8.1.aJ.map aa.pd)), .d (.lst (x8.1.aF.map aa.pd))])<|sA rfl ?_
 refine sN<|sO<|qR ?_
 cases oI h
 exact qD
theorem jR {a0 : Int} {e1 : Int} {e2 : Int} {e3 : Int} {e4 : Int} {e5 : Int} {e6 : (List (List UInt8))} {e7 : (List aa)} {e8 : (List aa)} {e9 : Int} {e10 : Int} {e11 : (List ac)} {e12 : Int} {e13 : Int} {e14 : (List ac)} {e15 : (List ae)} {e16 : (List ae)} {d1 : (List aj)} {r : Int × Int × Int × Int × Int × (List (List UInt8)) × (List aa) × (List aa) × Int × Int × (List ac) × Int × Int × (List ac) × (List ae) × (List ae)} (h : gC a0 e1 e2 e3 e4 e5 e6 e7 e8 e9 e10 e11 e12 e13 e14 e15 e16 d1 = some r) : EvP prog au ext 83 [.ptr 0 0, rI a0] [.var [rI e1, rI e2, rI e3, rI e4, rI e5, .d (.lst (e6.map PD.str)), .d (.lst (e7.map aa.pd)), .d (.lst (e8.map aa.pd)), rI e9, rI e10, .d (.lst (e11.map ac.pd)), rI e12, rI e13, .d (.lst (e14.map ac.pd)), .ref 1 0, .d (.lst (e15.map ae.pd)), .d (.lst (e16.map ae.pd))], .arr 0 50 (d1.map aj.pd)] (.tup [], [.var [rI r.1, rI r.2.1, rI r.2.2.1, rI r.2.2.2.1, rI r.2.2.2.2.1, .d (.lst (r.2.2.2.2.2.1.map PD.str)), .d (.lst (r.2.2.2.2.2.2.1.map aa.pd)), .d (.lst (r.2.2.2.2.2.2.2.1.map aa.pd)), rI r.2.2.2.2.2.2.2.2.1, rI r.2.2.2.2.2.2.2.2.2.1, .d (.lst (r.2.2.2.2.2.2.2.2.2.2.1.map ac.pd)), rI r.2.2.2.2.2.2.2.2.2.2.2.1, rI r.2.2.2.2.2.2.2.2.2.2.2.2.1, .d (.lst (r.2.2.2.2.2.2.2.2.2.2.2.2.2.1.map ac.pd)), .ref 1 0, .d (.lst (r.2.2.2.2.2.2.2.2.2.2.2.2.2.2.1.map ae.pd)), .d (.lst (r.2.2.2.2.2.2.2.2.2.2.2.2.2.2.2.map ae.pd))], .arr 0 50 (d1.map aj.pd)]) := by
 refine Ev.body rfl Tryz.func83 rfl (by kernel_rfl)<|WC.regionD rfl rfl<|sM rfl<|sM rfl<|sV (.ptr 0 0)<|sV (.ptr 0 0)<|sV (.ptr 0 2)<|sL rfl<|sM rfl<|sV (rI (if a0 > e3 then a0 else e3))<|sM rfl<|sV (.ptr 0 0)<|sV (.ptr 0 0)<|sV (.ptr 0 3)<|sV (.d (al.pd (al.mk e4 e5 e6))) ?_
 refine bE h fun x1 hx1 h => cD (bG hx1)<|sV (rI (if x1 < (if a0 > e3 then a0 else e3) then x1 else (if a0 > e3 then a0 else e3)))<|sV (.ptr 0 0)<|sV (.ptr 0 0)<|sV (.ptr 0 2)<|sS 0 (.var [rI e1, rI e2, rI (if x1 < (if a0 > e3 then a0 else e3) then x1 else (if a0 > e3 then a0 else e3)), rI e4, rI e5, .d (.lst (e6.map PD.str)), .d (.lst (e7.map aa.pd)), .d (.lst (e8.map aa.pd)), rI e9, rI e10, .d (.lst (e11.map ac.pd)), rI e12, rI e13, .d (.lst (e14.map ac.pd)), .ref 1 0, .d (.lst (e15.map ae.pd)), .d (.lst (e16.map ae.pd))]) ?_
 refine sN<|sO ?_
 cases oI h
 exact qG
theorem ends_data_ev {a0 : (List UInt8)} {e1 : Int} {e2 : Int} {e3 : Int} {e4 : Int} {e5 : Int} {e6 : (List (List UInt8))} {e7 : (List aa)} {e8 : (List aa)} {e9 : Int} {e10 : Int} {e11 : (List ac)} {e12 : Int} {e13 : Int} {e14 : (List ac)} {e15 : (List ae)} {e16 : (List ae)} {d1 : (List aj)} {r : Int × Int × Int × Int × Int × (List (List UInt8)) × (List aa) × (List aa) × Int × Int × (List ac) × Int × Int × (List ac) × (List ae) × (List ae) × (List aj)} (h : jC a0 e1 e2 e3 e4 e5 e6 e7 e8 e9 e10 e11 e12 e13 e14 e15 e16 d1 = some r) : EvP prog au ext 46 [.ptr 0 0, rS a0] [.var [rI e1, rI e2, rI e3, rI e4, rI e5, .d (.lst (e6.map PD.str)), .d (.lst (e7.map aa.pd)), .d (.lst (e8.map aa.pd)), rI e9, rI e10, .d (.lst (e11.map ac.pd)), rI e12, rI e13, .d (.lst (e14.map ac.pd)), .ref 1 0, .d (.lst (e15.map ae.pd)), .d (.lst (e16.map ae.pd))], .arr 0 50 (d1.map aj.pd)] (.tup [], [.var [rI r.1, rI r.2.1, rI r.2.2.1, rI r.2.2.2.1, rI r.2.2.2.2.1, .d (.lst (r.2.2.2.2.2.1.map PD.str)), .d (.lst (r.2.2.2.2.2.2.1.map aa.pd)), .d (.lst (r.2.2.2.2.2.2.2.1.map aa.pd)), rI r.2.2.2.2.2.2.2.2.1, rI r.2.2.2.2.2.2.2.2.2.1, .d (.lst (r.2.2.2.2.2.2.2.2.2.2.1.map ac.pd)), rI r.2.2.2.2.2.2.2.2.2.2.2.1, rI r.2.2.2.2.2.2.2.2.2.2.2.2.1, .d (.lst (r.2.2.2.2.2.2.2.2.2.2.2.2.2.1.map ac.pd)), .ref 1 1, .d (.lst (r.2.2.2.2.2.2.2.2.2.2.2.2.2.2.1.map ae.pd)), .d (.lst (r.2.2.2.2.2.2.2.2.2.2.2.2.2.2.2.1.map ae.pd))], .arr 1 50 (r.2.2.2.2.2.2.2.2.2.2.2.2.2.2.2.2.map aj.pd)]) := by
 refine Ev.body rfl Tryz.func46 rfl (by kernel_rfl)<|gS rfl rfl<|sM rfl<|bE h fun x1 hx1 h => cR (.tup [rI x1.1, rI x1.2.1, rS x1.2.2.1, rI x1.2.2.2]) [] (jp hx1)<|sM rfl<|sV (rI x1.1)<|sV (rI x1.2.1)<|sV (rS x1.2.2.1)<|sV (rI x1.2.2.2)<|sA rfl<|sA rfl<|sA rfl<|sA rfl<|sN ?_
 refine qS<|WC.regionSeq (R0 := [(0, .ptr 0 0), (4, rI x1.1), (5, rI x1.2.1), (6, rS x1.2.2.1), (7, rI x1.2.2.2)]) (B0 := [(0, .var [rI e1, rI e2, rI e3, rI e4, rI e5, .d (.lst (e6.map PD.str)), .d (.lst (e7.map aa.pd)), .d (.lst (e8.map aa.pd)), rI e9, rI e10, .d (.lst (e11.map ac.pd)), rI e12, rI e13, .d (.lst (e14.map ac.pd)), .ref 1 1, .d (.lst (e15.map ae.pd)), .d (.lst (e16.map ae.pd))]), (1, .arr 1 50 (d1.map aj.pd))]) rfl rfl<|sM rfl<|sF h (fun h => ?_) fun h => ?_
 ·refine sN<|cT<|qR ?_
  cases oI h
  exact qG
 refine sN<|cF<|qK<|gS rfl rfl<|sM rfl<|sV (.ptr 0 0)<|sV (.ptr 0 0)<|sV (.ptr 0 6)<|sV (.d (ag.pd (ag.mk e7 e8)))<|sM rfl<|bE h fun x3 hx3 h => cR (.tup [.d (ag.pd x3.1), rB x3.2.1, rI x3.2.2]) [] (kd hx3)<|sM rfl<|sV (.d (ag.pd x3.1))<|sV (rB x3.2.1) ?_
 refine sV (rI x3.2.2)<|sB (.ptr 128 0) 128 (.var [.nils, .nils])<|sS 128 (.var [.d (.lst (x3.1.aJ.map aa.pd)), .d (.lst (x3.1.aF.map aa.pd))])<|sA rfl<|sA rfl<|sN<|qS<|gS rfl rfl<|sM rfl<|sF h (fun h => ?_) fun h => ?_
 ·refine sN<|cT<|qR ?_
  cases oI h
  exact qG
 refine sN<|cF<|qK<|qS<|gS rfl rfl<|sV (.d (.agg [.lst (x3.1.aJ.map aa.pd), .lst (x3.1.aF.map aa.pd)]))<|sM rfl<|bE h fun x5 hx5 h => cR (.tup [.d (ag.pd x5.1), rI x5.2]) [] (iB hx5)<|sM rfl<|sV (.d (ag.pd x5.1))<|sV (rI x5.2)<|sS 128 (.var [.d (.lst (x5.1.aJ.map aa.pd)), .d (.lst (x5.1.aF.map aa.pd))])<|sA rfl<|sN ?_
 refine gS rfl rfl<|sM rfl<|sF h (fun h => ?_) fun h => ?_
 ·refine sN<|cT<|qR ?_
  cases oI h
  exact qG
 refine sN<|cF<|qK<|gS rfl rfl<|sM rfl<|sV (.d (.agg [.lst (x5.1.aJ.map aa.pd), .lst (x5.1.aF.map aa.pd)]))<|sV (.ptr 0 0)<|sV (.ptr 0 0)<|sV (.ptr 0 6)<|sS 0 (.var [rI e1, rI e2, rI e3, rI e4, rI e5, .d (.lst (e6.map PD.str)), .d (.lst (x5.1.aJ.map aa.pd)), .d (.lst (x5.1.aF.map aa.pd)), rI e9, rI e10, .d (.lst (e11.map ac.pd)), rI e12, rI e13, .d (.lst (e14.map ac.pd)), .ref 1 1, .d (.lst (e15.map ae.pd)), .d (.lst (e16.map ae.pd))])<|sN<|gS rfl rfl<|sM rfl<|sM rfl<|sV (rI (rW (x1.1 + (1 : Int)))) ?_
 refine bE h fun x7 hx7 h => cR (.tup []) [(0, .var [rI x7.1, rI x7.2.1, rI x7.2.2.1, rI x7.2.2.2.1, rI x7.2.2.2.2.1, .d (.lst (x7.2.2.2.2.2.1.map PD.str)), .d (.lst (x7.2.2.2.2.2.2.1.map aa.pd)), .d (.lst (x7.2.2.2.2.2.2.2.1.map aa.pd)), rI x7.2.2.2.2.2.2.2.2.1, rI x7.2.2.2.2.2.2.2.2.2.1, .d (.lst (x7.2.2.2.2.2.2.2.2.2.2.1.map ac.pd)), rI x7.2.2.2.2.2.2.2.2.2.2.2.1, rI x7.2.2.2.2.2.2.2.2.2.2.2.2.1, .d (.lst (x7.2.2.2.2.2.2.2.2.2.2.2.2.2.1.map ac.pd)), .ref 1 1, .d (.lst (x7.2.2.2.2.2.2.2.2.2.2.2.2.2.2.1.map ae.pd)), .d (.lst (x7.2.2.2.2.2.2.2.2.2.2.2.2.2.2.2.map ae.pd))]), (1, .arr 1 50 (d1.map aj.pd))] (jR hx7)<|sN<|gS rfl rfl<|sF h (fun h => ?_) fun h => ?_
 ·refine sM rfl<|sM rfl<|sV (.ptr 0 0)<|sV (.ptr 0 0)<|sV (.ptr 0 14)<|sL rfl<|WO.lenR rfl rfl rfl rfl rfl rfl rfl rfl rfl<|sV (rB (decide ((d1.length : Int) < (4096 : Int))))<|sF h (fun h => ?_) fun h => ?_
  ·refine sN<|cT<|WC.regionD rfl rfl<|sM rfl<|sM rfl<|sV (.ptr 0 0)<|sV (.ptr 0 0)<|sV (.ptr 0 14)<|sL rfl<|sM rfl<|sM rfl<|sV (.ptr 0 0)<|sV (.ptr 0 0)<|sV (.ptr 0 0)<|sL rfl ?_
   refine sM rfl<|sV (.d (aj.pd (aj.mk x1.1 x7.1 x1.2.2.1)))<|sV (.d (.lst ([(aj.mk x1.1 x7.1 x1.2.2.1)].map aj.pd)))<|bE h fun x10 hx10 h => aR hx10 (fun _ => rfl) rfl<|sV (.ptr 0 0)<|sV (.ptr 0 0)<|sV (.ptr 0 14)<|sS 0 (.var [rI x7.1, rI x7.2.1, rI x7.2.2.1, rI x7.2.2.2.1, rI x7.2.2.2.2.1, .d (.lst (x7.2.2.2.2.2.1.map PD.str)), .d (.lst (x7.2.2.2.2.2.2.1.map aa.pd)), .d (.lst (x7.2.2.2.2.2.2.2.1.map aa.pd)), rI x7.2.2.2.2.2.2.2.2.1, rI x7.2.2.2.2.2.2.2.2.2.1, .d (.lst (x7.2.2.2.2.2.2.2.2.2.2.1.map ac.pd)), rI x7.2.2.2.2.2.2.2.2.2.2.2.1, rI x7.2.2.2.2.2.2.2.2.2.2.2.2.1, .d (.lst (x7.2.2.2.2.2.2.2.2.2.2.2.2.2.1.map ac.pd)), .ref 1 2, .d (.lst (x7.2.2.2.2.2.2.2.2.2.2.2.2.2.2.1.map ae.pd)), .d (.lst (x7.2.2.2.2.2.2.2.2.2.2.2.2.2.2.2.map ae.pd))]) ?_
   refine sN<|sO ?_
   cases oI h
   exact qG
  refine sN<|cF<|qK ?_
  cases oI h
  exact qG
 refine sM rfl<|k3<|k3<|sK<|sU<|sN<|cF<|qK ?_
 cases oI h
 exact qG
theorem iU {a0 : (List UInt8)} {r : Int × Int × Int} (h : cn a0 = some r) : EvP prog au ext 29 [rS a0] [] (.tup [rI r.1, rI r.2.1, rI r.2.2], []) := by
 refine Ev.body rfl Tryz.func29 rfl (by kernel_rfl)<|gS rfl rfl<|sV (r0)<|sV (r0)<|sV (r0)<|sN<|gS rfl rfl<|sM rfl<|bE h fun x1 hx1 h => cR (.tup [rS x1.1, rI x1.2]) [] (f9 hx1)<|sM rfl<|sV (rS x1.1)<|sV (rI x1.2)<|sA rfl<|sA rfl ?_
 refine sN<|qS<|gS rfl rfl<|sM rfl<|sF h (fun h => ?_) fun h => ?_
 ·refine sN<|cT<|gS rfl rfl<|sM rfl<|sV (r0)<|sV (r0)<|sA rfl<|sN<|qR ?_
  cases oI h
  exact qD
 refine sN<|cF<|qK<|gS rfl rfl<|sM rfl<|bE h fun x3 hx3 h => cD (bM hx3)<|sM rfl<|bE h fun x4 hx4 h => cD (bM hx4)<|sA rfl<|sA rfl<|sN<|qS<|gS rfl rfl ?_
 refine sM rfl<|sV (rI (x1.1.length : Int))<|sF h (fun h => ?_) fun h => ?_
 ·refine sM rfl<|k3<|sT<|sM rfl<|sK<|sK<|sT<|sN<|cT<|gS rfl rfl<|sV (r0)<|sV (r0)<|sV (rI 3) ?_
  refine sN<|qR ?_
  cases oI h
  exact qD
 refine sM rfl<|sM rfl<|sM rfl<|sV (rB (decide (x3 > x4)))<|sF h (fun h => ?_) fun h => ?_
 ·refine sM rfl<|sK<|sK<|sT<|sN<|cT<|gS rfl rfl<|sV (r0)<|sV (r0)<|sV (rI 3)<|sN<|qR ?_
  cases oI h
  exact qD
 refine sM rfl<|sM rfl<|sV (rB (decide (x4 > (1073741825 : Int))))<|sF h (fun h => ?_) fun h => ?_
 ·refine sN<|cT<|gS rfl rfl<|sV (r0)<|sV (r0)<|sV (rI 3)<|sN<|qR ?_
  cases oI h
  exact qD
 refine sN<|cF<|qK<|gS rfl rfl<|sM rfl<|sM rfl<|sA rfl<|sA rfl<|sV (r0)<|sN<|qR ?_
 cases oI h
 exact qD
theorem ends_status_ev {a0 : (List UInt8)} {e1 : Int} {e2 : Int} {e3 : Int} {e4 : Int} {e5 : Int} {e6 : (List (List UInt8))} {e7 : (List aa)} {e8 : (List aa)} {e9 : Int} {e10 : Int} {e11 : (List ac)} {e12 : Int} {e13 : Int} {e14 : (List ac)} {e15 : (List ae)} {e16 : (List ae)} {d1 : (List aj)} {r : Int × Int × Int × Int × Int × (List (List UInt8)) × (List aa) × (List aa) × Int × Int × (List ac) × Int × Int × (List ac) × (List ae) × (List ae)} (h : gR a0 e1 e2 e3 e4 e5 e6 e7 e8 e9 e10 e11 e12 e13 e14 e15 e16 d1 = some r) : EvP prog au ext 47 [.ptr 0 0, rS a0] [.var [rI e1, rI e2, rI e3, rI e4, rI e5, .d (.lst (e6.map PD.str)), .d (.lst (e7.map aa.pd)), .d (.lst (e8.map aa.pd)), rI e9, rI e10, .d (.lst (e11.map ac.pd)), rI e12, rI e13, .d (.lst (e14.map ac.pd)), .ref 1 0, .d (.lst (e15.map ae.pd)), .d (.lst (e16.map ae.pd))], .arr 0 50 (d1.map aj.pd)] (.tup [], [.var [rI r.1, rI r.2.1, rI r.2.2.1, rI r.2.2.2.1, rI r.2.2.2.2.1, .d (.lst (r.2.2.2.2.2.1.map PD.str)), .d (.lst (r.2.2.2.2.2.2.1.map aa.pd)), .d (.lst (r.2.2.2.2.2.2.2.1.map aa.pd)), rI r.2.2.2.2.2.2.2.2.1, rI r.2.2.2.2.2.2.2.2.2.1, .d (.lst (r.2.2.2.2.2.2.2.2.2.2.1.map ac.pd)), rI r.2.2.2.2.2.2.2.2.2.2.2.1, rI r.2.2.2.2.2.2.2.2.2.2.2.2.1, .d (.lst (r.2.2.2.2.2.2.2.2.2.2.2.2.2.1.map ac.pd)), .ref 1 0, .d (.lst (r.2.2.2.2.2.2.2.2.2.2.2.2.2.2.1.map ae.pd)), .d (.lst (r.2.2.2.2.2.2.2.2.2.2.2.2.2.2.2.map ae.pd))], .arr 0 50 (d1.map aj.pd)]) := by
 refine Ev.body rfl Tryz.func47 rfl (by kernel_rfl)<|gS rfl rfl<|sM rfl<|bE h fun x1 hx1 h => cR (.tup [rI x1.1, rI x1.2.1, rI x1.2.2]) [] (iU hx1)<|sM rfl<|sV (rI x1.1)<|sV (rI x1.2.1)<|sV (rI x1.2.2)<|sA rfl<|sA rfl<|sA rfl<|sN<|qS<|gS rfl rfl ?_
 refine sM rfl<|sF h (fun h => ?_) fun h => ?_
 ·refine sN<|cT<|qR ?_
  cases oI h
  exact qG
 refine sN<|cF<|qK<|gS rfl rfl<|sM rfl<|sV (.ptr 0 0)<|sV (.ptr 0 0)<|sV (.ptr 0 6)<|sV (.d (ag.pd (ag.mk e7 e8)))<|sM rfl<|bE h fun x3 hx3 h => cR (.tup [.d (ag.pd x3.1), rI x3.2]) [] (iB hx3)<|sM rfl<|sV (.d (ag.pd x3.1))<|sV (rI x3.2) ?_
 refine sB (.ptr 112 0) 112 (.var [.nils, .nils])<|sS 112 (.var [.d (.lst (x3.1.aJ.map aa.pd)), .d (.lst (x3.1.aF.map aa.pd))])<|sA rfl<|sN<|gS rfl rfl<|sM rfl<|sF h (fun h => ?_) fun h => ?_
 ·refine sN<|cT<|gS rfl rfl<|sM rfl<|sV (.d (.agg [.lst (x3.1.aJ.map aa.pd), .lst (x3.1.aF.map aa.pd)]))<|sV (.ptr 0 0)<|sV (.ptr 0 0)<|sV (.ptr 0 6)<|sS 0 (.var [rI e1, rI e2, rI e3, rI e4, rI e5, .d (.lst (e6.map PD.str)), .d (.lst (x3.1.aJ.map aa.pd)), .d (.lst (x3.1.aF.map aa.pd)), rI e9, rI e10, .d (.lst (e11.map ac.pd)), rI e12, rI e13, .d (.lst (e14.map ac.pd)), .ref 1 0, .d (.lst (e15.map ae.pd)), .d (.lst (e16.map ae.pd))])<|sN<|WC.region rfl rfl<|sM rfl<|sM rfl<|bE h fun x5 hx5 h => cR (.tup []) [(0, .var [rI x5.1, rI x5.2.1, rI x5.2.2.1, rI x5.2.2.2.1, rI x5.2.2.2.2.1, .d (.lst (x5.2.2.2.2.2.1.map PD.str)), .d (.lst (x5.2.2.2.2.2.2.1.map aa.pd)), .d (.lst (x5.2.2.2.2.2.2.2.1.map aa.pd)), rI x5.2.2.2.2.2.2.2.2.1, rI x5.2.2.2.2.2.2.2.2.2.1, .d (.lst (x5.2.2.2.2.2.2.2.2.2.2.1.map ac.pd)), rI x5.2.2.2.2.2.2.2.2.2.2.2.1, rI x5.2.2.2.2.2.2.2.2.2.2.2.2.1, .d (.lst (x5.2.2.2.2.2.2.2.2.2.2.2.2.2.1.map ac.pd)), .ref 1 0, .d (.lst (x5.2.2.2.2.2.2.2.2.2.2.2.2.2.2.1.map ae.pd)), .d (.lst (x5.2.2.2.2.2.2.2.2.2.2.2.2.2.2.2.map ae.pd))]), (1, .arr 0 50 (d1.map aj.pd))] (jR hx5) ?_
  refine sN ?_
  cases oI h
  exact qG
 refine sN<|cF<|qK ?_
 cases oI h
 exact qG
theorem jz {d0 : (List aa)} {r : Bool × (List aa)} (h : gV d0 = some r) : EvP prog au ext 99 [.ref 0 0] [.arr 0 55 (d0.map aa.pd)] (rB r.1, [.arr 0 55 (r.2.map aa.pd)]) := by
 refine Ev.body rfl Tryz.func99 rfl (by kernel_rfl)<|gS rfl rfl<|sU<|sN<|qS<|gS rfl rfl<|sM rfl<|WO.lenR rfl rfl rfl rfl rfl rfl rfl rfl rfl<|sV (r0)<|sN<|bE h fun o15 ho15 h => WC.block (WC.loop (WL.ofLoop ho15 (fun s R' B' => ghosts prog 1 (A R' B') (au.at_ 99 1 2) = some (A [(0, .ref 0 0), (5, .ref 0 0), (6, rI (d0.length : Int)), (7, rI s)] [(0, .arr 0 55 (d0.map aa.pd))])) (fun o e R' B' => match o with | .inl y => e = .exit 0 ∧ ghosts prog 1 (A R' B') (au.at_ 99 1 7) = some (A [] [(0, .arr 0 55 (d0.map aa.pd))]) | .inr r => e = .ret ∧ finish prog (au.own 99) Tryz.f99 1 (A R' B') = some (rB r.1, [.arr 0 55 (r.2.map aa.pd)])) rfl ?_ ?_))
 ·rintro s1 R' B' q2 hI h
  refine gS rfl hI<|sF h (fun h => ?_) fun h => ?_
  ·refine sN<|qS<|cT<|qK<|qS<|qB<|gS rfl rfl<|sM rfl<|bE h fun x5 hx5 h => WO.eltG hx5 rfl rfl rfl rfl rfl rfl rfl rfl<|bE h fun x6 hx6 h => WO.loadE hx6 rfl rfl rfl rfl rfl rfl<|sB (.ptr 64 0) 64 (.var [r0, r0])<|sA rfl<|sS 64 (.var [rI x6.aA, rI x6.fTo]) ?_
   refine sN<|WC.regionDSeq rfl rfl<|sV (.d (aa.pd x6))<|bE h fun x7 hx7 h => cD (eX hx7)<|sF h (fun h => ?_) fun h => ?_
   ·refine sM rfl<|k3<|k3<|k3<|k3<|sK<|sT ?_
    refine sN<|sO<|cT<|gS rfl rfl<|sU<|sN<|qR ?_
    cases oI h
    exact ⟨nofun, rfl, rfl⟩
   refine sM rfl<|sM rfl<|sF h (fun h => ?_) fun h => ?_
   ·refine sM rfl<|sV (.ptr 64 0)<|sL rfl<|sM rfl<|sM rfl<|sV (rI (rW (s1 - (1 : Int))))<|bE h fun x11 hx11 h => WO.eltG hx11 rfl rfl rfl rfl rfl rfl rfl rfl<|sV (.elt 0 0 ((rW (s1 - (1 : Int)))).toNat 1)<|bE h fun x12 hx12 h => WO.loadE hx12 rfl rfl rfl rfl rfl rfl<|sV (rB (decide (x6.aA ≤ x12.fTo)))<|sV (rB (decide (x6.aA ≤ x12.fTo)))<|sF h (fun h => ?_) fun h => ?_
    ·refine sN<|sO<|cT<|gS rfl rfl<|sU<|sN<|qR ?_
     cases oI h
     exact ⟨nofun, rfl, rfl⟩
    refine sN<|sO<|cF<|qK<|WC.region rfl rfl<|sV (rI (rW (s1 + (1 : Int))))<|sM rfl<|sN ?_
    cases oI h
    exact ⟨rfl, rfl⟩
   refine sM rfl<|k3<|k3<|k3<|sU<|sU ?_
   refine sN<|sO<|cF<|qK<|WC.region rfl rfl<|sV (rI (rW (s1 + (1 : Int))))<|sM rfl<|sN ?_
   cases oI h
   exact ⟨rfl, rfl⟩
  refine sN<|qS<|cF<|qX ?_
  cases oI h
  exact ⟨nofun, rfl, rfl⟩
 intro e R' B' he hq
 rcases o15 with y16 | r17
 ·obtain ⟨rfl, hI⟩ := hq
  refine qE<|gS rfl hI<|sT<|sN<|qR ?_
  cases oI h
  exact qD
 obtain ⟨rfl, hf⟩ := hq
 cases oI h
 exact hf
theorem kI {a1 : Int} {d0 : (List aa)} {r : Bool × (List aa)} (h : eN a1 d0 = some r) : EvP prog au ext 62 [.ref 0 0, rI a1] [.arr 0 55 (d0.map aa.pd)] (rB r.1, [.arr 0 55 (r.2.map aa.pd)]) := by
 refine Ev.body rfl Tryz.func62 rfl (by kernel_rfl)<|gS rfl rfl<|sU<|sN<|gS rfl rfl<|sM rfl<|bE h fun x1 hx1 h => ite_elim h (fun hb2 h => ?_) (fun hb2 h => ?_)
 ·refine WO.callR (v := rB true) (u := [(0, .arr 0 55 (x1.2.map aa.pd))]) rfl rfl (fun _ => rfl) rfl rfl rfl rfl rfl (jz hx1) rfl rfl (congrArg (fun b => RV.d (.bool b)) hb2) rfl<|sM rfl<|sM rfl<|WO.lenR rfl rfl rfl rfl rfl rfl rfl rfl rfl<|sF h (fun h => ?_) fun h => ?_
  ·refine sM rfl<|k3<|k3<|k3<|k3<|sK<|sK ?_
   refine sK<|sK<|sT<|sT<|sA rfl<|sN<|qR ?_
   cases oI h
   exact qD
  refine sM rfl<|sM rfl<|bE h fun x5 hx5 h => WO.eltG hx5 rfl rfl rfl rfl rfl rfl rfl rfl<|sV (.elt 0 0 ((0 : Int)).toNat 0)<|bE h fun x6 hx6 h => WO.loadE hx6 rfl rfl rfl rfl rfl rfl<|sF h (fun h => ?_) fun h => ?_
  ·refine sM rfl<|sM rfl<|sM rfl<|WO.lenR rfl rfl rfl rfl rfl rfl rfl rfl rfl<|sV (rI (rW ((x1.2.length : Int) - (1 : Int))))<|bE h fun x9 hx9 h => WO.eltG hx9 rfl rfl rfl rfl rfl rfl rfl rfl<|sV (.elt 0 0 ((rW ((x1.2.length : Int) - (1 : Int)))).toNat 1)<|bE h fun x10 hx10 h => WO.loadE hx10 rfl rfl rfl rfl rfl rfl<|sM rfl<|sV (rB (decide (x10.fTo ≤ a1)))<|sV (rB (decide (x10.fTo ≤ a1)))<|sV (rB (decide (x10.fTo ≤ a1)))<|sV (rB (decide (x10.fTo ≤ a1))) ?_
   refine sA rfl<|sN<|qR ?_
   cases oI h
   exact qD
  refine sM rfl<|k3<|k3<|k3<|sU<|sU<|sU<|sA rfl<|sN ?_
  refine qR ?_
  cases oI h
  exact qD
 refine WO.callR (v := rB false) (u := [(0, .arr 0 55 (x1.2.map aa.pd))]) rfl rfl (fun _ => rfl) rfl rfl rfl rfl rfl (jz hx1) rfl rfl (congrArg (fun b => RV.d (.bool b)) hb2) rfl<|sM rfl<|k3<|k3<|k3<|k3<|sK ?_
 refine k3<|k3<|sK<|sK<|sU<|sA rfl<|sN<|qR ?_
 cases oI h
 exact qD
theorem ij {a0 : (List UInt8)} {r : (List aa) × Int} (h : bV a0 = some r) : EvP prog au ext 31 [rS a0] [] (.tup [.d (.lst (r.1.map aa.pd)), rI r.2], []) := by
 refine Ev.body rfl Tryz.func31 rfl (by kernel_rfl)<|gS rfl rfl<|sV .nils<|sV (r0)<|sN<|gS rfl rfl<|sM rfl<|bE h fun x1 hx1 h => cR (.tup [rS x1.1, rI x1.2]) [] (f9 hx1)<|sM rfl<|sV (rS x1.1)<|sV (rI x1.2)<|sA rfl<|sA rfl<|sN ?_
 refine qS<|gS rfl rfl<|sM rfl<|sF h (fun h => ?_) fun h => ?_
 ·refine sN<|cT<|gS rfl rfl<|sM rfl<|sV .nils<|sA rfl<|sN<|qR ?_
  cases oI h
  exact qD
 refine sN<|cF<|qK<|gS rfl rfl<|sM rfl<|sV (rI (x1.1.length : Int))<|bE h fun x3 hx3 h => WO.quoG hx3 rfl rfl rfl rfl rfl rfl<|sA rfl<|sN<|qS<|gS rfl rfl<|sM rfl<|sV (rI (x1.1.length : Int))<|bE h fun x4 hx4 h => ?_
 refine WO.remG hx4 rfl rfl rfl rfl rfl rfl<|sF h (fun h => ?_) fun h => ?_
 ·refine sM rfl<|sK<|sK<|sT<|sN<|cT<|gS rfl rfl<|sV .nils<|sV (rI 3)<|sN<|qR ?_
  cases oI h
  exact qD
 refine sM rfl<|sM rfl<|sV (rB (decide (x3 > (16 : Int))))<|sF h (fun h => ?_) fun h => ?_
 ·refine sN<|cT<|gS rfl rfl<|sV .nils<|sV (rI 3)<|sN<|qR ?_
  cases oI h
  exact qD
 refine sN<|cF<|qK<|gS rfl rfl<|sV .nils<|sN<|qS<|gS rfl rfl<|sM rfl<|sV (r0)<|sN<|bE h fun o16 ho16 h => WC.block (WC.loop (WL.ofLoop ho16 (fun s R' B' => ghosts prog 0 (A R' B') (au.at_ 31 0 9) = some (A [(4, rS x1.1), (7, .ref 704 0), (28, rI x3), (29, rI s.1)] [(704, .arr 0 55 (s.2.map aa.pd))])) (fun o e R' B' => e = .exit 0 ∧ ghosts prog 0 (A R' B') (au.at_ 31 0 13) = some (A [(7, .ref 704 0)] [(704, .arr 0 55 (o.map aa.pd))])) rfl ?_ ?_))
 ·rintro ⟨s7, s8⟩ R' B' q10 hI h
  refine gS rfl hI<|sF h (fun h => ?_) fun h => ?_
  ·refine sN<|qS<|cT<|qK<|qS<|qB<|gS rfl rfl<|sM rfl<|sA rfl<|sN<|WC.region rfl rfl<|sM rfl<|sM rfl<|sM rfl<|sV (rI (rW ((2 : Int) * s7))) ?_
   refine bE h fun x12 hx12 h => cD (bM hx12)<|sM rfl<|sM rfl<|sV (rI (rW ((2 : Int) * s7)))<|sV (rI (rW ((rW ((2 : Int) * s7)) + (1 : Int))))<|bE h fun x13 hx13 h => cD (bM hx13)<|sV (.d (aa.pd (aa.mk x12 x13)))<|sV (.d (.lst ([(aa.mk x12 x13)].map aa.pd)))<|bE h fun x14 hx14 h => aR hx14 (fun _ => rfl) rfl<|sA rfl<|sN<|WC.region rfl rfl ?_
   refine sV (rI (rW (s7 + (1 : Int))))<|sM rfl<|sN ?_
   cases oI h
   exact ⟨rfl, rfl⟩
  refine sN<|qS<|cF<|qX ?_
  cases oI h
  exact ⟨nofun, rfl, rfl⟩
 intro e R' B' he hq
 obtain ⟨rfl, hI⟩ := hq
 refine qE<|qS<|gS rfl hI<|sM rfl<|bE h fun x17 hx17 h => cR (rB x17.1) [(704, .arr 0 55 (x17.2.map aa.pd))] (kI hx17)<|sF h (fun h => ?_) fun h => ?_
 ·refine sN<|cT<|gS rfl rfl<|sV .nils<|sV (rI 3)<|sN<|qR ?_
  cases oI h
  exact qD
 refine sN<|cF<|qK<|gS rfl rfl<|sM rfl<|sA rfl<|sV (r0)<|sN<|qR ?_
 cases oI h
 exact qD
theorem fc {a0 : aa} {d0 : Int} {r : Bool} (h : cK a0 d0 = some r) : EvP prog au ext 113 [.d (aa.pd a0), .ptr 0 0] [.var [rI d0]] (rB r, [.var [rI d0]]) := by
 refine Ev.body rfl Tryz.func113 rfl (by kernel_rfl)<|gS rfl rfl<|sB (.ptr 32 0) 32 (.var [rI a0.aA, rI a0.fTo])<|sU<|sN<|gS rfl rfl<|sV (.ptr 32 0)<|sL rfl<|sL rfl<|sF h (fun h => ?_) fun h => ?_
 ·refine sM rfl<|sL rfl<|sV (.ptr 32 1)<|sL rfl<|sV (rB (decide (d0 < a0.fTo)))<|sV (rB (decide (d0 < a0.fTo)))<|sA rfl<|sN<|qR ?_
  cases oI h
  exact qD
 refine sM rfl<|k3<|sK<|sU<|sA rfl<|sN<|qR ?_
 cases oI h
 exact qD
theorem eY {a0 : (List aa)} {d0 : Int} {r : Int} (h : aX a0 d0 = some r) : EvP prog au ext 124 [.d (.lst (a0.map aa.pd)), .clo 113 [.ptr 0 0]] [.var [rI d0]] (rI r, [.var [rI d0]]) := by
 refine Ev.body rfl Tryz.func124 rfl (by kernel_rfl)<|gS rfl rfl<|sV (r0)<|sN<|qS<|gS rfl rfl<|sM rfl<|sE (rI (a0.length : Int)) (lenMap _ _)<|sV (r0)<|sN<|bE h fun o8 ho8 h => WC.block (WC.loop (WL.ofLoop ho8 (fun s R' B' => ghosts prog 1 (A R' B') (au.at_ 124 1 2) = some (A [(0, .d (.lst (a0.map aa.pd))), (1, .clo 113 [.ptr 0 0]), (7, rI (a0.length : Int)), (8, rI s)] [(0, .var [rI d0])])) (fun o e R' B' => match o with | .inl y => e = .exit 0 ∧ ghosts prog 1 (A R' B') (au.at_ 124 1 7) = some (A [] [(0, .var [rI d0])]) | .inr r => e = .ret ∧ finish prog (au.own 124) Tryz.f124 1 (A R' B') = some (rI r, [.var [rI d0]])) rfl ?_ ?_))
 ·rintro s1 R' B' q2 hI h
  refine gS rfl hI<|sF h (fun h => ?_) fun h => ?_
  ·refine sN<|qS<|cT<|qK<|qS<|qB<|gS rfl rfl<|sM rfl<|sA rfl<|sN<|gS rfl rfl<|sM rfl<|sM rfl<|sM rfl<|bE h fun x4 hx4 h => ?_
   refine eG hx4 rfl<|sV (.d (aa.pd x4))<|bE h fun x5 hx5 h => ite_elim h (fun hb6 h => ?_) (fun hb6 h => ?_)
   ·refine WO.callR (v := rB true) (u := [(0, .var [rI d0])]) rfl rfl (fun _ => rfl) rfl rfl rfl rfl rfl (fc hx5) rfl rfl (congrArg (fun b => RV.d (.bool b)) hb6) rfl<|sN<|cT<|gS rfl rfl<|sM rfl<|sA rfl<|sN<|qR ?_
    cases oI h
    exact ⟨nofun, rfl, rfl⟩
   refine WO.callR (v := rB false) (u := [(0, .var [rI d0])]) rfl rfl (fun _ => rfl) rfl rfl rfl rfl rfl (fc hx5) rfl rfl (congrArg (fun b => RV.d (.bool b)) hb6) rfl<|sN<|cF<|qK<|WC.region rfl rfl<|sV (rI (rW (s1 + (1 : Int))))<|sM rfl<|sN ?_
   cases oI h
   exact ⟨rfl, rfl⟩
  refine sN<|qS<|cF<|qX ?_
  cases oI h
  exact ⟨nofun, rfl, rfl⟩
 intro e R' B' he hq
 rcases o8 with y9 | r10
 ·obtain ⟨rfl, hI⟩ := hq
  refine qE<|gS rfl hI<|sV (rI (-1))<|sN<|qR ?_
  cases oI h
  exact qD
 obtain ⟨rfl, hf⟩ := hq
 cases oI h
 exact hf
theorem bY {a0 : (List aa)} {d0 : Int} {r : Bool} (h : aT a0 d0 = some r) : EvP prog au ext 112 [.d (.lst (a0.map aa.pd)), .clo 113 [.ptr 0 0]] [.var [rI d0]] (rB r, [.var [rI d0]]) := by
 refine Ev.body rfl Tryz.func112 rfl (by kernel_rfl)<|gS rfl rfl<|sU<|sN<|gS rfl rfl<|sM rfl<|sM rfl<|bE h fun x1 hx1 h => cR (rI x1) [(0, .var [rI d0])] (eY hx1)<|sV (rB (decide (x1 ≥ (0 : Int))))<|sA rfl<|sN<|qR ?_
 cases oI h
 exact qD
theorem sender_Answer_ev {a0 : al} {a1 : (List aa)} {a2 : Int} {r : (List Int) × Int} (h : fJ a0 a1 a2 = some r) : EvP prog au ext 84 [.d (al.pd a0), .d (.lst (a1.map aa.pd)), rI a2] [] (.tup [.d (.lst (r.1.map (PD.int .i64))), rI r.2], []) := by
 refine Ev.body rfl Tryz.func84 rfl (by kernel_rfl)<|gS rfl rfl<|sB (.ptr 48 0) 48 (.var [rI a0.aH, rI a0.aC, .d (.lst (a0.aG.map PD.str))])<|sV .nils<|sV (r0)<|sN<|qS<|gS rfl rfl<|sV (.d (al.pd a0))<|bE h fun x1 hx1 h => cD (cQ hx1)<|sF h (fun h => ?_) fun h => ?_
 ·refine sN<|cT<|gS rfl rfl<|sV .nils<|sV (rI 1)<|sN<|qR ?_
  cases oI h
  exact qD
 refine sN<|cF<|qK<|qS<|gS rfl rfl<|sM rfl<|bE h fun x3 hx3 h => cD (eB hx3)<|sF h (fun h => ?_) fun h => ?_
 ·refine sN<|cT<|gS rfl rfl<|sV .nils<|sV (rI 2)<|sN<|qR ?_
  cases oI h
  exact qD
 refine sN<|cF<|qK<|gS rfl rfl<|sV .nils<|sN<|qS<|gS rfl rfl<|sV (.ptr 48 1)<|sL rfl<|sB (.ptr 144 0) 144 (.var [r0])<|sS 144 (.var [rI a0.aC])<|sN<|bE h fun o16 ho16 h => WC.block (WC.loop (WL.ofLoop ho16 (fun s R' B' => ghosts prog 0 (A R' B') (au.at_ 84 0 7) = some (A [(1, .d (.lst (a1.map aa.pd))), (2, rI a2), (3, .ptr 48 0), (8, .ref 576 0), (9, .ptr 144 0)] [(48, .var [rI a0.aH, rI a0.aC, .d (.lst (a0.aG.map PD.str))]), (144, .var [rI s.2]), (576, .arr 0 3 (s.1.map (PD.int .i64)))])) (fun o e R' B' => e = .exit 0 ∧ ghosts prog 0 (A R' B') (au.at_ 84 0 13) = some (A [(8, .ref 576 0)] [(576, .arr 0 3 (o.map (PD.int .i64)))])) rfl ?_ ?_))
 ·rintro ⟨s5, s6⟩ R' B' q8 hI h
  unfold db at h
  refine qS<|WC.regionDSeq hI rfl<|sL rfl<|sV (.d (al.pd a0))<|bE h fun x9 hx9 h => cD (bG hx9)<|sF h (fun h => ?_) fun h => ?_
  ·refine sM rfl<|sM rfl<|WO.lenR rfl rfl rfl rfl rfl rfl rfl rfl rfl<|sM rfl<|sV (rB (decide ((s5.length : Int) < a2)))<|sF h (fun h => ?_) fun h => ?_
   ·refine sN<|sO<|cT<|qK<|qS<|qB<|gS rfl rfl<|sM rfl<|sV (.clo 113 [.ptr 144 0])<|bE h fun x12 hx12 h => ite_elim h (fun hb13 h => ?_) (fun hb13 h => ?_)
    ·refine WO.callR (v := rB true) (u := [(144, .var [rI s6])]) rfl rfl (fun _ => rfl) rfl rfl rfl rfl rfl (bY hx12) rfl rfl (congrArg (fun b => RV.d (.bool b)) hb13) rfl<|sN<|cT<|WC.region rfl rfl<|sM rfl<|sL rfl<|sV (.d (.lst ([s6].map (PD.int .i64))))<|bE h fun x14 hx14 h => aR hx14 (fun _ => rfl) rfl<|sA rfl<|sN<|qS<|gS rfl rfl<|sL rfl<|sN ?_
     refine WC.region (R0 := [(1, .d (.lst (a1.map aa.pd))), (2, rI a2), (3, .ptr 48 0), (8, .ref 576 0), (37, rI s6)]) (B0 := [(48, .var [rI a0.aH, rI a0.aC, .d (.lst (a0.aG.map PD.str))]), (576, .arr 0 3 (x14.map (PD.int .i64)))]) rfl rfl<|sB (.ptr 144 0) 144 (.var [r0])<|sS 144 (.var [rI s6])<|sN<|WC.region rfl rfl<|sL rfl<|sV (rI (rW (s6 + (1 : Int))))<|sS 144 (.var [rI (rW (s6 + (1 : Int)))])<|sN ?_
     cases oI h
     exact ⟨rfl, rfl⟩
    refine WO.callR (v := rB false) (u := [(144, .var [rI s6])]) rfl rfl (fun _ => rfl) rfl rfl rfl rfl rfl (bY hx12) rfl rfl (congrArg (fun b => RV.d (.bool b)) hb13) rfl<|sN<|cF<|qK<|qS<|gS rfl rfl<|sL rfl<|sN<|WC.region (R0 := [(1, .d (.lst (a1.map aa.pd))), (2, rI a2), (3, .ptr 48 0), (8, .ref 576 0), (37, rI s6)]) (B0 := [(48, .var [rI a0.aH, rI a0.aC, .d (.lst (a0.aG.map PD.str))]), (576, .arr 0 3 (s5.map (PD.int .i64)))]) rfl rfl<|sB (.ptr 144 0) 144 (.var [r0])<|sS 144 (.var [rI s6])<|sN<|WC.region rfl rfl<|sL rfl<|sV (rI (rW (s6 + (1 : Int)))) ?_
    refine sS 144 (.var [rI (rW (s6 + (1 : Int)))])<|sN ?_
    cases oI h
    exact ⟨rfl, rfl⟩
   refine sN<|sO<|cF<|qX ?_
   cases oI h
   exact ⟨nofun, rfl, rfl⟩
  refine sM rfl<|k3<|sK<|sU ?_
  refine sN<|sO<|cF<|qX ?_
  cases oI h
  exact ⟨nofun, rfl, rfl⟩
 intro e R' B' he hq
 obtain ⟨rfl, hI⟩ := hq
 refine qE<|gS rfl hI<|sM rfl<|sA rfl<|sV (r0)<|sN<|qR ?_
 cases oI h
 exact qD
theorem sender_Get_ev {a0 : al} {a1 : Int} {r : (List UInt8) × Bool} (h : iQ a0 a1 = some r) : EvP prog au ext 85 [.d (al.pd a0), rI a1] [] (.tup [rS r.1, rB r.2], []) := by
 refine Ev.body rfl Tryz.func85 rfl (by kernel_rfl)<|gS rfl rfl<|sB (.ptr 32 0) 32 (.var [rI a0.aH, rI a0.aC, .d (.lst (a0.aG.map PD.str))])<|sV (rS [])<|sU<|sN<|qS<|WC.regionDSeq rfl rfl<|sV (.d (al.pd a0))<|bE h fun x1 hx1 h => cD (cQ hx1)<|sF h (fun h => ?_) fun h => ?_
 ·refine sM rfl<|k3<|k3<|sK<|sK<|sT ?_
  refine sN<|sO<|cT<|gS rfl rfl<|sV (rS [])<|sU<|sN<|qR ?_
  cases oI h
  exact qD
 refine sM rfl<|sM rfl<|sV (.ptr 32 1)<|sL rfl<|sV (.d (al.pd a0))<|bE h fun x3 hx3 h => cD (bG hx3)<|sV (rI (rW (x3 - (1 : Int))))<|bE h fun x4 hx4 h => cD (eB hx4)<|sV (rB (!x4))<|sF h (fun h => ?_) fun h => ?_
 ·refine sN<|sO<|cT<|gS rfl rfl<|sV (rS [])<|sU<|sN<|qR ?_
  cases oI h
  exact qD
 refine sN<|sO<|cF<|qK<|gS rfl rfl<|sV (.ptr 32 2)<|sL rfl<|sM rfl<|sV (.ptr 32 1)<|sL rfl<|sV (rI (rW (a1 - a0.aC)))<|bE h fun x6 hx6 h => eG hx6 rfl<|sC rfl<|sA rfl<|sT ?_
 refine sN<|qR ?_
 cases oI h
 exact qD
theorem i7 {a0 : (List ae)} {r : ae × (List ae)} (h : eK a0 = some r) : EvP prog au ext 114 [.d (.lst (a0.map ae.pd))] [] (.tup [.d (ae.pd r.1), .d (.lst (r.2.map ae.pd))], []) := by
 refine Ev.body rfl Tryz.func114 rfl (by kernel_rfl)<|gS rfl rfl<|sB (.ptr 32 0) 32 (.var [rB false, r0, r0])<|sV .nils<|sN<|qS<|gS rfl rfl<|sM rfl<|sE (rI (a0.length : Int)) (lenMap _ _)<|sF h (fun h => ?_) fun h => ?_
 ·refine sN<|cT<|gS rfl rfl<|sV (.d (ae.pd (ae.mk false 0 0)))<|sS 32 (.var [rB false, r0, r0])<|sV .nils<|sN<|qR ?_
  cases oI h
  exact qD
 refine sN<|cF<|qK<|WC.regionDSeq rfl rfl<|sM rfl<|bE h fun x2 hx2 h => eG hx2 rfl<|sV (.d (ae.pd x2))<|sM rfl<|bE h fun x3 hx3 h => WO.cutL (sz := 3) (g := ae.pd) hx3 (fun _ => rfl) rfl rfl rfl rfl rfl rfl rfl rfl rfl rfl rfl<|sS 32 (.var [rB x2.i4, rI x2.bT, rI x2.cm])<|sA rfl ?_
 refine sN<|sO<|qR ?_
 cases oI h
 exact qD
theorem kx {a0 : (List UInt8)} {e1 : Int} {e2 : Int} {e3 : Int} {e4 : Int} {e5 : Int} {e6 : (List (List UInt8))} {e7 : (List aa)} {e8 : (List aa)} {e9 : Int} {e10 : Int} {e11 : (List ac)} {e12 : Int} {e13 : Int} {e14 : (List ac)} {e15 : (List ae)} {e16 : (List ae)} {d1 : (List aj)} {r : Int × Int × Int × Int × Int × (List (List UInt8)) × (List aa) × (List aa) × Int × Int × (List ac) × Int × Int × (List ac) × (List ae) × (List ae)} (h : iz a0 e1 e2 e3 e4 e5 e6 e7 e8 e9 e10 e11 e12 e13 e14 e15 e16 d1 = some r) : EvP prog au ext 86 [.ptr 0 0, rS a0] [.var [rI e1, rI e2, rI e3, rI e4, rI e5, .d (.lst (e6.map PD.str)), .d (.lst (e7.map aa.pd)), .d (.lst (e8.map aa.pd)), rI e9, rI e10, .d (.lst (e11.map ac.pd)), rI e12, rI e13, .d (.lst (e14.map ac.pd)), .ref 1 0, .d (.lst (e15.map ae.pd)), .d (.lst (e16.map ae.pd))], .arr 0 50 (d1.map aj.pd)] (.tup [], [.var [rI r.1, rI r.2.1, rI r.2.2.1, rI r.2.2.2.1, rI r.2.2.2.2.1, .d (.lst (r.2.2.2.2.2.1.map PD.str)), .d (.lst (r.2.2.2.2.2.2.1.map aa.pd)), .d (.lst (r.2.2.2.2.2.2.2.1.map aa.pd)), rI r.2.2.2.2.2.2.2.2.1, rI r.2.2.2.2.2.2.2.2.2.1, .d (.lst (r.2.2.2.2.2.2.2.2.2.2.1.map ac.pd)), rI r.2.2.2.2.2.2.2.2.2.2.2.1, rI r.2.2.2.2.2.2.2.2.2.2.2.2.1, .d (.lst (r.2.2.2.2.2.2.2.2.2.2.2.2.2.1.map ac.pd)), .ref 1 0, .d (.lst (r.2.2.2.2.2.2.2.2.2.2.2.2.2.2.1.map ae.pd)), .d (.lst (r.2.2.2.2.2.2.2.2.2.2.2.2.2.2.2.map ae.pd))], .arr 0 50 (d1.map aj.pd)]) := by
 refine Ev.body rfl Tryz.func86 rfl (by kernel_rfl)<|gS rfl rfl<|sM rfl<|sV (.ptr 0 0)<|sV (.ptr 0 15)<|sL rfl<|bE h fun x1 hx1 h => cR (.tup [.d (ae.pd x1.1), .d (.lst (x1.2.map ae.pd))]) [] (i7 hx1)<|sM rfl<|sV (.d (ae.pd x1.1))<|sV (.d (.lst (x1.2.map ae.pd)))<|sB (.ptr 64 0) 64 (.var [rB false, r0, r0])<|sS 64 (.var [rB x1.1.i4, rI x1.1.bT, rI x1.1.cm])<|sA rfl<|sN ?_
 refine gS rfl rfl<|sM rfl<|sM rfl<|sV (.ptr 0 0)<|sV (.ptr 0 15)<|sS 0 (.var [rI e1, rI e2, rI e3, rI e4, rI e5, .d (.lst (e6.map PD.str)), .d (.lst (e7.map aa.pd)), .d (.lst (e8.map aa.pd)), rI e9, rI e10, .d (.lst (e11.map ac.pd)), rI e12, rI e13, .d (.lst (e14.map ac.pd)), .ref 1 0, .d (.lst (x1.2.map ae.pd)), .d (.lst (e16.map ae.pd))])<|sN<|WC.regionDSeq rfl rfl<|sM rfl<|sV (.ptr 0 0)<|sV (.ptr 0 0)<|sV (.ptr 0 8)<|sV (.d (ai.pd (ai.mk e9 e10 e11)))<|sM rfl<|sV (.d (ae.pd x1.1)) ?_
 refine bE h fun x2 hx2 h => cR (.tup [.d (ai.pd x2.1), rI x2.2]) [] (iO hx2)<|sM rfl<|sV (.d (ai.pd x2.1))<|sV (rI x2.2)<|sB (.ptr 96 0) 96 (.var [r0, r0, .nils])<|sS 96 (.var [rI x2.1.az, rI x2.1.aq, .d (.lst (x2.1.av.map ac.pd))])<|sA rfl ?_
 refine sN<|sO<|gS rfl rfl<|sM rfl<|sF h (fun h => ?_) fun h => ?_
 ·refine sN<|cT<|WC.region rfl rfl<|sM rfl<|sV (.d (.agg [.int .i64 x2.1.az, .int .i64 x2.1.aq, .lst (x2.1.av.map ac.pd)]))<|sV (.ptr 0 0)<|sV (.ptr 0 0)<|sV (.ptr 0 8)<|sS 0 (.var [rI e1, rI e2, rI e3, rI e4, rI e5, .d (.lst (e6.map PD.str)), .d (.lst (e7.map aa.pd)), .d (.lst (e8.map aa.pd)), rI x2.1.az, rI x2.1.aq, .d (.lst (x2.1.av.map ac.pd)), rI e12, rI e13, .d (.lst (e14.map ac.pd)), .ref 1 0, .d (.lst (x1.2.map ae.pd)), .d (.lst (e16.map ae.pd))])<|sN ?_
  cases oI h
  exact qG
 refine sN<|cF<|qK ?_
 cases oI h
 exact qG
theorem ends_repeat_ev {a0 : (List UInt8)} {e1 : Int} {e2 : Int} {e3 : Int} {e4 : Int} {e5 : Int} {e6 : (List (List UInt8))} {e7 : (List aa)} {e8 : (List aa)} {e9 : Int} {e10 : Int} {e11 : (List ac)} {e12 : Int} {e13 : Int} {e14 : (List ac)} {e15 : (List ae)} {e16 : (List ae)} {d1 : (List aj)} {r : Int × Int × Int × Int × Int × (List (List UInt8)) × (List aa) × (List aa) × Int × Int × (List ac) × Int × Int × (List ac) × (List ae) × (List ae)} (h : gP a0 e1 e2 e3 e4 e5 e6 e7 e8 e9 e10 e11 e12 e13 e14 e15 e16 d1 = some r) : EvP prog au ext 48 [.ptr 0 0, rS a0] [.var [rI e1, rI e2, rI e3, rI e4, rI e5, .d (.lst (e6.map PD.str)), .d (.lst (e7.map aa.pd)), .d (.lst (e8.map aa.pd)), rI e9, rI e10, .d (.lst (e11.map ac.pd)), rI e12, rI e13, .d (.lst (e14.map ac.pd)), .ref 1 0, .d (.lst (e15.map ae.pd)), .d (.lst (e16.map ae.pd))], .arr 0 50 (d1.map aj.pd)] (.tup [], [.var [rI r.1, rI r.2.1, rI r.2.2.1, rI r.2.2.2.1, rI r.2.2.2.2.1, .d (.lst (r.2.2.2.2.2.1.map PD.str)), .d (.lst (r.2.2.2.2.2.2.1.map aa.pd)), .d (.lst (r.2.2.2.2.2.2.2.1.map aa.pd)), rI r.2.2.2.2.2.2.2.2.1, rI r.2.2.2.2.2.2.2.2.2.1, .d (.lst (r.2.2.2.2.2.2.2.2.2.2.1.map ac.pd)), rI r.2.2.2.2.2.2.2.2.2.2.2.1, rI r.2.2.2.2.2.2.2.2.2.2.2.2.1, .d (.lst (r.2.2.2.2.2.2.2.2.2.2.2.2.2.1.map ac.pd)), .ref 1 0, .d (.lst (r.2.2.2.2.2.2.2.2.2.2.2.2.2.2.1.map ae.pd)), .d (.lst (r.2.2.2.2.2.2.2.2.2.2.2.2.2.2.2.map ae.pd))], .arr 0 50 (d1.map aj.pd)]) := by
 refine Ev.body rfl Tryz.func48 rfl (by kernel_rfl)<|gS rfl rfl<|sM rfl<|bE h fun x1 hx1 h => cR (.tup [.d (.lst (x1.1.map aa.pd)), rI x1.2]) [] (ij hx1)<|sM rfl<|sV (.d (.lst (x1.1.map aa.pd)))<|sV (rI x1.2)<|sA rfl<|sA rfl<|sN<|qS<|gS rfl rfl<|sM rfl<|sF h (fun h => ?_) fun h => ?_
 ·refine sN<|cT<|qR ?_
  cases oI h
  exact qG
 refine sN<|cF<|qK<|gS rfl rfl<|sM rfl<|sV (.ptr 0 0)<|sV (.ptr 0 0)<|sV (.ptr 0 3)<|sV (.d (al.pd (al.mk e4 e5 e6)))<|sM rfl<|bE h fun x3 hx3 h => cR (.tup [.d (.lst (x3.1.map (PD.int .i64))), rI x3.2]) [] (sender_Answer_ev hx3)<|sM rfl<|sV (.d (.lst (x3.1.map (PD.int .i64))))<|sV (rI x3.2) ?_
 refine sA rfl<|sA rfl<|sN<|gS rfl rfl<|sM rfl<|sE (rI (x3.1.length : Int)) (lenMap _ _)<|sV (r0)<|sN<|bE h fun o30 ho30 h => ?_
 cases oI h
 refine WC.block (WC.loop (WL.ofLoopEnd ho30 (fun s R' B' => ghosts prog 2 (A R' B') (au.at_ 48 2 4) = some (A [(0, .ptr 0 0), (31, .d (.lst (x3.1.map (PD.int .i64)))), (32, rI (x3.1.length : Int)), (33, rI s.1)] [(0, .var [rI s.2.1, rI s.2.2.1, rI s.2.2.2.1, rI s.2.2.2.2.1, rI s.2.2.2.2.2.1, .d (.lst (s.2.2.2.2.2.2.1.map PD.str)), .d (.lst (s.2.2.2.2.2.2.2.1.map aa.pd)), .d (.lst (s.2.2.2.2.2.2.2.2.1.map aa.pd)), rI s.2.2.2.2.2.2.2.2.2.1, rI s.2.2.2.2.2.2.2.2.2.2.1, .d (.lst (s.2.2.2.2.2.2.2.2.2.2.2.1.map ac.pd)), rI s.2.2.2.2.2.2.2.2.2.2.2.2.1, rI s.2.2.2.2.2.2.2.2.2.2.2.2.2.1, .d (.lst (s.2.2.2.2.2.2.2.2.2.2.2.2.2.2.1.map ac.pd)), .ref 1 0, .d (.lst (s.2.2.2.2.2.2.2.2.2.2.2.2.2.2.2.1.map ae.pd)), .d (.lst (s.2.2.2.2.2.2.2.2.2.2.2.2.2.2.2.2.map ae.pd))]), (1, .arr 0 50 (d1.map aj.pd))])) rfl ?_))
 rintro ⟨s4, s5, s6, s7, s8, s9, s10, s11, s12, s13, s14, s15, s16, s17, s18, s19, s20⟩ R' B' q21 hI h
 refine gS rfl hI<|sF h (fun h => ?_) fun h => ?_
 ·refine sN<|qS<|cT<|qK<|qS<|qB<|gS rfl rfl<|bE h fun x23 hx23 h => eG hx23 rfl<|sC rfl<|sA rfl<|sN<|gS rfl rfl<|sM rfl<|sV (.ptr 0 0) ?_
  refine sV (.ptr 0 0)<|sV (.ptr 0 3)<|sV (.d (al.pd (al.mk s8 s9 s10)))<|sM rfl<|bE h fun x24 hx24 h => cR (.tup [rS x24.1, rB x24.2]) [] (sender_Get_ev hx24)<|sM rfl<|sV (rS x24.1)<|sV (rB x24.2)<|sA rfl<|sA rfl<|sN<|gS rfl rfl<|sM rfl<|sM rfl ?_
  refine sV (.ptr 0 0)<|sV (.ptr 0 0)<|sV (.ptr 0 3)<|sV (.ptr 0 4)<|sL rfl<|sM rfl<|bE h fun x25 hx25 h => cR (.tup [rS x25.1, rI x25.2]) [] (i5 hx25)<|sM rfl<|sV (rS x25.1)<|sV (rI x25.2)<|sA rfl<|sA rfl<|sN<|gS rfl rfl ?_
  refine sM rfl<|sF h (fun h => ?_) fun h => ?_
  ·refine sN<|cT<|WC.region rfl rfl<|sM rfl<|sM rfl<|bE h fun x27 hx27 h => cR (.tup []) [(0, .var [rI x27.1, rI x27.2.1, rI x27.2.2.1, rI x27.2.2.2.1, rI x27.2.2.2.2.1, .d (.lst (x27.2.2.2.2.2.1.map PD.str)), .d (.lst (x27.2.2.2.2.2.2.1.map aa.pd)), .d (.lst (x27.2.2.2.2.2.2.2.1.map aa.pd)), rI x27.2.2.2.2.2.2.2.2.1, rI x27.2.2.2.2.2.2.2.2.2.1, .d (.lst (x27.2.2.2.2.2.2.2.2.2.2.1.map ac.pd)), rI x27.2.2.2.2.2.2.2.2.2.2.2.1, rI x27.2.2.2.2.2.2.2.2.2.2.2.2.1, .d (.lst (x27.2.2.2.2.2.2.2.2.2.2.2.2.2.1.map ac.pd)), .ref 1 0, .d (.lst (x27.2.2.2.2.2.2.2.2.2.2.2.2.2.2.1.map ae.pd)), .d (.lst (x27.2.2.2.2.2.2.2.2.2.2.2.2.2.2.2.map ae.pd))]), (1, .arr 0 50 (d1.map aj.pd))] (kx hx27)<|sN<|WC.region rfl rfl<|sV (rI (rW (s4 + (1 : Int))))<|sM rfl<|sN ?_
   cases oI h
   exact ⟨rfl, rfl⟩
  refine sN<|cF<|qK<|WC.region rfl rfl<|sV (rI (rW (s4 + (1 : Int))))<|sM rfl<|sN ?_
  cases oI h
  exact ⟨rfl, rfl⟩
 refine sN<|qS<|cF<|qX<|bind_elim h (fun z28 hkz28 hz => ?_)
 obtain rfl := Option.some.inj hz
 refine ⟨(fun he => by cases he), fun hz2 => ?_⟩
 subst hz2
 have h := hkz28
 refine qE ?_
 cases oI h
 exact qG
theorem kG {a0 : al} {r : (List UInt8) × Int} (h : eH a0 = some r) : EvP prog au ext 21 [.d (al.pd a0)] [] (.tup [rS r.1, rI r.2], []) := by
 refine Ev.body rfl Tryz.func21 rfl (by kernel_rfl)<|gS rfl rfl<|sB (.ptr 16 0) 16 (.var [rI a0.aH, rI a0.aC, .d (.lst (a0.aG.map PD.str))])<|sV (rS [])<|sV (r0)<|sN<|qS<|gS rfl rfl<|sV (.d (al.pd a0))<|bE h fun x1 hx1 h => cD (cQ hx1)<|sF h (fun h => ?_) fun h => ?_
 ·refine sN<|cT<|gS rfl rfl<|sV (rS [])<|sV (rI 1)<|sN<|qR ?_
  cases oI h
  exact qD
 refine sN<|cF<|qK<|WC.regionDSeq rfl rfl<|sV (.ptr 16 1)<|sL rfl<|sV (.d (al.pd a0))<|bE h fun x3 hx3 h => cD (bG hx3)<|sV (.d (.lst ([a0.aC, x3].map (PD.int .i64))))<|bE h fun x4 hx4 h => cD (d6 hx4)<|bE h fun x5 hx5 h => cD (fF hx5)<|sA rfl ?_
 refine sV (r0) ?_
 refine sN<|sO<|qR ?_
 cases oI h
 exact qD
theorem receiver_High_ev {a0 : ag} {r : Int} (h : fI a0 = some r) : EvP prog au ext 91 [.d (ag.pd a0)] [] (rI r, []) := by
 refine Ev.body rfl Tryz.func91 rfl (by kernel_rfl)<|gS rfl rfl<|sB (.ptr 16 0) 16 (.var [.d (.lst (a0.aJ.map aa.pd)), .d (.lst (a0.aF.map aa.pd))])<|sV (r0)<|sN<|qS<|gS rfl rfl<|sV (.d (ag.pd a0))<|bE h fun x1 hx1 h => cD (cd hx1)<|sF h (fun h => ?_) fun h => ?_
 ·refine sN<|cT<|gS rfl rfl<|sV (r0)<|sN<|qR ?_
  cases oI h
  exact qD
 refine sN<|cF<|qK<|gS rfl rfl<|sV (r0)<|sN<|qS<|gS rfl rfl<|sV (.ptr 16 0)<|sL rfl<|sV (.ptr 16 1)<|sL rfl<|sV (.d (.lst ([a0.aJ, a0.aF].map (fun l => PD.lst (l.map aa.pd)))))<|sV (rI 2)<|sV (r0) ?_
 refine sN<|WC.block (WC.loop ?_)
 refine WL.round<|WC.regionSeq (R0 := [(3, r0), (13, .d (.lst ([a0.aJ, a0.aF].map (fun l => PD.lst (l.map aa.pd))))), (14, rI 2), (15, r0)]) (B0 := []) rfl rfl<|sT<|sN<|qS<|cT<|qK<|WC.join (α := Int) (fun x R' B' => ghosts prog 0 (A R' B') (au.at_ 91 0 9) = some (A [(3, rI x), (13, .d (.lst ([a0.aJ, a0.aF].map (fun l => PD.lst (l.map aa.pd))))), (14, rI 2), (15, r0)] [])) (fun x => cq a0 x = some r) ?_ ?_
 ·refine qB<|gS rfl rfl<|sV (.cptr [.lst (a0.aJ.map aa.pd)])<|sC rfl<|sA rfl<|sN<|gS rfl rfl<|sM rfl<|sE (rI (a0.aJ.length : Int)) (lenMap _ _)<|sF h (fun h => ?_) fun h => ?_
  ·refine sN<|cT<|WC.region rfl rfl<|sM rfl<|sM rfl<|sM rfl<|sE (rI (a0.aJ.length : Int)) (lenMap _ _)<|sV (rI (rW ((a0.aJ.length : Int) - (1 : Int))))<|bE h fun x10 hx10 h => eG hx10 rfl<|sV (.cptr [.int .i64 x10.fTo])<|sC rfl<|sV (rI (if x10.fTo > (0 : Int) then x10.fTo else (0 : Int)))<|sA rfl<|sN ?_
   exact ⟨(if x10.fTo > (0 : Int) then x10.fTo else (0 : Int)), rfl, h⟩
  exact sN<|cF<|qK<|⟨0, rfl, h⟩
 rintro j3 R' B' hI h
 refine WC.region hI rfl<|sV (rI 1)<|sM rfl<|sN<|WL.round<|WC.regionSeq (R0 := [(3, rI j3), (13, .d (.lst ([a0.aJ, a0.aF].map (fun l => PD.lst (l.map aa.pd))))), (14, rI 2), (15, rI 1)]) (B0 := []) rfl rfl<|sT<|sN<|qS<|cT<|qK<|WC.join (α := Int) (fun x R' B' => ghosts prog 0 (A R' B') (au.at_ 91 0 9) = some (A [(3, rI x), (13, .d (.lst ([a0.aJ, a0.aF].map (fun l => PD.lst (l.map aa.pd))))), (14, rI 2), (15, rI 1)] [])) (fun x => cp x = some r) ?_ ?_
 ·refine qB<|gS rfl rfl<|sV (.cptr [.lst (a0.aF.map aa.pd)])<|sC rfl<|sA rfl<|sN<|gS rfl rfl<|sM rfl<|sE (rI (a0.aF.length : Int)) (lenMap _ _)<|sF h (fun h => ?_) fun h => ?_
  ·refine sN<|cT<|WC.region rfl rfl<|sM rfl<|sM rfl<|sM rfl<|sE (rI (a0.aF.length : Int)) (lenMap _ _)<|sV (rI (rW ((a0.aF.length : Int) - (1 : Int))))<|bE h fun x7 hx7 h => eG hx7 rfl<|sV (.cptr [.int .i64 x7.fTo])<|sC rfl<|sV (rI (if x7.fTo > j3 then x7.fTo else j3))<|sA rfl<|sN ?_
   exact ⟨(if x7.fTo > j3 then x7.fTo else j3), rfl, h⟩
  exact sN<|cF<|qK<|⟨j3, rfl, h⟩
 rintro j4 R' B' hI h
 refine WC.region hI rfl<|sV (rI 2)<|sM rfl<|sN<|WL.round<|WC.regionSeq (R0 := [(3, rI j4), (13, .d (.lst ([a0.aJ, a0.aF].map (fun l => PD.lst (l.map aa.pd))))), (14, rI 2), (15, rI 2)]) (B0 := []) rfl rfl<|sU<|sN<|qS<|cF<|qX<|qE<|gS rfl rfl<|sM rfl<|sA rfl ?_
 refine sN<|qR ?_
 cases oI h
 exact qD
theorem kE {a0 : ag} {r : (List aa)} (h : ey a0 = some r) : EvP prog au ext 92 [.d (ag.pd a0)] [] (.d (.lst (r.map aa.pd)), []) := by
 refine Ev.body rfl Tryz.func92 rfl (by kernel_rfl)<|gS rfl rfl<|sB (.ptr 16 0) 16 (.var [.d (.lst (a0.aJ.map aa.pd)), .d (.lst (a0.aF.map aa.pd))])<|sV .nils<|sN<|gS rfl rfl<|sV (.ptr 16 0)<|sL rfl<|sV (.ptr 16 1)<|sL rfl<|bE h fun x1 hx1 h => cD (ir hx1)<|sA rfl<|sN<|qR ?_
 cases oI h
 exact qD
theorem gg {a0 : ag} {a1 : Int} {r : (List aa) × Int} (h : cr a0 a1 = some r) : EvP prog au ext 50 [.d (ag.pd a0), rI a1] [] (.tup [.d (.lst (r.1.map aa.pd)), rI r.2], []) := by
 refine Ev.body rfl Tryz.func50 rfl (by kernel_rfl)<|gS rfl rfl<|sB (.ptr 32 0) 32 (.var [.d (.lst (a0.aJ.map aa.pd)), .d (.lst (a0.aF.map aa.pd))])<|sV .nils<|sV (r0)<|sN<|qS<|gS rfl rfl<|sV (.d (ag.pd a0))<|bE h fun x1 hx1 h => cD (cd hx1)<|sF h (fun h => ?_) fun h => ?_
 ·refine sN<|cT<|gS rfl rfl<|sV .nils<|sV (rI 1)<|sN<|qR ?_
  cases oI h
  exact qD
 refine sN<|cF<|qK<|qS<|gS rfl rfl<|sM rfl<|bE h fun x3 hx3 h => cD (ew hx3)<|sF h (fun h => ?_) fun h => ?_
 ·refine sN<|cT<|gS rfl rfl<|sV .nils<|sV (rI 2)<|sN<|qR ?_
  cases oI h
  exact qD
 refine sN<|cF<|qK<|WC.regionDSeq rfl rfl<|sM rfl<|sV (.d (ag.pd a0))<|bE h fun x5 hx5 h => cD (receiver_High_ev hx5)<|sV (rI (if x5 > a1 then x5 else a1))<|sV (.d (aa.pd (aa.mk 0 (if x5 > a1 then x5 else a1))))<|sV (.d (.lst ([(aa.mk 0 (if x5 > a1 then x5 else a1))].map aa.pd)))<|sV (.d (ag.pd a0))<|bE h fun x6 hx6 h => cD (kE hx6)<|bE h fun x7 hx7 h => ?_
 refine cD (ip hx7)<|sA rfl<|sV (r0) ?_
 refine sN<|sO<|qR ?_
 cases oI h
 exact qD
theorem span_First_ev {a0 : (List aa)} {a1 : Int} {r : (List aa)} (h : iX a0 a1 = some r) : EvP prog au ext 115 [.d (.lst (a0.map aa.pd)), rI a1] [] (.d (.lst (r.map aa.pd)), []) := by
 refine Ev.body rfl Tryz.func115 rfl (by kernel_rfl)<|gS rfl rfl<|sV .nils<|sN<|gS rfl rfl<|sV .nils<|sN<|qS<|gS rfl rfl<|sM rfl<|bE h fun x1 hx1 h => cD (cB hx1)<|sE (rI (x1.length : Int)) (lenMap _ _)<|sV (r0)<|sN ?_
 refine bE h fun o14 ho14 h => WC.block (WC.loop (WL.ofLoop ho14 (fun s R' B' => ghosts prog 0 (A R' B') (au.at_ 115 0 3) = some (A [(1, rI s.1), (5, .ref 656 0), (10, .d (.lst (x1.map aa.pd))), (11, rI (x1.length : Int)), (12, rI s.2.1)] [(656, .arr 0 55 (s.2.2.map aa.pd))])) (fun o e R' B' => e = .exit 0 ∧ ghosts prog 0 (A R' B') (au.at_ 115 0 12) = some (A [(5, .ref 656 0)] [(656, .arr 0 55 (o.map aa.pd))])) rfl ?_ ?_))
 ·rintro ⟨s2, s3, s4⟩ R' B' q6 hI h
  refine gS rfl hI<|sF h (fun h => ?_) fun h => ?_
  ·refine sN<|qS<|cT<|qK<|qS<|qB<|gS rfl rfl<|bE h fun x8 hx8 h => eG hx8 rfl<|sV (.d (aa.pd x8))<|sB (.ptr 112 0) 112 (.var [r0, r0])<|sS 112 (.var [rI x8.aA, rI x8.fTo])<|sN<|qS<|gS rfl rfl ?_
   refine sM rfl<|sF h (fun h => ?_) fun h => ?_
   ·refine sN<|cT<|qX<|⟨fun he => (by cases he), fun _ => ?_⟩
    cases oI h
    exact ⟨nofun, rfl, rfl⟩
   refine sN<|cF<|qK<|qS<|gS rfl rfl<|sV (.ptr 112 1)<|sL rfl<|sV (.d (.int .u64 (IntKind.wrap .u64 x8.fTo)))<|sV (.ptr 112 0)<|sL rfl<|sV (.d (.int .u64 (IntKind.wrap .u64 x8.aA)))<|sV (.d (.int .u64 (IntKind.wrap .u64 ((IntKind.wrap .u64 x8.fTo) - (IntKind.wrap .u64 x8.aA)))))<|sA rfl<|sN<|gS rfl rfl ?_
   refine sM rfl<|sM rfl<|sV (.d (.int .u64 (IntKind.wrap .u64 s2)))<|sF h (fun h => ?_) fun h => ?_
   ·refine sN<|cT<|WC.region rfl rfl<|sV (.ptr 112 0)<|sL rfl<|sM rfl<|sV (rI (rW (x8.aA + s2)))<|sV (.ptr 112 1)<|sS 112 (.var [rI x8.aA, rI (rW (x8.aA + s2))])<|sV (r0)<|sN<|WC.region rfl rfl<|sM rfl<|sV (.d (aa.pd (aa.mk x8.aA (rW (x8.aA + s2)))))<|sV (.d (.lst ([(aa.mk x8.aA (rW (x8.aA + s2)))].map aa.pd))) ?_
    refine bE h fun x11 hx11 h => aR hx11 (fun _ => rfl) rfl<|sA rfl<|sN<|WC.region rfl rfl<|sV (rI (rW (s3 + (1 : Int))))<|sM rfl<|sN ?_
    cases oI h
    exact ⟨rfl, rfl⟩
   refine sN<|cF<|WC.region rfl rfl<|sM rfl<|sM rfl<|sV (rI (rW (IntKind.wrap .u64 ((IntKind.wrap .u64 x8.fTo) - (IntKind.wrap .u64 x8.aA)))))<|sV (rI (rW (s2 - (rW (IntKind.wrap .u64 ((IntKind.wrap .u64 x8.fTo) - (IntKind.wrap .u64 x8.aA)))))))<|sA rfl<|sN<|WC.region rfl rfl<|sM rfl<|sV (.d (aa.pd x8))<|sV (.d (.lst ([x8].map aa.pd)))<|bE h fun x12 hx12 h => aR hx12 (fun _ => rfl) rfl ?_
   refine sA rfl<|sN<|WC.region rfl rfl<|sV (rI (rW (s3 + (1 : Int))))<|sM rfl<|sN ?_
   cases oI h
   exact ⟨rfl, rfl⟩
  refine sN<|qS<|cF<|qX ?_
  cases oI h
  exact ⟨nofun, rfl, rfl⟩
 intro e R' B' he hq
 obtain ⟨rfl, hI⟩ := hq
 refine qE<|gS rfl hI<|sM rfl<|sA rfl<|sN<|qR ?_
 cases oI h
 exact qD
theorem jH {a0 : ag} {a1 : Int} {a2 : Int} {r : (List aa) × Int} (h : dx a0 a1 a2 = some r) : EvP prog au ext 87 [.d (ag.pd a0), rI a1, rI a2] [] (.tup [.d (.lst (r.1.map aa.pd)), rI r.2], []) := by
 refine Ev.body rfl Tryz.func87 rfl (by kernel_rfl)<|gS rfl rfl<|sB (.ptr 48 0) 48 (.var [.d (.lst (a0.aJ.map aa.pd)), .d (.lst (a0.aF.map aa.pd))])<|sV .nils<|sV (r0)<|sN<|gS rfl rfl<|sV (.d (ag.pd a0))<|sM rfl<|bE h fun x1 hx1 h => cR (.tup [.d (.lst (x1.1.map aa.pd)), rI x1.2]) [] (gg hx1)<|sM rfl<|sV (.d (.lst (x1.1.map aa.pd)))<|sV (rI x1.2)<|sA rfl ?_
 refine sA rfl<|sN<|qS<|gS rfl rfl<|sM rfl<|sF h (fun h => ?_) fun h => ?_
 ·refine sN<|cT<|gS rfl rfl<|sM rfl<|sV .nils<|sA rfl<|sN<|qR ?_
  cases oI h
  exact qD
 refine sN<|cF<|qK<|qS<|gS rfl rfl<|sM rfl<|bE h fun x3 hx3 h => cD (ew hx3)<|sF h (fun h => ?_) fun h => ?_
 ·refine sN<|cT<|gS rfl rfl<|sV .nils<|sV (rI 2)<|sN<|qR ?_
  cases oI h
  exact qD
 refine sN<|cF<|qK<|gS rfl rfl<|sM rfl<|sM rfl<|bE h fun x5 hx5 h => cD (span_First_ev hx5)<|sA rfl<|sV (r0)<|sN<|qR ?_
 cases oI h
 exact qD
theorem kg {a0 : (List aa)} {a1 : Int} {r : Bool} (h : dQ a0 a1 = some r) : EvP prog au ext 62 [.d (.lst (a0.map aa.pd)), rI a1] [] (rB r, []) := by
 refine Ev.body rfl Tryz.func62 rfl (by kernel_rfl)<|gS rfl rfl<|sU<|sN<|gS rfl rfl<|sM rfl<|bE h fun x1 hx1 h => ite_elim h (fun hb2 h => ?_) (fun hb2 h => ?_)
 ·refine WO.callR (v := rB true) (u := []) rfl rfl (fun _ => rfl) rfl rfl rfl rfl rfl (fM hx1) rfl rfl (congrArg (fun b => RV.d (.bool b)) hb2) rfl<|sM rfl<|sM rfl<|sE (rI (a0.length : Int)) (lenMap _ _)<|sF h (fun h => ?_) fun h => ?_
  ·refine sM rfl<|k3<|k3<|k3<|k3<|sK<|sK ?_
   refine sK<|sK<|sT<|sT<|sA rfl<|sN<|qR ?_
   cases oI h
   exact qD
  refine sM rfl<|sM rfl<|bE h fun x4 hx4 h => eG hx4 rfl<|sV (.cptr [.int .i64 x4.aA, .int .i64 x4.fTo])<|sC rfl<|sF h (fun h => ?_) fun h => ?_
  ·refine sM rfl<|sM rfl<|sM rfl<|sE (rI (a0.length : Int)) (lenMap _ _)<|sV (rI (rW ((a0.length : Int) - (1 : Int))))<|bE h fun x6 hx6 h => eG hx6 rfl<|sV (.cptr [.int .i64 x6.fTo])<|sC rfl<|sM rfl<|sV (rB (decide (x6.fTo ≤ a1)))<|sV (rB (decide (x6.fTo ≤ a1)))<|sV (rB (decide (x6.fTo ≤ a1)))<|sV (rB (decide (x6.fTo ≤ a1)))<|sA rfl ?_
   refine sN<|qR ?_
   cases oI h
   exact qD
  refine sM rfl<|k3<|k3<|k3<|sU<|sU<|sU<|sA rfl<|sN ?_
  refine qR ?_
  cases oI h
  exact qD
 refine WO.callR (v := rB false) (u := []) rfl rfl (fun _ => rfl) rfl rfl rfl rfl rfl (fM hx1) rfl rfl (congrArg (fun b => RV.d (.bool b)) hb2) rfl<|sM rfl<|k3<|k3<|k3<|k3<|sK ?_
 refine k3<|k3<|sK<|sK<|sU<|sA rfl<|sN<|qR ?_
 cases oI h
 exact qD
theorem jJ {a0 : Int} {a1 : (List aa)} {r : (List UInt8) × Int} (h : dz a0 a1 = some r) : EvP prog au ext 25 [rI a0, .d (.lst (a1.map aa.pd))] [] (.tup [rS r.1, rI r.2], []) := by
 refine Ev.body rfl Tryz.func25 rfl (by kernel_rfl)<|gS rfl rfl<|sV (rS [])<|sV (r0)<|sN<|qS<|gS rfl rfl<|sM rfl<|bE h fun x1 hx1 h => cD (aV hx1)<|sF h (fun h => ?_) fun h => ?_
 ·refine sM rfl<|k3<|sK<|sT<|sN<|cT<|gS rfl rfl<|sV (rS [])<|sV (rI 1)<|sN<|qR ?_
  cases oI h
  exact qD
 refine sM rfl<|sM rfl<|sM rfl<|bE h fun x3 hx3 h => cD (kg hx3)<|sV (rB (!x3))<|sF h (fun h => ?_) fun h => ?_
 ·refine sN<|cT<|gS rfl rfl<|sV (rS [])<|sV (rI 1)<|sN<|qR ?_
  cases oI h
  exact qD
 refine sN<|cF<|qK<|qS<|gS rfl rfl<|sM rfl<|sE (rI (a1.length : Int)) (lenMap _ _)<|sF h (fun h => ?_) fun h => ?_
 ·refine sN<|cT<|gS rfl rfl<|sV (rS [])<|sV (rI 8)<|sN<|qR ?_
  cases oI h
  exact qD
 refine sN<|cF<|qK<|gS rfl rfl<|sV (rS [82])<|sN<|qS<|gS rfl rfl<|sM rfl<|sE (rI (a1.length : Int)) (lenMap _ _)<|sV (r0)<|sN<|bE h fun o14 ho14 h => WC.block (WC.loop (WL.ofLoop ho14 (fun s R' B' => ghosts prog 0 (A R' B') (au.at_ 25 0 7) = some (A [(6, rS s.1), (21, .d (.lst (a1.map aa.pd))), (22, rI (a1.length : Int)), (23, rI s.2)] [])) (fun o e R' B' => e = .exit 0 ∧ ghosts prog 0 (A R' B') (au.at_ 25 0 11) = some (A [(6, rS o)] [])) rfl ?_ ?_))
 ·rintro ⟨s6, s7⟩ R' B' q9 hI h
  refine gS rfl hI<|sF h (fun h => ?_) fun h => ?_
  ·refine sN<|qS<|cT<|qK<|qS<|qB<|gS rfl rfl<|bE h fun x11 hx11 h => eG hx11 rfl<|sV (.d (aa.pd x11))<|sB (.ptr 128 0) 128 (.var [r0, r0])<|sS 128 (.var [rI x11.aA, rI x11.fTo])<|sN<|WC.region rfl rfl<|sM rfl ?_
   refine sV (.ptr 128 0)<|sL rfl<|sV (.ptr 128 1)<|sL rfl<|sV (.d (.lst ([x11.aA, x11.fTo].map (PD.int .i64))))<|bE h fun x12 hx12 h => cD (d6 hx12)<|sA rfl<|sN<|WC.region rfl rfl<|sV (rI (rW (s7 + (1 : Int))))<|sM rfl<|sN ?_
   cases oI h
   exact ⟨rfl, rfl⟩
  refine sN<|qS<|cF<|qX ?_
  cases oI h
  exact ⟨nofun, rfl, rfl⟩
 intro e R' B' he hq
 obtain ⟨rfl, hI⟩ := hq
 refine qE<|gS rfl hI<|sM rfl<|bE h fun x15 hx15 h => cD (fF hx15)<|sA rfl<|sV (r0)<|sN<|qR ?_
 cases oI h
 exact qD
theorem ends_ask_ev {a0 : (List UInt8)} {e1 : Int} {e2 : Int} {e3 : Int} {e4 : Int} {e5 : Int} {e6 : (List (List UInt8))} {e7 : (List aa)} {e8 : (List aa)} {e9 : Int} {e10 : Int} {e11 : (List ac)} {e12 : Int} {e13 : Int} {e14 : (List ac)} {e15 : (List ae)} {e16 : (List ae)} {d1 : (List aj)} {r : Int × Int × Int × Int × Int × (List (List UInt8)) × (List aa) × (List aa) × Int × Int × (List ac) × Int × Int × (List ac) × (List ae) × (List ae)} (h : kw a0 e1 e2 e3 e4 e5 e6 e7 e8 e9 e10 e11 e12 e13 e14 e15 e16 d1 = some r) : EvP prog au ext 88 [.ptr 0 0, rS a0] [.var [rI e1, rI e2, rI e3, rI e4, rI e5, .d (.lst (e6.map PD.str)), .d (.lst (e7.map aa.pd)), .d (.lst (e8.map aa.pd)), rI e9, rI e10, .d (.lst (e11.map ac.pd)), rI e12, rI e13, .d (.lst (e14.map ac.pd)), .ref 1 0, .d (.lst (e15.map ae.pd)), .d (.lst (e16.map ae.pd))], .arr 0 50 (d1.map aj.pd)] (.tup [], [.var [rI r.1, rI r.2.1, rI r.2.2.1, rI r.2.2.2.1, rI r.2.2.2.2.1, .d (.lst (r.2.2.2.2.2.1.map PD.str)), .d (.lst (r.2.2.2.2.2.2.1.map aa.pd)), .d (.lst (r.2.2.2.2.2.2.2.1.map aa.pd)), rI r.2.2.2.2.2.2.2.2.1, rI r.2.2.2.2.2.2.2.2.2.1, .d (.lst (r.2.2.2.2.2.2.2.2.2.2.1.map ac.pd)), rI r.2.2.2.2.2.2.2.2.2.2.2.1, rI r.2.2.2.2.2.2.2.2.2.2.2.2.1, .d (.lst (r.2.2.2.2.2.2.2.2.2.2.2.2.2.1.map ac.pd)), .ref 1 0, .d (.lst (r.2.2.2.2.2.2.2.2.2.2.2.2.2.2.1.map ae.pd)), .d (.lst (r.2.2.2.2.2.2.2.2.2.2.2.2.2.2.2.map ae.pd))], .arr 0 50 (d1.map aj.pd)]) := by
 refine Ev.body rfl Tryz.func88 rfl (by kernel_rfl)<|gS rfl rfl<|sM rfl<|sV (.ptr 0 0)<|sV (.ptr 0 16)<|sL rfl<|bE h fun x1 hx1 h => cR (.tup [.d (ae.pd x1.1), .d (.lst (x1.2.map ae.pd))]) [] (i7 hx1)<|sM rfl<|sV (.d (ae.pd x1.1))<|sV (.d (.lst (x1.2.map ae.pd)))<|sB (.ptr 64 0) 64 (.var [rB false, r0, r0])<|sS 64 (.var [rB x1.1.i4, rI x1.1.bT, rI x1.1.cm])<|sA rfl<|sN ?_
 refine gS rfl rfl<|sM rfl<|sM rfl<|sV (.ptr 0 0)<|sV (.ptr 0 16)<|sS 0 (.var [rI e1, rI e2, rI e3, rI e4, rI e5, .d (.lst (e6.map PD.str)), .d (.lst (e7.map aa.pd)), .d (.lst (e8.map aa.pd)), rI e9, rI e10, .d (.lst (e11.map ac.pd)), rI e12, rI e13, .d (.lst (e14.map ac.pd)), .ref 1 0, .d (.lst (e15.map ae.pd)), .d (.lst (x1.2.map ae.pd))])<|sN<|WC.regionDSeq rfl rfl<|sM rfl<|sV (.ptr 0 0)<|sV (.ptr 0 0)<|sV (.ptr 0 11)<|sV (.d (ai.pd (ai.mk e12 e13 e14)))<|sM rfl<|sV (.d (ae.pd x1.1)) ?_
 refine bE h fun x2 hx2 h => cR (.tup [.d (ai.pd x2.1), rI x2.2]) [] (iO hx2)<|sM rfl<|sV (.d (ai.pd x2.1))<|sV (rI x2.2)<|sB (.ptr 96 0) 96 (.var [r0, r0, .nils])<|sS 96 (.var [rI x2.1.az, rI x2.1.aq, .d (.lst (x2.1.av.map ac.pd))])<|sA rfl ?_
 refine sN<|sO<|gS rfl rfl<|sM rfl<|sF h (fun h => ?_) fun h => ?_
 ·refine sN<|cT<|WC.region rfl rfl<|sM rfl<|sV (.d (.agg [.int .i64 x2.1.az, .int .i64 x2.1.aq, .lst (x2.1.av.map ac.pd)]))<|sV (.ptr 0 0)<|sV (.ptr 0 0)<|sV (.ptr 0 11)<|sS 0 (.var [rI e1, rI e2, rI e3, rI e4, rI e5, .d (.lst (e6.map PD.str)), .d (.lst (e7.map aa.pd)), .d (.lst (e8.map aa.pd)), rI e9, rI e10, .d (.lst (e11.map ac.pd)), rI x2.1.az, rI x2.1.aq, .d (.lst (x2.1.av.map ac.pd)), .ref 1 0, .d (.lst (e15.map ae.pd)), .d (.lst (x1.2.map ae.pd))])<|sN ?_
  cases oI h
  exact qG
 refine sN<|cF<|qK ?_
 cases oI h
 exact qG
theorem ends_request_ev {e0 : Int} {e1 : Int} {e2 : Int} {e3 : Int} {e4 : Int} {e5 : (List (List UInt8))} {e6 : (List aa)} {e7 : (List aa)} {e8 : Int} {e9 : Int} {e10 : (List ac)} {e11 : Int} {e12 : Int} {e13 : (List ac)} {e14 : (List ae)} {e15 : (List ae)} {d1 : (List aj)} {r : Int × Int × Int × Int × Int × (List (List UInt8)) × (List aa) × (List aa) × Int × Int × (List ac) × Int × Int × (List ac) × (List ae) × (List ae)} (h : gn e0 e1 e2 e3 e4 e5 e6 e7 e8 e9 e10 e11 e12 e13 e14 e15 d1 = some r) : EvP prog au ext 49 [.ptr 0 0] [.var [rI e0, rI e1, rI e2, rI e3, rI e4, .d (.lst (e5.map PD.str)), .d (.lst (e6.map aa.pd)), .d (.lst (e7.map aa.pd)), rI e8, rI e9, .d (.lst (e10.map ac.pd)), rI e11, rI e12, .d (.lst (e13.map ac.pd)), .ref 1 0, .d (.lst (e14.map ae.pd)), .d (.lst (e15.map ae.pd))], .arr 0 50 (d1.map aj.pd)] (.tup [], [.var [rI r.1, rI r.2.1, rI r.2.2.1, rI r.2.2.2.1, rI r.2.2.2.2.1, .d (.lst (r.2.2.2.2.2.1.map PD.str)), .d (.lst (r.2.2.2.2.2.2.1.map aa.pd)), .d (.lst (r.2.2.2.2.2.2.2.1.map aa.pd)), rI r.2.2.2.2.2.2.2.2.1, rI r.2.2.2.2.2.2.2.2.2.1, .d (.lst (r.2.2.2.2.2.2.2.2.2.2.1.map ac.pd)), rI r.2.2.2.2.2.2.2.2.2.2.2.1, rI r.2.2.2.2.2.2.2.2.2.2.2.2.1, .d (.lst (r.2.2.2.2.2.2.2.2.2.2.2.2.2.1.map ac.pd)), .ref 1 0, .d (.lst (r.2.2.2.2.2.2.2.2.2.2.2.2.2.2.1.map ae.pd)), .d (.lst (r.2.2.2.2.2.2.2.2.2.2.2.2.2.2.2.map ae.pd))], .arr 0 50 (d1.map aj.pd)]) := by
 refine Ev.body rfl Tryz.func49 rfl (by kernel_rfl)<|gS rfl rfl<|sM rfl<|sV (.ptr 0 0)<|sV (.ptr 0 0)<|sV (.ptr 0 3)<|sV (.d (al.pd (al.mk e3 e4 e5)))<|bE h fun x1 hx1 h => cR (.tup [rS x1.1, rI x1.2]) [] (kG hx1)<|sM rfl<|sV (rS x1.1)<|sV (rI x1.2)<|sA rfl<|sA rfl<|sN ?_
 refine gS rfl rfl<|sM rfl<|sM rfl<|bE h fun x2 hx2 h => cR (.tup []) [(0, .var [rI x2.1, rI x2.2.1, rI x2.2.2.1, rI x2.2.2.2.1, rI x2.2.2.2.2.1, .d (.lst (x2.2.2.2.2.2.1.map PD.str)), .d (.lst (x2.2.2.2.2.2.2.1.map aa.pd)), .d (.lst (x2.2.2.2.2.2.2.2.1.map aa.pd)), rI x2.2.2.2.2.2.2.2.2.1, rI x2.2.2.2.2.2.2.2.2.2.1, .d (.lst (x2.2.2.2.2.2.2.2.2.2.2.1.map ac.pd)), rI x2.2.2.2.2.2.2.2.2.2.2.2.1, rI x2.2.2.2.2.2.2.2.2.2.2.2.2.1, .d (.lst (x2.2.2.2.2.2.2.2.2.2.2.2.2.2.1.map ac.pd)), .ref 1 0, .d (.lst (x2.2.2.2.2.2.2.2.2.2.2.2.2.2.2.1.map ae.pd)), .d (.lst (x2.2.2.2.2.2.2.2.2.2.2.2.2.2.2.2.map ae.pd))]), (1, .arr 0 50 (d1.map aj.pd))] (kx hx2)<|sN<|WC.regionDSeq rfl rfl<|sM rfl<|sV (.ptr 0 0)<|sV (.ptr 0 0)<|sV (.ptr 0 6)<|sV (.d (ag.pd (ag.mk x2.2.2.2.2.2.2.1 x2.2.2.2.2.2.2.2.1)))<|sM rfl<|sV (.ptr 0 0)<|sV (.ptr 0 0) ?_
 refine sV (.ptr 0 2)<|sL rfl<|bE h fun x3 hx3 h => cR (.tup [.d (.lst (x3.1.map aa.pd)), rI x3.2]) [] (jH hx3)<|sM rfl<|sV (.d (.lst (x3.1.map aa.pd)))<|sV (rI x3.2)<|sA rfl<|sA rfl ?_
 refine sN<|sO<|qS<|gS rfl rfl<|sM rfl<|sF h (fun h => ?_) fun h => ?_
 ·refine sM rfl<|k3<|sT<|sN<|cT<|qR ?_
  cases oI h
  exact qG
 refine sM rfl<|sM rfl<|sE (rI (x3.1.length : Int)) (lenMap _ _)<|sV (rB ((x3.1.length : Int) == (0 : Int)))<|sF h (fun h => ?_) fun h => ?_
 ·refine sN<|cT<|qR ?_
  cases oI h
  exact qG
 refine sN<|cF<|qK<|gS rfl rfl<|sM rfl<|sM rfl<|sE (rI (x3.1.length : Int)) (lenMap _ _)<|sV (rI (rW ((x3.1.length : Int) - (1 : Int))))<|bE h fun x6 hx6 h => eG hx6 rfl<|sV (.cptr [.int .i64 x6.fTo])<|sC rfl<|sM rfl<|bE h fun x7 hx7 h => cR (.tup [rS x7.1, rI x7.2]) [] (jJ hx7) ?_
 refine sM rfl<|sV (rS x7.1)<|sV (rI x7.2)<|sA rfl<|sA rfl<|sN<|gS rfl rfl<|sM rfl<|sF h (fun h => ?_) fun h => ?_
 ·refine sN<|cT<|WC.region rfl rfl<|sM rfl<|sM rfl<|bE h fun x9 hx9 h => cR (.tup []) [(0, .var [rI x9.1, rI x9.2.1, rI x9.2.2.1, rI x9.2.2.2.1, rI x9.2.2.2.2.1, .d (.lst (x9.2.2.2.2.2.1.map PD.str)), .d (.lst (x9.2.2.2.2.2.2.1.map aa.pd)), .d (.lst (x9.2.2.2.2.2.2.2.1.map aa.pd)), rI x9.2.2.2.2.2.2.2.2.1, rI x9.2.2.2.2.2.2.2.2.2.1, .d (.lst (x9.2.2.2.2.2.2.2.2.2.2.1.map ac.pd)), rI x9.2.2.2.2.2.2.2.2.2.2.2.1, rI x9.2.2.2.2.2.2.2.2.2.2.2.2.1, .d (.lst (x9.2.2.2.2.2.2.2.2.2.2.2.2.2.1.map ac.pd)), .ref 1 0, .d (.lst (x9.2.2.2.2.2.2.2.2.2.2.2.2.2.2.1.map ae.pd)), .d (.lst (x9.2.2.2.2.2.2.2.2.2.2.2.2.2.2.2.map ae.pd))]), (1, .arr 0 50 (d1.map aj.pd))] (ends_ask_ev hx9)<|sN ?_
  cases oI h
  exact qG
 refine sN<|cF<|qK ?_
 cases oI h
 exact qG
end Go.Dw.Sl
