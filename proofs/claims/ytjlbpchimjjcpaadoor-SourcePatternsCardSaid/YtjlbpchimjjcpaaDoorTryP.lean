/- TryP: the plain law of SourcePatterns: over the identifiers that the dice make. -/
import Derived.Test.YtjlbpchimjjcpaaDoorTryE
set_option maxRecDepth 100000
set_option maxHeartbeats 4000000
namespace Go.Ds.Sp

def fitsF : Nat → List UInt8 → List UInt8 → Bool
  | _, [], s => s.isEmpty
  | 0, _ :: _, _ => false
  | n + 1, c :: p, [] => c == 42 && fitsF n p []
  | n + 1, c :: p, d :: t => if c = 42 then fitsF n p (d :: t) || fitsF n (c :: p) t else (c == 63 || c == d) && fitsF n p t
theorem fitsF_eq : ∀ (n : Nat) (p s : List UInt8), p.length + s.length ≤ n → fitsB p s = fitsF n p s
  | n, [], s, _ => by rw [fitsB]; cases n <;> rfl
  | 0, c :: p, s, h => by simp at h
  | n + 1, c :: p, [], h => by rw [fitsB, fitsF_eq n p [] (by simp at h ⊢; omega)]; rfl
  | n + 1, c :: p, d :: t, h => by
    rw [fitsB, fitsF_eq n p (d :: t) (by simp at h ⊢; omega), fitsF_eq n (c :: p) t (by simp at h ⊢; omega), fitsF_eq n p t (by simp at h ⊢; omega)]; rfl
def matchF (p : List (List UInt8)) (s : Src) : Bool := fitsF 60 (p.getD 0 []) s.net && fitsF 60 (p.getD 1 []) s.sta && fitsF 60 (p.getD 2 []) s.loc && fitsF 60 (p.getD 3 []) s.cha
def shortL (p : List (List UInt8)) (s : Src) : Bool := decide ((p.getD 0 []).length + s.net.length ≤ 60) && decide ((p.getD 1 []).length + s.sta.length ≤ 60) && decide ((p.getD 2 []).length + s.loc.length ≤ 60) && decide ((p.getD 3 []).length + s.cha.length ≤ 60)
theorem matchF_eq {p : List (List UInt8)} {s : Src} (h : shortL p s = true) : matchB p s = matchF p s := by
  simp only [shortL, Bool.and_eq_true, decide_eq_true_eq] at h
  obtain ⟨⟨⟨h0, h1⟩, h2⟩, h3⟩ := h
  rw [matchB, matchF, fitsF_eq 60 _ _ h0, fitsF_eq 60 _ _ h1, fitsF_eq 60 _ _ h2, fitsF_eq 60 _ _ h3]

/-- The patterns of the law. -/
def oneS (a : Src) (k : Int) : List UInt8 := a.net ++ [46] ++ cut a.sta 0 (some k.toNat) ++ [63] ++ cut a.sta (k + 1).toNat none ++ [46] ++ a.loc ++ [46] ++ a.cha
def restS (a : Src) (k : Int) : List UInt8 := a.net ++ [46] ++ cut a.sta 0 (some k.toNat) ++ [42, 46] ++ a.loc ++ [46, 42]
def longS (a : Src) : List UInt8 := a.net ++ [46] ++ a.sta ++ [63, 46] ++ a.loc ++ [46] ++ a.cha
/-- A pattern of four parts, all of them well made. -/
def goodP (s : List UInt8) : Bool := (splitL 46 s).all partOk && decide ((splitL 46 s).length = 4)
def lawB (a : Src) (k : Int) : Bool :=
  validB a && goodP (oneS a k) && goodP (restS a k) && goodP (longS a) && shortL (splitL 46 (oneS a k)) a && shortL (splitL 46 (restS a k)) a && shortL (splitL 46 (longS a)) a &&
  matchF (splitL 46 (oneS a k)) a && matchF (splitL 46 (restS a k)) a && !matchF (splitL 46 (longS a)) a
theorem law_all : (nets.all fun n => stas.all fun t => locs.all fun l => chas.all fun c => (List.range t.length).all fun k => lawB ⟨n, t, l, c⟩ (k : Int)) = true := by kernel_rfl
theorem law_at {n t l c : List UInt8} (hn : n ∈ nets) (ht : t ∈ stas) (hl : l ∈ locs) (hc : c ∈ chas) {k : Int} (h0 : 0 ≤ k) (h1 : k < t.length) : lawB ⟨n, t, l, c⟩ k = true := by
  have h := List.all_eq_true.1 (List.all_eq_true.1 (List.all_eq_true.1 (List.all_eq_true.1 (List.all_eq_true.1 law_all n hn) t ht) l hl) c hc) k.toNat (List.mem_range.2 (by omega))
  have e : ((k.toNat : Nat) : Int) = k := by omega
  rwa [e] at h
theorem pick_mem {o : List (List UInt8)} {i : Int} (h : 0 ≤ i ∧ i < o.length) : pickL o i ∈ o := pickL_mem h.1 h.2
/-- What the law's steps need of an identifier that the dice made. -/
theorem law_src {a : Src} (hn : a.net ∈ nets) (ht : a.sta ∈ stas) (hl : a.loc ∈ locs) (hc : a.cha ∈ chas) {k : Int} (h0 : 0 ≤ k) (h1 : k < a.sta.length) :
    validB a = true ∧ matchV (oneS a k) a = (true, 0) ∧ matchV (restS a k) a = (true, 0) ∧ matchV (longS a) a = (false, 0) ∧ (splitL 46 (restS a k)).all partOk = true ∧ (splitL 46 (restS a k)).length = 4 ∧ matchB (splitL 46 (restS a k)) a = true := by
  have h : lawB a k = true := law_at hn ht hl hc h0 h1
  simp only [lawB, Bool.and_eq_true] at h
  obtain ⟨⟨⟨⟨⟨⟨⟨⟨⟨hv, g1⟩, g2⟩, g3⟩, s1⟩, s2⟩, s3⟩, m1⟩, m2⟩, m3⟩ := h
  rw [← matchF_eq s1] at m1
  rw [← matchF_eq s2] at m2
  rw [← matchF_eq s3] at m3
  have m3 : matchB (splitL 46 (longS a)) a = false := by simpa using m3
  unfold goodP at g1 g2 g3
  refine ⟨hv, ?_, ?_, ?_, ?_, ?_, m2⟩
  · simp only [matchV, g1, if_true, hv, m1]
  · simp only [matchV, g2, if_true, hv, m2]
  · simp only [matchV, g3, if_true, hv, m3]
  · exact (Bool.and_eq_true_iff.1 g2).1
  · exact of_decide_eq_true (Bool.and_eq_true_iff.1 g2).2
end Go.Ds.Sp
