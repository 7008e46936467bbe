
import Derived.Test.YtpeijlelfekcoaaGreatDoorDwMap
import Derived.Test.YtpeijlelfekcoaaGreatDoorDwMake


namespace Go.Dw

def setVer (f : Nat → Nat) : Loc → Loc
 | .arr ver e sz hdr => .arr (f ver) e sz hdr
 | L => L
theorem setVer_block (f : Nat → Nat) (L : Loc) : (setVer f L).block = L.block := by cases L <;> rfl
theorem setVer_arr {f : Nat → Nat} {L : Loc} {ver : Nat} {e : TypeId} {sz : Nat} {hdr : Value} (h : setVer f L = .arr ver e sz hdr) : ∃ cur, L = .arr cur e sz hdr ∧ ver = f cur := by
 cases L with
 | arr cur e' sz' hdr' => simp only [setVer, Loc.arr.injEq] at h; obtain ⟨rfl, rfl, rfl, rfl⟩ := h; exact ⟨cur, rfl, rfl⟩
 | var b => cases h
 | dead => cases h
 | map b => cases h
 | byt b n c => cases h
theorem setVer_var {f : Nat → Nat} {L : Loc} {b : Nat} (h : setVer f L = .var b) : L = .var b := by cases L <;> first | exact h | cases h

theorem setVer_byt {f : Nat → Nat} {L : Loc} {b n c : Nat} (h : setVer f L = .byt b n c) : L = .byt b n c := by cases L <;> first | exact h | cases h
theorem setVer_map {f : Nat → Nat} {L : Loc} {b : Nat} (h : setVer f L = .map b) : L = .map b := by cases L <;> first | exact h | cases h

structure RenR (ρ : Ren) (loc loc' : Locs) : Prop where
 pos : ∀ id k L, ρ.pos id = some k → loc id = some L → ∃ f, loc' k = some (setVer f L)
 ver : ∀ id ver v' k cur e sz hdr, ρ.pos id = some k → ρ.ver id ver = some v' → loc id = some (.arr cur e sz hdr) → ver = cur ∧ loc' k = some (.arr v' e sz hdr)

section
variable {P : Program} {S : Snap} {loc loc' : Locs} {w : World} {ρ : Ren}

theorem R.ren1 (h : RenR ρ loc loc') {rv : RV} {v : Value} (hr : R S loc rv v) : R S loc' (Dw.ren1 ρ rv) v := by
 cases hr with
 | d h => exact .d h
 | undef => exact .undef
 | junk v => exact .junk v
 | nils => exact .nils
 | agg cs vs hl hc => exact .junk _
 | tup cs vs hl hc => exact .junk _
 | clo f cs vs hl hc => exact .junk _
 | err t x => exact .err t x
 | noerr => exact .noerr
 | dfull es a h => exact .dfull es a h
 | cptr cs b o f hS hV => exact .cptr cs b o f hS hV
 | fview id ver hi v L ho hL hc =>
  simp only [Dw.ren1]
  rcases hp : ρ.pos id with _ | k
  ·exact .junk _
  rcases hv : ρ.ver id ver with _ | v'
  ·exact .junk _
  obtain ⟨f, hL'⟩ := h.pos id k L hp hL
  refine .fview k v' hi v _ ho hL' fun ver' e sz hdr he => ?_
  obtain ⟨cur, rfl, rfl⟩ := setVer_arr he
  obtain ⟨rfl, h2⟩ := h.ver id ver v' k cur e sz hdr hp hv hL
  rw [hL'] at h2
  simp only [setVer, Option.some.injEq, Loc.arr.injEq, and_true] at h2
  exact ⟨by omega, fun _ => (hc ver e sz hdr rfl).2 rfl⟩
 | ptr id off v L ho hL hc =>
  simp only [Dw.ren1]
  rcases hp : ρ.pos id with _ | k
  ·exact .junk _
  obtain ⟨f, hL'⟩ := h.pos id k L hp hL
  exact .ptr k off v _ ho hL' fun b => ⟨fun hb => (hc b).1 (setVer_var hb), fun hb => (hc b).2.1 (setVer_map hb), fun n c hb => (hc b).2.2 n c (setVer_byt hb)⟩
 | ref id ver v L ho hL hc =>
  simp only [Dw.ren1]
  rcases hp : ρ.pos id with _ | k
  ·exact .junk _
  rcases hv : ρ.ver id ver with _ | v'
  ·exact .junk _
  obtain ⟨f, hL'⟩ := h.pos id k L hp hL
  refine .ref k v' v _ ho hL' fun ver' e sz hdr he => ?_
  obtain ⟨cur, rfl, rfl⟩ := setVer_arr he
  obtain ⟨rfl, h2⟩ := h.ver id ver v' k cur e sz hdr hp hv hL
  rw [hL'] at h2
  simp only [setVer, Option.some.injEq, Loc.arr.injEq, and_true] at h2
  exact ⟨by omega, fun _ => (hc ver e sz hdr rfl).2 rfl⟩
 | elt id ver i o v L ho hL hc =>
  simp only [Dw.ren1]
  rcases hp : ρ.pos id with _ | k
  ·exact .junk _
  rcases hv : ρ.ver id ver with _ | v'
  ·exact .junk _
  obtain ⟨f, hL'⟩ := h.pos id k L hp hL
  refine .elt k v' i o v _ ho hL' fun ver' e sz hdr he => ?_
  obtain ⟨cur, rfl, rfl⟩ := setVer_arr he
  obtain ⟨rfl, h2⟩ := h.ver id ver v' k cur e sz hdr hp hv hL
  rw [hL'] at h2
  simp only [setVer, Option.some.injEq, Loc.arr.injEq, and_true] at h2
  exact ⟨by omega, fun _ => (hc ver e sz hdr rfl).2 rfl⟩
 | view id ver lo hi v L ho hL hc =>
  simp only [Dw.ren1]
  rcases hp : ρ.pos id with _ | k
  ·exact .junk _
  rcases hv : ρ.ver id ver with _ | v'
  ·exact .junk _
  obtain ⟨f, hL'⟩ := h.pos id k L hp hL
  refine .view k v' lo hi v _ ho hL' fun ver' e sz hdr he => ?_
  obtain ⟨cur, rfl, rfl⟩ := setVer_arr he
  obtain ⟨rfl, h2⟩ := h.ver id ver v' k cur e sz hdr hp hv hL
  rw [hL'] at h2
  simp only [setVer, Option.some.injEq, Loc.arr.injEq, and_true] at h2
  exact ⟨by omega, fun _ => (hc ver e sz hdr rfl).2 rfl⟩

theorem R.renV (h : RenR ρ loc loc') {rv : RV} {v : Value} (hr : R S loc rv v) : R S loc' (Dw.renV ρ rv) v := by
 have cells : ∀ {cs : List RV} {vs : Array Value}, (∀ (i : Nat) c v, cs[i]? = some c → vs[i]? = some v → R S loc c v) →
   ∀ (i : Nat) c v, (cs.map (Dw.ren1 ρ))[i]? = some c → vs[i]? = some v → R S loc' c v := by
  intro cs vs hc i c v h1 h2
  rw [List.getElem?_map] at h1
  rcases hci : cs[i]? with _ | c0
  ·simp [hci] at h1
  simp only [hci, Option.map_some, Option.some.injEq] at h1
  subst h1
  exact R.ren1 h (hc i c0 v hci h2)
 cases rv with
 | agg cs => obtain ⟨vs, rfl, hl, hc⟩ := hr.cells_agg; exact .agg _ vs (by simpa using hl) (cells hc)
 | tup cs => cases hr with | tup _ vs hl hc => exact .tup _ vs (by simpa using hl) (cells hc)
 | clo f cs => cases hr with | clo _ _ vs hl hc => exact .clo f _ vs (by simpa using hl) (cells hc)
 | _ => exact R.ren1 h hr

theorem BoxR.ren (h : RenR ρ loc loc') {bx : Box} {L : Loc} (f : Nat → Nat) (hb : BoxR P S loc w bx L) : BoxR P S loc' w (renB ρ f bx) (setVer f L) := by
 cases hb with
 | var cs b t vs hw hl hc =>
  refine .var _ b t vs hw (by simpa using hl) fun i c v hci hv => ?_
  rw [List.getElem?_map] at hci
  rcases hc0 : cs[i]? with _ | c0
  ·simp [hc0] at hci
  simp only [hc0, Option.map_some, Option.some.injEq] at hci
  subst hci
  exact R.renV h (hc i c0 v hc0 hv)
 | arr ver e es sz hdr xs hsz how hf => exact .arr (f ver) e es sz hdr xs hsz how hf
 | dead L hL => subst hL; exact .dead _ rfl
 | map kt vt es b clock ents hw hl hc => exact .map kt vt es b clock ents hw hl hc
 | byt l b c t vs hw hl hc => exact .byt l b c t vs hw hl hc

theorem curVer_some {b : Boxes} {f : Nat → Nat → Nat} {id ver v' : Nat} (h : curVer b f id ver = some v') : ∃ e es, b id = some (.arr ver e es) ∧ v' = f id ver := by
 unfold curVer at h
 split at h
 ·rename_i cur e es hb
  split at h
  ·rename_i hv; subst hv; cases h; exact ⟨e, es, hb, rfl⟩
  ·cases h
 ·cases h

theorem RenR.mk' {b : Boxes} {pos : Nat → Option Nat} {f : Nat → Nat → Nat} (hb : ∀ id bx, b id = some bx → ∃ L, loc id = some L ∧ BoxR P S loc w bx L)
  (hl : ∀ id k L, pos id = some k → loc id = some L → loc' k = some (setVer (f id) L)) : RenR ⟨pos, curVer b f⟩ loc loc' := by
 refine ⟨fun id k L hp hL => ⟨_, hl id k L hp hL⟩, fun id ver v' k cur e sz hdr hp hv hL => ?_⟩
 obtain ⟨e', es, hbx, rfl⟩ := curVer_some hv
 obtain ⟨L, hL2, hB⟩ := hb id _ hbx
 rw [hL] at hL2
 cases hL2
 cases hB with
 | arr => exact ⟨rfl, hl id k _ hp hL⟩
end

structure Mem (P : Program) (S : Snap) (loc : Locs) (bm : Boxes) (w : World) : Prop where
 boxes : ∀ id bx, bm id = some bx → ∃ L, loc id = some L ∧ BoxR P S loc w bx L
 dom : ∀ id L, loc id = some L → ∃ bx, bm id = some bx
 imm : ∀ ad v, S ad = some v → w.cell? ad = some v
 sone : ∀ ad v, S ad = some v → v.oneCell' = true
 sdis : ∀ id L b, loc id = some L → L.block = some b → ∀ o, S ⟨b, o, none⟩ = none
 inj : ∀ id id' L L' b, loc id = some L → loc id' = some L' → L.block = some b → L'.block = some b → id = id'
theorem Sim.mem {P : Program} {X : Ctx} {S : Snap} {loc : Locs} {s : St} {tm : Array Value} {w : World} (h : Sim P X S loc s tm w) : Mem P S loc s.boxes w := ⟨h.boxes, h.dom, h.imm, h.sone, h.sdis, h.inj⟩
theorem Mem.loc_of {P : Program} {S : Snap} {loc : Locs} {boxes : Boxes} {w : World} (h : Mem P S loc boxes w) {id : Nat} {bx : Box} {L : Loc} (hb : boxes id = some bx) (hL : loc id = some L) : BoxR P S loc w bx L := by
 obtain ⟨L', h1, h2⟩ := h.boxes id bx hb
 rw [hL] at h1; cases h1; exact h2
theorem Mem.lt {P : Program} {S : Snap} {loc : Locs} {boxes : Boxes} {w : World} (h : Mem P S loc boxes w) {id b : Nat} {L : Loc} (hL : loc id = some L) (hb : L.block = some b) : b < w.heap.size := by
 obtain ⟨bx, hbx⟩ := h.dom id L hL
 exact (h.loc_of hbx hL).block_lt hb

theorem Mem.ren {P : Program} {S : Snap} {loc loc' : Locs} {b b' : Boxes} {w : World} {ρ : Ren} (h : Mem P S loc b w) (hr : RenR ρ loc loc')
  (hb : ∀ k bx', b' k = some bx' → ∃ id bx f, ρ.pos id = some k ∧ b id = some bx ∧ bx' = renB ρ f bx ∧ ∀ L, loc id = some L → loc' k = some (setVer f L))
  (hd : ∀ k L', loc' k = some L' → (∃ bx, b' k = some bx) ∧ ∃ id L f, ρ.pos id = some k ∧ loc id = some L ∧ L' = setVer f L) : Mem P S loc' b' w := by
 refine ⟨fun k bx' hk => ?_, fun k L' hk => (hd k L' hk).1, h.imm, h.sone, fun k L' bl hk hbl o => ?_, fun k k' L L' bl hk hk' hbl hbl' => ?_⟩
 ·obtain ⟨id, bx, f, h1, h2, rfl, h4⟩ := hb k bx' hk
  obtain ⟨L, h5, h6⟩ := h.boxes id bx h2
  exact ⟨_, h4 L h5, BoxR.ren hr f h6⟩
 ·obtain ⟨_, id, L, f, h1, h2, rfl⟩ := hd k L' hk
  rw [setVer_block] at hbl
  exact h.sdis id L bl h2 hbl o
 ·obtain ⟨_, id, L0, f, h1, h2, rfl⟩ := hd k L hk
  obtain ⟨_, id', L0', f', h1', h2', rfl⟩ := hd k' L' hk'
  rw [setVer_block] at hbl hbl'
  have := h.inj id id' L0 L0' bl h2 h2' hbl hbl'
  subst this
  rw [h1] at h1'
  exact Option.some.inj h1'
end Go.Dw
