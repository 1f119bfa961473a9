/- What eqCapS, eqTable and eqTableS answer on equal lists. No condition beyond those written. -/
import Derived.Test.YtdafogfpbpjmdaaCapS
namespace Go.Proofs.Ytdafogfpbpjmdaa
open Go.RowKit
set_option linter.unusedVariables false

theorem cell_below {w w' : World} {g : Nat} (hb : Below w.heap.size w w') (hg : g < w.heap.size) (j : Nat) : w'.cell? ⟨g, j, none⟩ = w.cell? ⟨g, j, none⟩ := World.cell?_of_block (hb.block g hg)
/-- Two capabilities of the same cells, read in memory that stands. -/
def TwC (w0 : World) (g o g' o' : Nat) (k x r b : Int) (w : World) : Prop := Below w0.heap.size w0 w ∧ (g < w0.heap.size ∧ CapCells w0 g o ⟨k, x, r, b⟩) ∧ (g' < w0.heap.size ∧ CapCells w0 g' o' ⟨k, x, r, b⟩)
section
variable {w0 w w1 : World} {g o g' o' : Nat} {k x r b : Int} {R : Prop}
theorem TwC.drew (h : TwC w0 g o g' o' k x r b w) : TwC w0 g o g' o' k x r b w.drew := ⟨h.1.drew, h.2⟩
theorem TwC.step (hb : Below w.heap.size w w1) (h : TwC w0 g o g' o' k x r b w ∧ R) : TwC w0 g o g' o' k x r b w1 := ⟨h.1.1.trans (hb.mono h.1.1.size), h.1.2⟩
theorem TwC.cells (h : TwC w0 g o g' o' k x r b w) : TwC w0 g o g' o' k x r b w ∧
    w.cell? ⟨g, o, none⟩ = some (.int .i64 k) ∧ w.cell? ⟨g, o + 1, none⟩ = some (.int .i64 x) ∧ w.cell? ⟨g, o + 2, none⟩ = some (.int .i64 r) ∧ w.cell? ⟨g, o + 3, none⟩ = some (.int .i64 b) ∧
    w.cell? ⟨g', o', none⟩ = some (.int .i64 k) ∧ w.cell? ⟨g', o' + 1, none⟩ = some (.int .i64 x) ∧ w.cell? ⟨g', o' + 2, none⟩ = some (.int .i64 r) ∧ w.cell? ⟨g', o' + 3, none⟩ = some (.int .i64 b) := by
  have h' := h
  obtain ⟨hb, ⟨hg, a0, a1, a2, a3⟩, ⟨hg', b0, b1, b2, b3⟩⟩ := h'
  have e := cell_below hb hg
  have e' := cell_below hb hg'
  exact ⟨h, (e _).trans a0, (e _).trans a1, (e _).trans a2, (e _).trans a3, (e' _).trans b0, (e' _).trans b1, (e' _).trans b2, (e' _).trans b3⟩
end

set_option maxHeartbeats 8000000 in
theorem laws_eqCapS (A A' : Option Addr) (n c c' : Nat) (cs : List Cp) (w : World) (h1 : CapRd w A n cs) (h2 : CapRd w A' n cs) (hn : n ≤ 2000000) :
    Calls Try.prog 49 #[.slice A n c, .slice A' n c'] w fun e w' => e = .returned (.bool true) ∧ Below w.heap.size w w' := by
  have H1 := Lib.hid h1
  have H2 := Lib.hid h2
  clear h1 h2
  go_enter Try.func49, Try.ntmps49
  go_wp2_with fail
  go_loopw [5] (fun i wr => ∃ j : Nat, j ≤ n ∧ i = .int .i64 j ∧ Below w.heap.size w wr) (fun i _ => n - (intOf i).toNat)
  case atStart => exact ⟨0, Nat.zero_le _, rfl, Below.refl _ _⟩
  case round =>
    obtain ⟨j, hj, rfl, hb⟩ := hrel
    by_cases hlt : j < n
    · obtain ⟨g, o, rfl, hg, hc⟩ := H1.out.2 (by omega)
      obtain ⟨g', o', rfl, hg', hc'⟩ := H2.out.2 (by omega)
      have hc := hc j hlt
      have hc' := hc' j hlt
      obtain ⟨k, x, r, b, hx⟩ : ∃ k x r b, cs.getD j C0 = ⟨k, x, r, b⟩ := ⟨_, _, _, _, rfl⟩
      rw [hx] at hc hc'
      have HT : Hid (TwC w g (o + j * 4) g' (o' + j * 4) k x r b wr) := ⟨hb, ⟨hg, hc⟩, ⟨hg', hc'⟩⟩
      have he := fun W => laws_eqCap k x r b k x r b W
      rw [capEq_refl] at he
      have hlt' : (j : Int) < (n : Int) := by omega
      have hj0 : (0 : Int) ≤ (j : Int) := by omega
      clear hb hg hg' hc hc' hx
      go_wp2_with fail
      (first
        | (go_region_held3 (fun w' => TwC w g (o + j * 4) g' (o' + j * 4) k x r b w' ∧
              w'.cell? ⟨g, o + j * 4, none⟩ = some (.int .i64 k) ∧ w'.cell? ⟨g, o + j * 4 + 1, none⟩ = some (.int .i64 x) ∧ w'.cell? ⟨g, o + j * 4 + 2, none⟩ = some (.int .i64 r) ∧ w'.cell? ⟨g, o + j * 4 + 3, none⟩ = some (.int .i64 b) ∧
              w'.cell? ⟨g', o' + j * 4, none⟩ = some (.int .i64 k) ∧ w'.cell? ⟨g', o' + j * 4 + 1, none⟩ = some (.int .i64 x) ∧ w'.cell? ⟨g', o' + j * 4 + 2, none⟩ = some (.int .i64 r) ∧ w'.cell? ⟨g', o' + j * 4 + 3, none⟩ = some (.int .i64 b))
            (first | exact (TwC.drew HT.out).cells | exact (TwC.step (by assumption) (by assumption)).cells)
            (first | (go_at_call 27; refine (he _).mono ?_; rintro e w9 ⟨rfl, hb9⟩)))
        | fail)
      have hT : TwC w g (o + j * 4) g' (o' + j * 4) k x r b w9 := And.left (by assumption)
      have HT := Lib.hid hT
      clear hT
      go_wp2_with fail
      go_roundw
      case rel => exact ⟨j + 1, by omega, by go_num, HT.out.1⟩
      case measure => simp [intOf]; omega
    · have hge : ¬ (j : Int) < (n : Int) := by omega
      have HB := Lib.hid hb
      clear hb
      go_wp2_with fail
      go_ret
      exact ⟨rfl, HB.out⟩

set_option maxHeartbeats 4000000 in
theorem laws_eqTable (bits guard gbits : Int) (S S' : Option Addr) (n c c' : Nat) (cs : List Cp) (w : World) (h1 : CapRd w S n cs) (h2 : CapRd w S' n cs) (hn : n ≤ 2000000) :
    Calls Try.prog 19 #[.agg #[.int .i64 bits, .int .i64 guard, .int .i64 gbits, .slice S n c], .agg #[.int .i64 bits, .int .i64 guard, .int .i64 gbits, .slice S' n c']] w
    fun e w' => e = .returned (.bool true) ∧ Below w.heap.size w w' := by
  have he := fun W (hW : Below w.heap.size w W) => laws_eqCapS S S' n c c' cs W (h1.below hW) (h2.below hW) hn
  have hB0 := below_al (below_al (Below.refl _ w) (.cells #[.int .i64 bits, .int .i64 guard, .int .i64 gbits, .slice S n c] 29)) (.cells #[.int .i64 bits, .int .i64 guard, .int .i64 gbits, .slice S' n c'] 29)
  clear h1 h2
  go_enter Try.func19, Try.ntmps19
  go_wp2_with fail
  refine (he _ hB0).mono ?_
  rintro e w1 ⟨rfl, hb1⟩
  have hB := below_next hB0 hb1
  clear hb1 he hB0
  go_wp2_with fail
  go_ret
  exact ⟨rfl, hB⟩

/-- Two tables of the same cells, read in memory that stands. -/
def TwT (w0 : World) (g o g' o' : Nat) (t : Tab) (S S' : Option Addr) (c c' : Nat) (w : World) : Prop := Below w0.heap.size w0 w ∧ (g < w0.heap.size ∧ TabCell w0 g o t S c) ∧ (g' < w0.heap.size ∧ TabCell w0 g' o' t S' c')
section
variable {w0 w w1 : World} {g o g' o' : Nat} {t : Tab} {S S' : Option Addr} {c c' : Nat} {R : Prop}
theorem TwT.drew (h : TwT w0 g o g' o' t S S' c c' w) : TwT w0 g o g' o' t S S' c c' w.drew := ⟨h.1.drew, h.2⟩
theorem TwT.step (hb : Below w.heap.size w w1) (h : TwT w0 g o g' o' t S S' c c' w ∧ R) : TwT w0 g o g' o' t S S' c c' w1 := ⟨h.1.1.trans (hb.mono h.1.1.size), h.1.2⟩
theorem TwT.cells (h : TwT w0 g o g' o' t S S' c c' w) {x y z : Int} {m : Nat} (hx : t.bits = x) (hy : t.guard = y) (hz : t.gbits = z) (hm : t.slots.length = m) : TwT w0 g o g' o' t S S' c c' w ∧
    w.cell? ⟨g, o, none⟩ = some (.int .i64 x) ∧ w.cell? ⟨g, o + 1, none⟩ = some (.int .i64 y) ∧ w.cell? ⟨g, o + 2, none⟩ = some (.int .i64 z) ∧ w.cell? ⟨g, o + 3, none⟩ = some (.slice S m c) ∧
    w.cell? ⟨g', o', none⟩ = some (.int .i64 x) ∧ w.cell? ⟨g', o' + 1, none⟩ = some (.int .i64 y) ∧ w.cell? ⟨g', o' + 2, none⟩ = some (.int .i64 z) ∧ w.cell? ⟨g', o' + 3, none⟩ = some (.slice S' m c') := by
  subst hx hy hz hm
  have h' := h
  obtain ⟨hb, ⟨hg, a0, a1, a2, a3, -⟩, ⟨hg', b0, b1, b2, b3, -⟩⟩ := h'
  have e := cell_below hb hg
  have e' := cell_below hb hg'
  exact ⟨h, (e _).trans a0, (e _).trans a1, (e _).trans a2, (e _).trans a3, (e' _).trans b0, (e' _).trans b1, (e' _).trans b2, (e' _).trans b3⟩
theorem TwT.rd (h : TwT w0 g o g' o' t S S' c c' w ∧ R) : CapRd w S t.slots.length t.slots ∧ CapRd w S' t.slots.length t.slots :=
  ⟨h.1.2.1.2.2.2.2.2.2.2.below h.1.1, h.1.2.2.2.2.2.2.2.2.2.below h.1.1⟩
end
def SmallT (ts : List Tab) : Prop := ∀ i, (ts.getD i T0).slots.length ≤ 2000000

set_option maxHeartbeats 8000000 in
theorem laws_eqTableS (A A' : Option Addr) (n c c' : Nat) (ts : List Tab) (w : World) (h1 : TabRd w A n ts) (h2 : TabRd w A' n ts) (hn : n ≤ 2000000) (hs : SmallT ts) :
    Calls Try.prog 24 #[.slice A n c, .slice A' n c'] w fun e w' => e = .returned (.bool true) ∧ Below w.heap.size w w' := by
  have H1 := Lib.hid h1
  have H2 := Lib.hid h2
  have HS := Lib.hid hs
  clear h1 h2 hs
  go_enter Try.func24, Try.ntmps24
  go_wp2_with fail
  go_loopw [5] (fun i wr => ∃ j : Nat, j ≤ n ∧ i = .int .i64 j ∧ Below w.heap.size w wr) (fun i _ => n - (intOf i).toNat)
  case atStart => exact ⟨0, Nat.zero_le _, rfl, Below.refl _ _⟩
  case round =>
    obtain ⟨j, hj, rfl, hb⟩ := hrel
    by_cases hlt : j < n
    · obtain ⟨g, o, rfl, hg, hc⟩ := H1.out.2 (by omega)
      obtain ⟨g', o', rfl, hg', hc'⟩ := H2.out.2 (by omega)
      obtain ⟨S, q, hc⟩ := hc j hlt
      obtain ⟨S', q', hc'⟩ := hc' j hlt
      have HT : Hid (TwT w g (o + j * 4) g' (o' + j * 4) (ts.getD j T0) S S' q q' wr) := ⟨hb, ⟨hg, hc⟩, ⟨hg', hc'⟩⟩
      have hsm := HS.out j
      have he := fun W R (hW : TwT w g (o + j * 4) g' (o' + j * 4) (ts.getD j T0) S S' q q' W ∧ R) => laws_eqTable (ts.getD j T0).bits (ts.getD j T0).guard (ts.getD j T0).gbits S S' (ts.getD j T0).slots.length q q' (ts.getD j T0).slots W (TwT.rd hW).1 (TwT.rd hW).2 hsm
      have hlt' : (j : Int) < (n : Int) := by omega
      have hj0 : (0 : Int) ≤ (j : Int) := by omega
      clear hb hg hg' hc hc' hsm
      generalize hx : (ts.getD j T0).bits = x at *
      generalize hy : (ts.getD j T0).guard = y at *
      generalize hz : (ts.getD j T0).gbits = z at *
      generalize hm : (ts.getD j T0).slots.length = m at *
      have HX := Lib.hid hx
      have HY := Lib.hid hy
      have HZ := Lib.hid hz
      have HM := Lib.hid hm
      clear hx hy hz hm
      go_wp2_with fail
      (first
        | (go_region_held3 (fun w' => TwT w g (o + j * 4) g' (o' + j * 4) (ts.getD j T0) S S' q q' w' ∧
              w'.cell? ⟨g, o + j * 4, none⟩ = some (.int .i64 x) ∧ w'.cell? ⟨g, o + j * 4 + 1, none⟩ = some (.int .i64 y) ∧ w'.cell? ⟨g, o + j * 4 + 2, none⟩ = some (.int .i64 z) ∧ w'.cell? ⟨g, o + j * 4 + 3, none⟩ = some (.slice S m q) ∧
              w'.cell? ⟨g', o' + j * 4, none⟩ = some (.int .i64 x) ∧ w'.cell? ⟨g', o' + j * 4 + 1, none⟩ = some (.int .i64 y) ∧ w'.cell? ⟨g', o' + j * 4 + 2, none⟩ = some (.int .i64 z) ∧ w'.cell? ⟨g', o' + j * 4 + 3, none⟩ = some (.slice S' m q'))
            (first | exact (TwT.drew HT.out).cells HX.out HY.out HZ.out HM.out | exact (TwT.step (by assumption) (by assumption)).cells HX.out HY.out HZ.out HM.out)
            (first | (go_at_call 19; refine (he _ _ (by assumption)).mono ?_; rintro e w9 ⟨rfl, hb9⟩)))
        | fail)
      have hT : TwT w g (o + j * 4) g' (o' + j * 4) (ts.getD j T0) S S' q q' w9 := And.left (by assumption)
      have HT := Lib.hid hT
      clear hT
      go_wp2_with fail
      go_roundw
      case rel => exact ⟨j + 1, by omega, by go_num, HT.out.1⟩
      case measure => simp [intOf]; omega
    · have hge : ¬ (j : Int) < (n : Int) := by omega
      have HB := Lib.hid hb
      clear hb
      go_wp2_with fail
      go_ret
      exact ⟨rfl, HB.out⟩

end Go.Proofs.Ytdafogfpbpjmdaa
