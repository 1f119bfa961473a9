/- What eqEntry and eqEntryS answer on equal lists. No condition beyond those written. -/
import Derived.Test.YtpglfbjjmnaojaaEntS
import Derived.Test.YtpglfbjjmnaojaaHeld
namespace Go.Proofs.Ytpglfbjjmnaojaa
open Go.RowKit
set_option linter.unusedVariables false

set_option maxHeartbeats 1000000 in
theorem laws_eqEntry (k o r b p : Int) (g : Bool) (w : World) : Calls Try.prog 54 #[.agg #[.int .i64 k, .int .i64 o, .int .i64 r, .int .i64 b, .int .i64 p, .bool g], .agg #[.int .i64 k, .int .i64 o, .int .i64 r, .int .i64 b, .int .i64 p, .bool g]] w
    fun e w' => e = .returned (.bool true) ∧ Below w.heap.size w w' := by
  have hc := laws_eqCap k o r b k o r b
  rw [capEq_refl] at hc
  go_enter Try.func54, Try.ntmps54
  go_wp2_with fail
  refine (hc _).mono ?_
  rintro e w1 ⟨rfl, hb1⟩
  have hA := CAt.below (CAt.alloc (CAt.new w 48 [.int .i64 k, .int .i64 o, .int .i64 r, .int .i64 b, .int .i64 p, .bool g]) _) hb1
  have hE := CAt.below (CAt.new (w.alloc _) 48 [.int .i64 k, .int .i64 o, .int .i64 r, .int .i64 b, .int .i64 p, .bool g]) hb1
  simp only [World.size_alloc] at hE
  have hB := below_next (below_al (below_al (Below.refl _ w) _) _) hb1
  obtain ⟨a0, a1, a2, a3, a4, a5⟩ := hA.cells6
  obtain ⟨e0, e1, e2, e3, e4, e5⟩ := hE.cells6
  clear hA hE hb1 hc
  go_wp2_with fail
  go_ret
  exact ⟨rfl, hB⟩

/-- Two lists of equal entries, with what lay below B as it was. -/
def Twin (B : Nat) (w0 : World) (A : Option Addr) (A' : Option Addr) (n c c' b1 b2 : Nat) (es : List Ent) (w : World) : Prop := EntO w b1 A n c es ∧ EntO w b2 A' n c' es ∧ Below B w0 w ∧ B ≤ w.heap.size
section
variable {B n c c' b1 b2 : Nat} {w0 w w1 : World} {A A' : Option Addr} {es : List Ent} {R : Prop}
theorem Twin.drew (h : Twin B w0 A A' n c c' b1 b2 es w) : Twin B w0 A A' n c c' b1 b2 es w.drew := ⟨h.1, h.2.1, h.2.2.1.drew, h.2.2.2⟩
theorem Twin.step (hb : Below w.heap.size w w1) (h : Twin B w0 A A' n c c' b1 b2 es w ∧ R) : Twin B w0 A A' n c c' b1 b2 es w1 :=
  ⟨h.1.1.below hb, h.1.2.1.below hb, h.1.2.2.1.trans (hb.mono h.1.2.2.2), Nat.le_trans h.1.2.2.2 hb.size⟩
theorem Twin.cells {g g' : Nat} (h : Twin B w0 (some ⟨g, 0, none⟩) (some ⟨g', 0, none⟩) n c c' b1 b2 es w) {j : Nat} {k o r b p : Int} {q : Bool} (hj : j < n) (he : es.getD j E0 = ⟨k, o, r, b, p, q⟩) :
    Twin B w0 (some ⟨g, 0, none⟩) (some ⟨g', 0, none⟩) n c c' b1 b2 es w ∧
    w.cell? ⟨g, j * 6, none⟩ = some (.int .i64 k) ∧ w.cell? ⟨g, j * 6 + 1, none⟩ = some (.int .i64 o) ∧ w.cell? ⟨g, j * 6 + 2, none⟩ = some (.int .i64 r) ∧ w.cell? ⟨g, j * 6 + 3, none⟩ = some (.int .i64 b) ∧ w.cell? ⟨g, j * 6 + 4, none⟩ = some (.int .i64 p) ∧ w.cell? ⟨g, j * 6 + 5, none⟩ = some (.bool q) ∧
    w.cell? ⟨g', j * 6, none⟩ = some (.int .i64 k) ∧ w.cell? ⟨g', j * 6 + 1, none⟩ = some (.int .i64 o) ∧ w.cell? ⟨g', j * 6 + 2, none⟩ = some (.int .i64 r) ∧ w.cell? ⟨g', j * 6 + 3, none⟩ = some (.int .i64 b) ∧ w.cell? ⟨g', j * 6 + 4, none⟩ = some (.int .i64 p) ∧ w.cell? ⟨g', j * 6 + 5, none⟩ = some (.bool q) := by
  obtain ⟨x, hx, -, -, h1, -⟩ := h.1.at_ (by omega)
  obtain ⟨y, hy, -, -, h2, -⟩ := h.2.1.at_ (by omega)
  injection hx with hx
  injection hx with hx
  injection hy with hy
  injection hy with hy
  subst hx hy
  have h1 := h1 j hj
  have h2 := h2 j hj
  rw [he] at h1 h2
  obtain ⟨x0, x1, x2, x3, x4, x5⟩ := h1
  obtain ⟨y0, y1, y2, y3, y4, y5⟩ := h2
  exact ⟨h, x0, x1, x2, x3, x4, x5, y0, y1, y2, y3, y4, y5⟩
end

set_option maxHeartbeats 8000000 in
theorem laws_eqEntryS (A A' : Option Addr) (n c c' b1 b2 : Nat) (es : List Ent) (w : World) (h1 : EntO w b1 A n c es) (h2 : EntO w b2 A' n c' es) (hn : n ≤ 2000000) :
    Calls Try.prog 21 #[.slice A n c, .slice A' n c'] w fun e w' => e = .returned (.bool true) ∧ Below w.heap.size w w' := by
  have HT : Hid (Twin w.heap.size w A A' n c c' b1 b2 es w) := ⟨h1, h2, Below.refl _ _, Nat.le_refl _⟩
  clear h1 h2
  go_enter Try.func21, Try.ntmps21
  go_wp2_with fail
  go_loopw [5] (fun i wr => ∃ j : Nat, j ≤ n ∧ i = .int .i64 j ∧ Twin w.heap.size w A A' n c c' b1 b2 es wr) (fun i _ => n - (intOf i).toNat)
  case atStart => exact ⟨0, Nat.zero_le _, rfl, HT.out⟩
  case round =>
    clear HT
    obtain ⟨j, hj, rfl, hT⟩ := hrel
    by_cases hlt : j < n
    · obtain ⟨g, rfl, -⟩ := hT.1.at_ (by omega)
      obtain ⟨g', rfl, -⟩ := hT.2.1.at_ (by omega)
      obtain ⟨k, o, r, b, p, q, hx⟩ : ∃ k o r b p q, es.getD j E0 = ⟨k, o, r, b, p, q⟩ := ⟨_, _, _, _, _, _, rfl⟩
      have HX := Lib.hid hx
      clear hx
      have hlt' : (j : Int) < (n : Int) := by omega
      have hj0 : (0 : Int) ≤ (j : Int) := by omega
      have HT := Lib.hid hT
      clear hT
      go_wp2_with fail
      (first
        | (go_region_held3 (fun w' => Twin w.heap.size w (some ⟨g, 0, none⟩) (some ⟨g', 0, none⟩) n c c' b1 b2 es w' ∧
              w'.cell? ⟨g, j * 6, none⟩ = some (.int .i64 k) ∧ w'.cell? ⟨g, j * 6 + 1, none⟩ = some (.int .i64 o) ∧ w'.cell? ⟨g, j * 6 + 2, none⟩ = some (.int .i64 r) ∧ w'.cell? ⟨g, j * 6 + 3, none⟩ = some (.int .i64 b) ∧ w'.cell? ⟨g, j * 6 + 4, none⟩ = some (.int .i64 p) ∧ w'.cell? ⟨g, j * 6 + 5, none⟩ = some (.bool q) ∧
              w'.cell? ⟨g', j * 6, none⟩ = some (.int .i64 k) ∧ w'.cell? ⟨g', j * 6 + 1, none⟩ = some (.int .i64 o) ∧ w'.cell? ⟨g', j * 6 + 2, none⟩ = some (.int .i64 r) ∧ w'.cell? ⟨g', j * 6 + 3, none⟩ = some (.int .i64 b) ∧ w'.cell? ⟨g', j * 6 + 4, none⟩ = some (.int .i64 p) ∧ w'.cell? ⟨g', j * 6 + 5, none⟩ = some (.bool q))
            (first | exact (Twin.drew HT.out).cells hlt HX.out | exact (Twin.step (by assumption) (by assumption)).cells hlt HX.out)
            (first | (go_at_call 54; refine (laws_eqEntry _ _ _ _ _ _ _).mono ?_; rintro e w9 ⟨rfl, hb9⟩)))
        | fail)
      have hT : Twin w.heap.size w (some ⟨g, 0, none⟩) (some ⟨g', 0, none⟩) n c c' b1 b2 es w9 := And.left (by assumption)
      have HT := Lib.hid hT
      go_wp2_with fail
      go_roundw
      case rel => exact ⟨j + 1, by omega, by go_num, HT.out⟩
      case measure => simp [intOf]; omega
    · have hge : ¬ (j : Int) < (n : Int) := by omega
      have HT := Lib.hid hT
      clear hT
      go_wp2_with fail
      go_ret
      exact ⟨rfl, HT.out.2.2.1⟩

end Go.Proofs.Ytpglfbjjmnaojaa
