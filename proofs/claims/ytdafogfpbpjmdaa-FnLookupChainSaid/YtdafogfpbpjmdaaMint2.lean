/- What MintCap, UnpackCap and toCap compute. No condition but that UnpackCap's number is an int. -/
import Derived.Test.YtdafogfpbpjmdaaMint
namespace Go.Proofs.Ytdafogfpbpjmdaa
open Go.RowKit
set_option linter.unusedVariables false

set_option maxHeartbeats 1000000 in
theorem laws_toCap (k o r b : Int) (w : World) :
    Calls Try.prog 31 #[.agg #[.int .i64 k, .int .i64 o, .int .i64 r, .int .i64 b]] w fun e w' => e = .returned (.agg #[.int .i64 k, .int .i64 o, .int .i64 r, .int .i64 b]) ∧ Below w.heap.size w w' := by
  go_enter Try.func31, Try.ntmps31
  go_wp2_with fail
  refine bodyPost_ret (v := .agg #[.int .i64 k, .int .i64 o, .int .i64 r, .int .i64 b]) (by simp [results, Try.results31, go_sem]) rfl ⟨rfl, ?_⟩
  repeat (first | exact Below.refl _ _ | refine below_al ?_ _ | refine below_set ?_ (by simp) _)

def mintB (b badge : Int) : Int := if 0 < badge then badge else b
theorem mintB_pos {b badge : Int} (h : 0 < badge) : mintB b badge = badge := if_pos h
theorem mintB_zero {b badge : Int} (h : badge = 0) : mintB b badge = b := if_neg (by omega)
theorem mintOk_parts {k o r b rights badge : Int} (h : mintOk k o r b rights badge = true) :
    capOk k o r b = true ∧ rValid rights = true ∧ inB badge 0 999 = true ∧ (k == 0) = false ∧ (k == 1) = false ∧ (k == 7) = false ∧ (0 < badge → badgedB k = true ∧ (b == 0) = true) := by
  unfold mintOk at h
  simp only [Bool.and_eq_true, Bool.not_eq_true', Bool.and_eq_false_iff, Bool.or_eq_false_iff, decide_eq_false_iff_not, Bool.not_eq_false'] at h
  obtain ⟨⟨⟨⟨⟨⟨h1, h2⟩, h3⟩, h4⟩, h5⟩, h6⟩, h7⟩ := h
  refine ⟨h1, h2, h3, h4, h5, h6, fun hb => ?_⟩
  rcases h7 with h7 | h7
  · exact absurd hb h7
  · exact h7

end Go.Proofs.Ytdafogfpbpjmdaa
