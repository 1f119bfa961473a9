/- What PieceValid of the reference computes. No condition. -/
import Derived.Test.YtabjkjbclpokeaaPiecePlain
import Derived.Test.YtabjkjbclpokeaaBlocks
import Derived.Test.YtabjkjbclpokeaaRegion
namespace Go.Proofs.Ytabjkjbclpokeaa
open Go.RowKit
set_option linter.unusedVariables false

theorem pieceOk_spec (s b u : Int) : pieceOk s b u = (inB b 0 16 && inB s 0 65536 && (s % pw b == 0) && decide (s + pw b ≤ 65536) && inB u 0 (pw b)) := by
  have h := pw_pos b
  rw [Bool.eq_iff_iff, pieceOk_iff]
  simp only [Bool.and_eq_true, inB_iff, beq_iff_eq, decide_eq_true_eq, and_assoc]
  constructor
  · rintro ⟨a1, a2, a3, a4, a5, a6, a7⟩; exact ⟨a1, a2, a3, by omega, a5, a4, a6, a7⟩
  · rintro ⟨a1, a2, a3, a4, a5, a6, a7, a8⟩; exact ⟨a1, a2, a3, a6, a5, a7, a8⟩

set_option maxHeartbeats 8000000 in
theorem spec_PieceValid (s b u : Int) (w : World) :
    Calls Try.prog 15 #[.agg #[.int .i64 s, .int .i64 b, .int .i64 u]] w fun e w' => e = .returned (.bool (pieceOk s b u)) ∧ Below w.heap.size w w' := by
  have H := pieceOk_spec s b u
  cases h1 : inB b 0 16
  · rw [h1] at H
    have HH := Lib.hid H
    clear H
    go_enter Try.func15, Try.ntmps15
    go_wp2_with fail
    go_quiet ((go_at_call 37; exact quiet_left (spec_in _ _ _ _)))
    go_wp2_with fail
    go_ret
    exact ⟨ret_bool (HH.out.trans (by simp)).symm, below_drewN (below_al (Below.refl _ _) _) _⟩
  · rw [h1] at H
    obtain ⟨b0, b1⟩ := inB_iff.1 h1
    have hsh := pw_wrap b1
    have hsh2 := pw_i64 b1
    have hp := pw_pos b
    have hq := pw_max b1
    generalize pw b = B at *
    cases h2 : inB s 0 65536
    · rw [h2] at H
      have HH := Lib.hid H
      clear H
      go_enter Try.func15, Try.ntmps15
      go_wp2_with fail
      go_quiet ((go_at_call 37; exact quiet_left (spec_in _ _ _ _)))
      go_wp2_with fail
      go_ret
      exact ⟨ret_bool (HH.out.trans (by simp)).symm, below_drewN (below_al (Below.refl _ _) _) _⟩
    · rw [h2] at H
      obtain ⟨s0, s1⟩ := inB_iff.1 h2
      have hB0 : ¬ B = 0 := by omega
      have hmo : s.tmod B = s % B := Int.tmod_eq_emod_of_nonneg s0
      have hsum : IntKind.i64.wrap (s + B) = s + B := i64_id (by omega) (by omega)
      cases h3 : (s % B == 0)
      · rw [h3] at H
        have HH := Lib.hid H
        clear H
        go_enter Try.func15, Try.ntmps15
        go_wp2_with fail
        go_quiet ((go_at_call 37; exact quiet_left (spec_in _ _ _ _)))
        go_wp2_with fail
        go_ret
        exact ⟨ret_bool (HH.out.trans (by simp)).symm, below_drewN (below_al (Below.refl _ _) _) _⟩
      · rw [h3] at H
        by_cases h4 : s + B ≤ 65536
        · rw [decide_eq_true h4] at H
          have HH := Lib.hid H
          clear H
          go_enter Try.func15, Try.ntmps15
          go_wp2_with fail
          go_quiet ((go_at_call 37; exact quiet_left (spec_in _ _ _ _)))
          go_wp2_with fail
          go_ret
          exact ⟨ret_bool (HH.out.trans (by simp)).symm, below_drewN (below_al (Below.refl _ _) _) _⟩
        · rw [decide_eq_false h4] at H
          have h5 := decide_eq_false h4
          clear h4
          have HH := Lib.hid H
          clear H
          go_enter Try.func15, Try.ntmps15
          go_wp2_with fail
          go_quiet ((go_at_call 37; exact quiet_left (spec_in _ _ _ _)))
          go_wp2_with fail
          go_ret
          exact ⟨ret_bool (HH.out.trans (by simp)).symm, below_drewN (below_al (Below.refl _ _) _) _⟩

end Go.Proofs.Ytabjkjbclpokeaa
