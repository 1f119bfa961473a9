/- What PieceValid of the program computes. No condition. -/
import Derived.Test.YtabjkjbclpokeaaPiecePlain
import Derived.Test.YtabjkjbclpokeaaBlocks
import Derived.Test.YtabjkjbclpokeaaRegion
namespace Go.Proofs.Ytabjkjbclpokeaa
open Go.RowKit
set_option linter.unusedVariables false

set_option maxHeartbeats 4000000 in
theorem impl_PieceValid (s b u : Int) (w : World) :
    Calls Try.prog 17 #[.agg #[.int .i64 s, .int .i64 b, .int .i64 u]] w fun e w' => e = .returned (.bool (pieceOk s b u)) ∧ Below w.heap.size w w' := by
  have H : pieceOk s b u = (inB b 0 16 && inB s 0 (65536 - pw b) && (s % pw b == 0) && inB u 0 (pw b)) := rfl
  cases h1 : inB b 0 16
  · rw [h1] at H
    have HH := Lib.hid H
    clear H
    go_enter Try.func17, Try.ntmps17
    go_wp2_with fail
    go_quiet ((go_at_call 38; exact quiet_left (impl_in _ _ _ _)))
    go_wp2_with fail
    go_ret
    exact ⟨ret_bool (HH.out.trans (by simp)).symm, below_drewN (below_al (Below.refl _ _) _) _⟩
  · rw [h1] at H
    obtain ⟨b0, b1⟩ := inB_iff.1 h1
    have hsh := pw_wrap b1
    have hsh2 := pw_i64 b1
    have hp := pw_pos b
    have hq := pw_max b1
    generalize pw b = B at *
    have hsu : IntKind.i64.wrap (65536 - B) = 65536 - B := i64_id (by omega) (by omega)
    cases h2 : inB s 0 (65536 - B)
    · rw [h2] at H
      have HH := Lib.hid H
      clear H
      go_enter Try.func17, Try.ntmps17
      go_wp2_with fail
      go_quiet ((go_at_call 38; exact quiet_left (impl_in _ _ _ _)))
      go_wp2_with fail
      go_ret
      exact ⟨ret_bool (HH.out.trans (by simp)).symm, below_drewN (below_al (Below.refl _ _) _) _⟩
    · rw [h2] at H
      obtain ⟨s0, s1⟩ := inB_iff.1 h2
      have hB0 : ¬ B = 0 := by omega
      have hmo : s.tmod B = s % B := Int.tmod_eq_emod_of_nonneg s0
      cases h3 : (s % B == 0)
      all_goals
        rw [h3] at H
        have HH := Lib.hid H
        clear H
        go_enter Try.func17, Try.ntmps17
        go_wp2_with fail
        go_quiet ((go_at_call 38; exact quiet_left (impl_in _ _ _ _)))
        go_wp2_with fail
        go_ret
        exact ⟨ret_bool (HH.out.trans (by simp)).symm, below_drewN (below_al (Below.refl _ _) _) _⟩

end Go.Proofs.Ytabjkjbclpokeaa
