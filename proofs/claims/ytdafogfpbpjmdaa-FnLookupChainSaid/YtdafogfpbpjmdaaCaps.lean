/- What CapValid, CapWithin and the equality of capabilities compute. No condition. -/
import Derived.Test.YtdafogfpbpjmdaaRights
namespace Go.Proofs.Ytdafogfpbpjmdaa
open Go.RowKit
set_option linter.unusedVariables false

def badgedB (k : Int) : Bool := k == 4 || k == 5
def capOk (k o r b : Int) : Bool :=
  if k = 0 then o == 0 && r == 0 && b == 0
  else inB k 1 7 && inB o 0 99 && rValid r && (b == 0 || badgedB k && inB b 0 999)

set_option maxHeartbeats 400000 in
theorem spec_badged (k : Int) (w : World) : Calls Try.prog 71 #[.int .i64 k] w fun e w' => e = .returned (.bool (badgedB k)) ∧ w = w' := by
  unfold badgedB
  cases h4 : (k == 4) <;> cases h5 : (k == 5)
  all_goals
    go_enter Try.func71, Try.ntmps71
    go_wp2
  all_goals first
    | (go_ret; exact ⟨by simp, rfl⟩)
    | skip

set_option maxHeartbeats 400000 in
theorem impl_badged (k : Int) (w : World) : Calls Try.prog 65 #[.int .i64 k] w fun e w' => e = .returned (.bool (badgedB k)) ∧ w = w' := by
  unfold badgedB
  cases h4 : (k == 4) <;> cases h5 : (k == 5)
  all_goals
    go_enter Try.func65, Try.ntmps65
    go_wp2
  all_goals first
    | (go_ret; exact ⟨by simp, rfl⟩)
    | skip

set_option maxHeartbeats 400000 in
theorem impl_isObject (n : Int) (w : World) : Calls Try.prog 63 #[.int .i64 n] w fun e w' => e = .returned (.bool (inB n 0 99)) ∧ w = w' := by
  go_enter Try.func63, Try.ntmps63
  go_wp2_with (go_at_call 47; refine (impl_in _ _ _ _).mono ?_; rintro e w' ⟨rfl, rfl⟩)
  go_ret
  exact ⟨rfl, rfl⟩

set_option maxHeartbeats 2000000 in
theorem impl_CapValid (k o r b : Int) (w : World) :
    Calls Try.prog 39 #[.agg #[.int .i64 k, .int .i64 o, .int .i64 r, .int .i64 b]] w fun e w' => e = .returned (.bool (capOk k o r b)) ∧ w.alloc (.cells #[.int .i64 k, .int .i64 o, .int .i64 r, .int .i64 b] 41) = w' := by
  by_cases hk : k = 0
  · subst hk
    go_enter Try.func39, Try.ntmps39
    go_wp2_with fail
    all_goals
      go_ret
      refine ⟨ret_bool ?_, ?_⟩
      · simp [capOk, *]
      · first | rfl | simp [*]
  · have hk0 : (k == 0) = false := by rw [beq_eq_false_iff_ne]; exact hk
    have H : capOk k o r b = (inB k 1 7 && inB o 0 99 && rValid r && (b == 0 || badgedB k && inB b 0 999)) := by simp [capOk, hk]
    clear hk
    cases h1 : inB k 1 7
    all_goals rw [h1] at H
    · have HH := Lib.hid H
      clear H
      go_enter Try.func39, Try.ntmps39
      go_wp2_with (first
          | (go_at_call 47; refine (impl_in _ _ _ _).mono ?_; rintro e w' ⟨rfl, rfl⟩)
          | (go_at_call 63; refine (impl_isObject _ _).mono ?_; rintro e w' ⟨rfl, rfl⟩)
          | (go_at_call 64; refine (impl_RightsValid _ _).mono ?_; rintro e w' ⟨rfl, rfl⟩)
          | (go_at_call 65; refine (impl_badged _ _).mono ?_; rintro e w' ⟨rfl, rfl⟩))
      go_ret
      exact ⟨ret_bool (HH.out.trans (by simp)).symm, rfl⟩
    · cases h2 : inB o 0 99
      all_goals rw [h2] at H
      · have HH := Lib.hid H
        clear H
        go_enter Try.func39, Try.ntmps39
        go_wp2_with (first
            | (go_at_call 47; refine (impl_in _ _ _ _).mono ?_; rintro e w' ⟨rfl, rfl⟩)
            | (go_at_call 63; refine (impl_isObject _ _).mono ?_; rintro e w' ⟨rfl, rfl⟩)
            | (go_at_call 64; refine (impl_RightsValid _ _).mono ?_; rintro e w' ⟨rfl, rfl⟩)
            | (go_at_call 65; refine (impl_badged _ _).mono ?_; rintro e w' ⟨rfl, rfl⟩))
        go_ret
        exact ⟨ret_bool (HH.out.trans (by simp)).symm, rfl⟩
      · cases h3 : rValid r
        all_goals rw [h3] at H
        · have HH := Lib.hid H
          clear H
          go_enter Try.func39, Try.ntmps39
          go_wp2_with (first
              | (go_at_call 47; refine (impl_in _ _ _ _).mono ?_; rintro e w' ⟨rfl, rfl⟩)
              | (go_at_call 63; refine (impl_isObject _ _).mono ?_; rintro e w' ⟨rfl, rfl⟩)
              | (go_at_call 64; refine (impl_RightsValid _ _).mono ?_; rintro e w' ⟨rfl, rfl⟩)
              | (go_at_call 65; refine (impl_badged _ _).mono ?_; rintro e w' ⟨rfl, rfl⟩))
          go_ret
          exact ⟨ret_bool (HH.out.trans (by simp)).symm, rfl⟩
        · cases h4 : badgedB k
          all_goals rw [h4] at H
          · cases h6 : (b == 0)
            all_goals rw [h6] at H
            · have HH := Lib.hid H
              clear H
              go_enter Try.func39, Try.ntmps39
              go_wp2_with (first
                  | (go_at_call 47; refine (impl_in _ _ _ _).mono ?_; rintro e w' ⟨rfl, rfl⟩)
                  | (go_at_call 63; refine (impl_isObject _ _).mono ?_; rintro e w' ⟨rfl, rfl⟩)
                  | (go_at_call 64; refine (impl_RightsValid _ _).mono ?_; rintro e w' ⟨rfl, rfl⟩)
                  | (go_at_call 65; refine (impl_badged _ _).mono ?_; rintro e w' ⟨rfl, rfl⟩))
              go_ret
              exact ⟨ret_bool (HH.out.trans (by simp)).symm, rfl⟩
            · have HH := Lib.hid H
              clear H
              go_enter Try.func39, Try.ntmps39
              go_wp2_with (first
                  | (go_at_call 47; refine (impl_in _ _ _ _).mono ?_; rintro e w' ⟨rfl, rfl⟩)
                  | (go_at_call 63; refine (impl_isObject _ _).mono ?_; rintro e w' ⟨rfl, rfl⟩)
                  | (go_at_call 64; refine (impl_RightsValid _ _).mono ?_; rintro e w' ⟨rfl, rfl⟩)
                  | (go_at_call 65; refine (impl_badged _ _).mono ?_; rintro e w' ⟨rfl, rfl⟩))
              go_ret
              exact ⟨ret_bool (HH.out.trans (by simp)).symm, rfl⟩
          · cases h5 : inB b 0 999
            all_goals rw [h5] at H
            · cases h6 : (b == 0)
              all_goals rw [h6] at H
              · have HH := Lib.hid H
                clear H
                go_enter Try.func39, Try.ntmps39
                go_wp2_with (first
                    | (go_at_call 47; refine (impl_in _ _ _ _).mono ?_; rintro e w' ⟨rfl, rfl⟩)
                    | (go_at_call 63; refine (impl_isObject _ _).mono ?_; rintro e w' ⟨rfl, rfl⟩)
                    | (go_at_call 64; refine (impl_RightsValid _ _).mono ?_; rintro e w' ⟨rfl, rfl⟩)
                    | (go_at_call 65; refine (impl_badged _ _).mono ?_; rintro e w' ⟨rfl, rfl⟩))
                go_ret
                exact ⟨ret_bool (HH.out.trans (by simp)).symm, rfl⟩
              · have HH := Lib.hid H
                clear H
                go_enter Try.func39, Try.ntmps39
                go_wp2_with (first
                    | (go_at_call 47; refine (impl_in _ _ _ _).mono ?_; rintro e w' ⟨rfl, rfl⟩)
                    | (go_at_call 63; refine (impl_isObject _ _).mono ?_; rintro e w' ⟨rfl, rfl⟩)
                    | (go_at_call 64; refine (impl_RightsValid _ _).mono ?_; rintro e w' ⟨rfl, rfl⟩)
                    | (go_at_call 65; refine (impl_badged _ _).mono ?_; rintro e w' ⟨rfl, rfl⟩))
                go_ret
                exact ⟨ret_bool (HH.out.trans (by simp)).symm, rfl⟩
            · have HH := Lib.hid H
              clear H
              go_enter Try.func39, Try.ntmps39
              go_wp2_with (first
                  | (go_at_call 47; refine (impl_in _ _ _ _).mono ?_; rintro e w' ⟨rfl, rfl⟩)
                  | (go_at_call 63; refine (impl_isObject _ _).mono ?_; rintro e w' ⟨rfl, rfl⟩)
                  | (go_at_call 64; refine (impl_RightsValid _ _).mono ?_; rintro e w' ⟨rfl, rfl⟩)
                  | (go_at_call 65; refine (impl_badged _ _).mono ?_; rintro e w' ⟨rfl, rfl⟩))
              go_ret
              exact ⟨ret_bool (HH.out.trans (by simp)).symm, rfl⟩

set_option maxHeartbeats 2000000 in
theorem spec_CapValid (k o r b : Int) (w : World) :
    Calls Try.prog 45 #[.agg #[.int .i64 k, .int .i64 o, .int .i64 r, .int .i64 b]] w fun e w' => e = .returned (.bool (capOk k o r b)) ∧ w.alloc (.cells #[.int .i64 k, .int .i64 o, .int .i64 r, .int .i64 b] 41) = w' := by
  by_cases hk : k = 0
  · subst hk
    go_enter Try.func45, Try.ntmps45
    go_wp2_with fail
    all_goals
      go_ret
      refine ⟨ret_bool ?_, ?_⟩
      · simp [capOk, *]
      · first | rfl | simp [*]
  · have hk0 : (k == 0) = false := by rw [beq_eq_false_iff_ne]; exact hk
    have H : capOk k o r b = (inB k 1 7 && inB o 0 99 && rValid r && (b == 0 || badgedB k && inB b 0 999)) := by simp [capOk, hk]
    clear hk
    cases h1 : inB k 1 7
    all_goals rw [h1] at H
    · have HH := Lib.hid H
      clear H
      go_enter Try.func45, Try.ntmps45
      go_wp2_with (first
          | (go_at_call 44; refine (spec_in _ _ _ _).mono ?_; rintro e w' ⟨rfl, rfl⟩)
          | (go_at_call 70; refine (spec_RightsValid _ _).mono ?_; rintro e w' ⟨rfl, rfl⟩)
          | (go_at_call 71; refine (spec_badged _ _).mono ?_; rintro e w' ⟨rfl, rfl⟩))
      go_ret
      exact ⟨ret_bool (HH.out.trans (by simp)).symm, rfl⟩
    · cases h2 : inB o 0 99
      all_goals rw [h2] at H
      · have HH := Lib.hid H
        clear H
        go_enter Try.func45, Try.ntmps45
        go_wp2_with (first
            | (go_at_call 44; refine (spec_in _ _ _ _).mono ?_; rintro e w' ⟨rfl, rfl⟩)
            | (go_at_call 70; refine (spec_RightsValid _ _).mono ?_; rintro e w' ⟨rfl, rfl⟩)
            | (go_at_call 71; refine (spec_badged _ _).mono ?_; rintro e w' ⟨rfl, rfl⟩))
        go_ret
        exact ⟨ret_bool (HH.out.trans (by simp)).symm, rfl⟩
      · cases h3 : rValid r
        all_goals rw [h3] at H
        · have HH := Lib.hid H
          clear H
          go_enter Try.func45, Try.ntmps45
          go_wp2_with (first
              | (go_at_call 44; refine (spec_in _ _ _ _).mono ?_; rintro e w' ⟨rfl, rfl⟩)
              | (go_at_call 70; refine (spec_RightsValid _ _).mono ?_; rintro e w' ⟨rfl, rfl⟩)
              | (go_at_call 71; refine (spec_badged _ _).mono ?_; rintro e w' ⟨rfl, rfl⟩))
          go_ret
          exact ⟨ret_bool (HH.out.trans (by simp)).symm, rfl⟩
        · cases h6 : (b == 0)
          all_goals rw [h6] at H
          · cases h4 : badgedB k
            all_goals rw [h4] at H
            · have HH := Lib.hid H
              clear H
              go_enter Try.func45, Try.ntmps45
              go_wp2_with (first
                  | (go_at_call 44; refine (spec_in _ _ _ _).mono ?_; rintro e w' ⟨rfl, rfl⟩)
                  | (go_at_call 70; refine (spec_RightsValid _ _).mono ?_; rintro e w' ⟨rfl, rfl⟩)
                  | (go_at_call 71; refine (spec_badged _ _).mono ?_; rintro e w' ⟨rfl, rfl⟩))
              go_ret
              exact ⟨ret_bool (HH.out.trans (by simp)).symm, rfl⟩
            · cases h5 : inB b 0 999
              all_goals rw [h5] at H
              · have HH := Lib.hid H
                clear H
                go_enter Try.func45, Try.ntmps45
                go_wp2_with (first
                    | (go_at_call 44; refine (spec_in _ _ _ _).mono ?_; rintro e w' ⟨rfl, rfl⟩)
                    | (go_at_call 70; refine (spec_RightsValid _ _).mono ?_; rintro e w' ⟨rfl, rfl⟩)
                    | (go_at_call 71; refine (spec_badged _ _).mono ?_; rintro e w' ⟨rfl, rfl⟩))
                go_ret
                exact ⟨ret_bool (HH.out.trans (by simp)).symm, rfl⟩
              · have HH := Lib.hid H
                clear H
                go_enter Try.func45, Try.ntmps45
                go_wp2_with (first
                    | (go_at_call 44; refine (spec_in _ _ _ _).mono ?_; rintro e w' ⟨rfl, rfl⟩)
                    | (go_at_call 70; refine (spec_RightsValid _ _).mono ?_; rintro e w' ⟨rfl, rfl⟩)
                    | (go_at_call 71; refine (spec_badged _ _).mono ?_; rintro e w' ⟨rfl, rfl⟩))
                go_ret
                exact ⟨ret_bool (HH.out.trans (by simp)).symm, rfl⟩
          · have HH := Lib.hid H
            clear H
            go_enter Try.func45, Try.ntmps45
            go_wp2_with (first
                | (go_at_call 44; refine (spec_in _ _ _ _).mono ?_; rintro e w' ⟨rfl, rfl⟩)
                | (go_at_call 70; refine (spec_RightsValid _ _).mono ?_; rintro e w' ⟨rfl, rfl⟩)
                | (go_at_call 71; refine (spec_badged _ _).mono ?_; rintro e w' ⟨rfl, rfl⟩))
            go_ret
            exact ⟨ret_bool (HH.out.trans (by simp)).symm, rfl⟩

end Go.Proofs.Ytdafogfpbpjmdaa
