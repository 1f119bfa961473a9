/- What MintCap, UnpackCap and toCap compute. No condition but that UnpackCap's number is an int. -/
import Derived.Test.YtpglfbjjmnaojaaMint
namespace Go.Proofs.Ytpglfbjjmnaojaa
open Go.RowKit
set_option linter.unusedVariables false

set_option maxHeartbeats 1000000 in
theorem laws_toCap (k o r b : Int) (w : World) :
    Calls Try.prog 71 #[.agg #[.int .i64 k, .int .i64 o, .int .i64 r, .int .i64 b]] w fun e w' => e = .returned (.agg #[.int .i64 k, .int .i64 o, .int .i64 r, .int .i64 b]) ∧ Below w.heap.size w w' := by
  go_enter Try.func71, Try.ntmps71
  go_wp2_with fail
  refine bodyPost_ret (v := .agg #[.int .i64 k, .int .i64 o, .int .i64 r, .int .i64 b]) (by simp [results, Try.results71, go_sem]) rfl ⟨rfl, ?_⟩
  repeat (first | exact Below.refl _ _ | refine below_al ?_ _ | refine below_set ?_ (by simp) _)

def mintB (b badge : Int) : Int := if 0 < badge then badge else b
theorem mintB_pos {b badge : Int} (h : 0 < badge) : mintB b badge = badge := if_pos h
theorem mintB_zero {b badge : Int} (h : badge = 0) : mintB b badge = b := if_neg (by omega)
theorem mintOk_parts {k o r b rights badge : Int} (h : mintOk k o r b rights badge = true) :
    capOk k o r b = true ∧ rValid rights = true ∧ inB badge 0 999 = true ∧ (k == 0) = false ∧ (k == 1) = false ∧ (k == 7) = false ∧ (0 < badge → badgedB k = true ∧ (b == 0) = true) := by
  unfold mintOk at h
  simp only [Bool.and_eq_true, Bool.not_eq_true', Bool.and_eq_false_iff, Bool.or_eq_false_iff, decide_eq_false_iff_not, Bool.not_eq_false'] at h
  obtain ⟨⟨⟨⟨⟨⟨h1, h2⟩, h3⟩, h4⟩, h5⟩, h6⟩, h7⟩ := h
  refine ⟨h1, h2, h3, h4, h5, h6, fun hb => ?_⟩
  rcases h7 with h7 | h7
  · exact absurd hb h7
  · exact h7

set_option maxHeartbeats 2000000 in
theorem impl_MintCap_no (k o r b rights badge : Int) (w : World) (h : mintOk k o r b rights badge = false) :
    Calls Try.prog 61 #[.agg #[.int .i64 k, .int .i64 o, .int .i64 r, .int .i64 b], .int .i64 rights, .int .i64 badge] w
      fun e w' => e = .returned (.tuple #[.agg #[.int .i64 0, .int .i64 0, .int .i64 0, .int .i64 0], .bool false]) ∧ Below w.heap.size w w' := by
  have H := Lib.hid h
  clear h
  cases h1 : capOk k o r b
  · go_enter Try.func61, Try.ntmps61
    go_wp2_with (first
          | (go_at_call 52; refine (impl_CapValid _ _ _ _ _).mono ?_; rintro e w' ⟨rfl, rfl⟩)
          | (go_at_call 73; refine (impl_RightsValid _ _).mono ?_; rintro e w' ⟨rfl, rfl⟩)
          | (go_at_call 53; refine (impl_in _ _ _ _).mono ?_; rintro e w' ⟨rfl, rfl⟩)
          | (go_at_call 74; refine (impl_badged _ _).mono ?_; rintro e w' ⟨rfl, rfl⟩))
    refine bodyPost_ret (v := .tuple #[.agg #[.int .i64 0, .int .i64 0, .int .i64 0, .int .i64 0], .bool false]) (by simp [results, Try.results61, go_sem]) rfl ⟨rfl, ?_⟩
    repeat (first | exact Below.refl _ _ | refine below_al ?_ _ | refine below_set ?_ (by simp) _)
  cases h2 : rValid rights
  · go_enter Try.func61, Try.ntmps61
    go_wp2_with (first
          | (go_at_call 52; refine (impl_CapValid _ _ _ _ _).mono ?_; rintro e w' ⟨rfl, rfl⟩)
          | (go_at_call 73; refine (impl_RightsValid _ _).mono ?_; rintro e w' ⟨rfl, rfl⟩)
          | (go_at_call 53; refine (impl_in _ _ _ _).mono ?_; rintro e w' ⟨rfl, rfl⟩)
          | (go_at_call 74; refine (impl_badged _ _).mono ?_; rintro e w' ⟨rfl, rfl⟩))
    refine bodyPost_ret (v := .tuple #[.agg #[.int .i64 0, .int .i64 0, .int .i64 0, .int .i64 0], .bool false]) (by simp [results, Try.results61, go_sem]) rfl ⟨rfl, ?_⟩
    repeat (first | exact Below.refl _ _ | refine below_al ?_ _ | refine below_set ?_ (by simp) _)
  cases h3 : inB badge 0 999
  · go_enter Try.func61, Try.ntmps61
    go_wp2_with (first
          | (go_at_call 52; refine (impl_CapValid _ _ _ _ _).mono ?_; rintro e w' ⟨rfl, rfl⟩)
          | (go_at_call 73; refine (impl_RightsValid _ _).mono ?_; rintro e w' ⟨rfl, rfl⟩)
          | (go_at_call 53; refine (impl_in _ _ _ _).mono ?_; rintro e w' ⟨rfl, rfl⟩)
          | (go_at_call 74; refine (impl_badged _ _).mono ?_; rintro e w' ⟨rfl, rfl⟩))
    refine bodyPost_ret (v := .tuple #[.agg #[.int .i64 0, .int .i64 0, .int .i64 0, .int .i64 0], .bool false]) (by simp [results, Try.results61, go_sem]) rfl ⟨rfl, ?_⟩
    repeat (first | exact Below.refl _ _ | refine below_al ?_ _ | refine below_set ?_ (by simp) _)
  rcases Bool.eq_false_or_eq_true (k == 0) with h4 | h4
  · go_enter Try.func61, Try.ntmps61
    go_wp2_with (first
          | (go_at_call 52; refine (impl_CapValid _ _ _ _ _).mono ?_; rintro e w' ⟨rfl, rfl⟩)
          | (go_at_call 73; refine (impl_RightsValid _ _).mono ?_; rintro e w' ⟨rfl, rfl⟩)
          | (go_at_call 53; refine (impl_in _ _ _ _).mono ?_; rintro e w' ⟨rfl, rfl⟩)
          | (go_at_call 74; refine (impl_badged _ _).mono ?_; rintro e w' ⟨rfl, rfl⟩))
    refine bodyPost_ret (v := .tuple #[.agg #[.int .i64 0, .int .i64 0, .int .i64 0, .int .i64 0], .bool false]) (by simp [results, Try.results61, go_sem]) rfl ⟨rfl, ?_⟩
    repeat (first | exact Below.refl _ _ | refine below_al ?_ _ | refine below_set ?_ (by simp) _)
  rcases Bool.eq_false_or_eq_true (k == 1) with h5 | h5
  · go_enter Try.func61, Try.ntmps61
    go_wp2_with (first
          | (go_at_call 52; refine (impl_CapValid _ _ _ _ _).mono ?_; rintro e w' ⟨rfl, rfl⟩)
          | (go_at_call 73; refine (impl_RightsValid _ _).mono ?_; rintro e w' ⟨rfl, rfl⟩)
          | (go_at_call 53; refine (impl_in _ _ _ _).mono ?_; rintro e w' ⟨rfl, rfl⟩)
          | (go_at_call 74; refine (impl_badged _ _).mono ?_; rintro e w' ⟨rfl, rfl⟩))
    refine bodyPost_ret (v := .tuple #[.agg #[.int .i64 0, .int .i64 0, .int .i64 0, .int .i64 0], .bool false]) (by simp [results, Try.results61, go_sem]) rfl ⟨rfl, ?_⟩
    repeat (first | exact Below.refl _ _ | refine below_al ?_ _ | refine below_set ?_ (by simp) _)
  rcases Bool.eq_false_or_eq_true (k == 7) with h6 | h6
  · go_enter Try.func61, Try.ntmps61
    go_wp2_with (first
          | (go_at_call 52; refine (impl_CapValid _ _ _ _ _).mono ?_; rintro e w' ⟨rfl, rfl⟩)
          | (go_at_call 73; refine (impl_RightsValid _ _).mono ?_; rintro e w' ⟨rfl, rfl⟩)
          | (go_at_call 53; refine (impl_in _ _ _ _).mono ?_; rintro e w' ⟨rfl, rfl⟩)
          | (go_at_call 74; refine (impl_badged _ _).mono ?_; rintro e w' ⟨rfl, rfl⟩))
    refine bodyPost_ret (v := .tuple #[.agg #[.int .i64 0, .int .i64 0, .int .i64 0, .int .i64 0], .bool false]) (by simp [results, Try.results61, go_sem]) rfl ⟨rfl, ?_⟩
    repeat (first | exact Below.refl _ _ | refine below_al ?_ _ | refine below_set ?_ (by simp) _)
  by_cases h7 : 0 < badge
  · cases h8 : badgedB k
    · go_enter Try.func61, Try.ntmps61
      go_wp2_with (first
            | (go_at_call 52; refine (impl_CapValid _ _ _ _ _).mono ?_; rintro e w' ⟨rfl, rfl⟩)
            | (go_at_call 73; refine (impl_RightsValid _ _).mono ?_; rintro e w' ⟨rfl, rfl⟩)
            | (go_at_call 53; refine (impl_in _ _ _ _).mono ?_; rintro e w' ⟨rfl, rfl⟩)
            | (go_at_call 74; refine (impl_badged _ _).mono ?_; rintro e w' ⟨rfl, rfl⟩))
      refine bodyPost_ret (v := .tuple #[.agg #[.int .i64 0, .int .i64 0, .int .i64 0, .int .i64 0], .bool false]) (by simp [results, Try.results61, go_sem]) rfl ⟨rfl, ?_⟩
      repeat (first | exact Below.refl _ _ | refine below_al ?_ _ | refine below_set ?_ (by simp) _)
    · cases h9 : (b == 0)
      · have hb : 0 < b := by
          have := (capOk_bounds h1).2.2.2
          have hn : b ≠ 0 := by simpa using h9
          omega
        go_enter Try.func61, Try.ntmps61
        go_wp2_with (first
              | (go_at_call 52; refine (impl_CapValid _ _ _ _ _).mono ?_; rintro e w' ⟨rfl, rfl⟩)
              | (go_at_call 73; refine (impl_RightsValid _ _).mono ?_; rintro e w' ⟨rfl, rfl⟩)
              | (go_at_call 53; refine (impl_in _ _ _ _).mono ?_; rintro e w' ⟨rfl, rfl⟩)
              | (go_at_call 74; refine (impl_badged _ _).mono ?_; rintro e w' ⟨rfl, rfl⟩))
        refine bodyPost_ret (v := .tuple #[.agg #[.int .i64 0, .int .i64 0, .int .i64 0, .int .i64 0], .bool false]) (by simp [results, Try.results61, go_sem]) rfl ⟨rfl, ?_⟩
        repeat (first | exact Below.refl _ _ | refine below_al ?_ _ | refine below_set ?_ (by simp) _)
      · exfalso
        have := H.out
        simp [mintOk, h1, h2, h3, h4, h5, h6, h7, h8, h9] at this
  · exfalso
    have := H.out
    simp [mintOk, h1, h2, h3, h4, h5, h6, h7] at this

set_option maxHeartbeats 2000000 in
theorem impl_MintCap_yes (k o r b rights badge : Int) (w : World) (h : mintOk k o r b rights badge = true) :
    Calls Try.prog 61 #[.agg #[.int .i64 k, .int .i64 o, .int .i64 r, .int .i64 b], .int .i64 rights, .int .i64 badge] w
      fun e w' => e = .returned (.tuple #[.agg #[.int .i64 k, .int .i64 o, .int .i64 (bits .and .i64 r rights), .int .i64 (mintB b badge)], .bool true]) ∧ Below w.heap.size w w' := by
  obtain ⟨h1, h2, h3, h4, h5, h6, h7⟩ := mintOk_parts h
  clear h
  by_cases hb : 0 < badge
  · obtain ⟨h8, h9⟩ := h7 hb
    have h9' : ¬ 0 < b := by
      have hn : b = 0 := by simpa using h9
      omega
    rw [mintB_pos hb]
    clear h7
    go_enter Try.func61, Try.ntmps61
    go_wp2_with (first
          | (go_at_call 52; refine (impl_CapValid _ _ _ _ _).mono ?_; rintro e w' ⟨rfl, rfl⟩)
          | (go_at_call 73; refine (impl_RightsValid _ _).mono ?_; rintro e w' ⟨rfl, rfl⟩)
          | (go_at_call 53; refine (impl_in _ _ _ _).mono ?_; rintro e w' ⟨rfl, rfl⟩)
          | (go_at_call 74; refine (impl_badged _ _).mono ?_; rintro e w' ⟨rfl, rfl⟩))
    refine bodyPost_ret (v := .tuple #[.agg #[.int .i64 k, .int .i64 o, .int .i64 (bits .and .i64 r rights), .int .i64 badge], .bool true]) (by simp [results, Try.results61, go_sem]) rfl ⟨rfl, ?_⟩
    repeat (first | exact Below.refl _ _ | refine below_al ?_ _ | refine below_set ?_ (by simp) _)
  · have hz : badge = 0 := by have := inB_iff.1 h3; omega
    rw [mintB_zero hz]
    subst hz
    clear h7 hb
    go_enter Try.func61, Try.ntmps61
    go_wp2_with (first
          | (go_at_call 52; refine (impl_CapValid _ _ _ _ _).mono ?_; rintro e w' ⟨rfl, rfl⟩)
          | (go_at_call 73; refine (impl_RightsValid _ _).mono ?_; rintro e w' ⟨rfl, rfl⟩)
          | (go_at_call 53; refine (impl_in _ _ _ _).mono ?_; rintro e w' ⟨rfl, rfl⟩)
          | (go_at_call 74; refine (impl_badged _ _).mono ?_; rintro e w' ⟨rfl, rfl⟩))
    refine bodyPost_ret (v := .tuple #[.agg #[.int .i64 k, .int .i64 o, .int .i64 (bits .and .i64 r rights), .int .i64 b], .bool true]) (by simp [results, Try.results61, go_sem]) rfl ⟨rfl, ?_⟩
    repeat (first | exact Below.refl _ _ | refine below_al ?_ _ | refine below_set ?_ (by simp) _)

set_option maxHeartbeats 2000000 in
theorem spec_MintCap_no (k o r b rights badge : Int) (w : World) (h : mintOk k o r b rights badge = false) :
    Calls Try.prog 60 #[.agg #[.int .i64 k, .int .i64 o, .int .i64 r, .int .i64 b], .int .i64 rights, .int .i64 badge] w
      fun e w' => e = .returned (.tuple #[.agg #[.int .i64 0, .int .i64 0, .int .i64 0, .int .i64 0], .bool false]) ∧ Below w.heap.size w w' := by
  have H := Lib.hid h
  clear h
  cases h1 : capOk k o r b
  · go_enter Try.func60, Try.ntmps60
    go_wp2_with (first
          | (go_at_call 48; refine (spec_CapValid _ _ _ _ _).mono ?_; rintro e w' ⟨rfl, rfl⟩)
          | (go_at_call 69; refine (spec_RightsValid _ _).mono ?_; rintro e w' ⟨rfl, rfl⟩)
          | (go_at_call 49; refine (spec_in _ _ _ _).mono ?_; rintro e w' ⟨rfl, rfl⟩)
          | (go_at_call 70; refine (spec_badged _ _).mono ?_; rintro e w' ⟨rfl, rfl⟩))
    refine bodyPost_ret (v := .tuple #[.agg #[.int .i64 0, .int .i64 0, .int .i64 0, .int .i64 0], .bool false]) (by simp [results, Try.results60, go_sem]) rfl ⟨rfl, ?_⟩
    repeat (first | exact Below.refl _ _ | refine below_al ?_ _ | refine below_set ?_ (by simp) _)
  cases h2 : rValid rights
  · go_enter Try.func60, Try.ntmps60
    go_wp2_with (first
          | (go_at_call 48; refine (spec_CapValid _ _ _ _ _).mono ?_; rintro e w' ⟨rfl, rfl⟩)
          | (go_at_call 69; refine (spec_RightsValid _ _).mono ?_; rintro e w' ⟨rfl, rfl⟩)
          | (go_at_call 49; refine (spec_in _ _ _ _).mono ?_; rintro e w' ⟨rfl, rfl⟩)
          | (go_at_call 70; refine (spec_badged _ _).mono ?_; rintro e w' ⟨rfl, rfl⟩))
    refine bodyPost_ret (v := .tuple #[.agg #[.int .i64 0, .int .i64 0, .int .i64 0, .int .i64 0], .bool false]) (by simp [results, Try.results60, go_sem]) rfl ⟨rfl, ?_⟩
    repeat (first | exact Below.refl _ _ | refine below_al ?_ _ | refine below_set ?_ (by simp) _)
  cases h3 : inB badge 0 999
  · go_enter Try.func60, Try.ntmps60
    go_wp2_with (first
          | (go_at_call 48; refine (spec_CapValid _ _ _ _ _).mono ?_; rintro e w' ⟨rfl, rfl⟩)
          | (go_at_call 69; refine (spec_RightsValid _ _).mono ?_; rintro e w' ⟨rfl, rfl⟩)
          | (go_at_call 49; refine (spec_in _ _ _ _).mono ?_; rintro e w' ⟨rfl, rfl⟩)
          | (go_at_call 70; refine (spec_badged _ _).mono ?_; rintro e w' ⟨rfl, rfl⟩))
    refine bodyPost_ret (v := .tuple #[.agg #[.int .i64 0, .int .i64 0, .int .i64 0, .int .i64 0], .bool false]) (by simp [results, Try.results60, go_sem]) rfl ⟨rfl, ?_⟩
    repeat (first | exact Below.refl _ _ | refine below_al ?_ _ | refine below_set ?_ (by simp) _)
  rcases Bool.eq_false_or_eq_true (k == 0) with h4 | h4
  · go_enter Try.func60, Try.ntmps60
    go_wp2_with (first
          | (go_at_call 48; refine (spec_CapValid _ _ _ _ _).mono ?_; rintro e w' ⟨rfl, rfl⟩)
          | (go_at_call 69; refine (spec_RightsValid _ _).mono ?_; rintro e w' ⟨rfl, rfl⟩)
          | (go_at_call 49; refine (spec_in _ _ _ _).mono ?_; rintro e w' ⟨rfl, rfl⟩)
          | (go_at_call 70; refine (spec_badged _ _).mono ?_; rintro e w' ⟨rfl, rfl⟩))
    refine bodyPost_ret (v := .tuple #[.agg #[.int .i64 0, .int .i64 0, .int .i64 0, .int .i64 0], .bool false]) (by simp [results, Try.results60, go_sem]) rfl ⟨rfl, ?_⟩
    repeat (first | exact Below.refl _ _ | refine below_al ?_ _ | refine below_set ?_ (by simp) _)
  rcases Bool.eq_false_or_eq_true (k == 1) with h5 | h5
  · go_enter Try.func60, Try.ntmps60
    go_wp2_with (first
          | (go_at_call 48; refine (spec_CapValid _ _ _ _ _).mono ?_; rintro e w' ⟨rfl, rfl⟩)
          | (go_at_call 69; refine (spec_RightsValid _ _).mono ?_; rintro e w' ⟨rfl, rfl⟩)
          | (go_at_call 49; refine (spec_in _ _ _ _).mono ?_; rintro e w' ⟨rfl, rfl⟩)
          | (go_at_call 70; refine (spec_badged _ _).mono ?_; rintro e w' ⟨rfl, rfl⟩))
    refine bodyPost_ret (v := .tuple #[.agg #[.int .i64 0, .int .i64 0, .int .i64 0, .int .i64 0], .bool false]) (by simp [results, Try.results60, go_sem]) rfl ⟨rfl, ?_⟩
    repeat (first | exact Below.refl _ _ | refine below_al ?_ _ | refine below_set ?_ (by simp) _)
  rcases Bool.eq_false_or_eq_true (k == 7) with h6 | h6
  · go_enter Try.func60, Try.ntmps60
    go_wp2_with (first
          | (go_at_call 48; refine (spec_CapValid _ _ _ _ _).mono ?_; rintro e w' ⟨rfl, rfl⟩)
          | (go_at_call 69; refine (spec_RightsValid _ _).mono ?_; rintro e w' ⟨rfl, rfl⟩)
          | (go_at_call 49; refine (spec_in _ _ _ _).mono ?_; rintro e w' ⟨rfl, rfl⟩)
          | (go_at_call 70; refine (spec_badged _ _).mono ?_; rintro e w' ⟨rfl, rfl⟩))
    refine bodyPost_ret (v := .tuple #[.agg #[.int .i64 0, .int .i64 0, .int .i64 0, .int .i64 0], .bool false]) (by simp [results, Try.results60, go_sem]) rfl ⟨rfl, ?_⟩
    repeat (first | exact Below.refl _ _ | refine below_al ?_ _ | refine below_set ?_ (by simp) _)
  by_cases h7 : 0 < badge
  · cases h8 : badgedB k
    · go_enter Try.func60, Try.ntmps60
      go_wp2_with (first
            | (go_at_call 48; refine (spec_CapValid _ _ _ _ _).mono ?_; rintro e w' ⟨rfl, rfl⟩)
            | (go_at_call 69; refine (spec_RightsValid _ _).mono ?_; rintro e w' ⟨rfl, rfl⟩)
            | (go_at_call 49; refine (spec_in _ _ _ _).mono ?_; rintro e w' ⟨rfl, rfl⟩)
            | (go_at_call 70; refine (spec_badged _ _).mono ?_; rintro e w' ⟨rfl, rfl⟩))
      refine bodyPost_ret (v := .tuple #[.agg #[.int .i64 0, .int .i64 0, .int .i64 0, .int .i64 0], .bool false]) (by simp [results, Try.results60, go_sem]) rfl ⟨rfl, ?_⟩
      repeat (first | exact Below.refl _ _ | refine below_al ?_ _ | refine below_set ?_ (by simp) _)
    · cases h9 : (b == 0)
      · have hb : 0 < b := by
          have := (capOk_bounds h1).2.2.2
          have hn : b ≠ 0 := by simpa using h9
          omega
        go_enter Try.func60, Try.ntmps60
        go_wp2_with (first
              | (go_at_call 48; refine (spec_CapValid _ _ _ _ _).mono ?_; rintro e w' ⟨rfl, rfl⟩)
              | (go_at_call 69; refine (spec_RightsValid _ _).mono ?_; rintro e w' ⟨rfl, rfl⟩)
              | (go_at_call 49; refine (spec_in _ _ _ _).mono ?_; rintro e w' ⟨rfl, rfl⟩)
              | (go_at_call 70; refine (spec_badged _ _).mono ?_; rintro e w' ⟨rfl, rfl⟩))
        refine bodyPost_ret (v := .tuple #[.agg #[.int .i64 0, .int .i64 0, .int .i64 0, .int .i64 0], .bool false]) (by simp [results, Try.results60, go_sem]) rfl ⟨rfl, ?_⟩
        repeat (first | exact Below.refl _ _ | refine below_al ?_ _ | refine below_set ?_ (by simp) _)
      · exfalso
        have := H.out
        simp [mintOk, h1, h2, h3, h4, h5, h6, h7, h8, h9] at this
  · exfalso
    have := H.out
    simp [mintOk, h1, h2, h3, h4, h5, h6, h7] at this

set_option maxHeartbeats 2000000 in
theorem spec_MintCap_yes (k o r b rights badge : Int) (w : World) (h : mintOk k o r b rights badge = true) :
    Calls Try.prog 60 #[.agg #[.int .i64 k, .int .i64 o, .int .i64 r, .int .i64 b], .int .i64 rights, .int .i64 badge] w
      fun e w' => e = .returned (.tuple #[.agg #[.int .i64 k, .int .i64 o, .int .i64 (bits .and .i64 r rights), .int .i64 (mintB b badge)], .bool true]) ∧ Below w.heap.size w w' := by
  obtain ⟨h1, h2, h3, h4, h5, h6, h7⟩ := mintOk_parts h
  clear h
  by_cases hb : 0 < badge
  · obtain ⟨h8, h9⟩ := h7 hb
    have h9' : ¬ 0 < b := by
      have hn : b = 0 := by simpa using h9
      omega
    rw [mintB_pos hb]
    clear h7
    go_enter Try.func60, Try.ntmps60
    go_wp2_with (first
          | (go_at_call 48; refine (spec_CapValid _ _ _ _ _).mono ?_; rintro e w' ⟨rfl, rfl⟩)
          | (go_at_call 69; refine (spec_RightsValid _ _).mono ?_; rintro e w' ⟨rfl, rfl⟩)
          | (go_at_call 49; refine (spec_in _ _ _ _).mono ?_; rintro e w' ⟨rfl, rfl⟩)
          | (go_at_call 70; refine (spec_badged _ _).mono ?_; rintro e w' ⟨rfl, rfl⟩))
    refine bodyPost_ret (v := .tuple #[.agg #[.int .i64 k, .int .i64 o, .int .i64 (bits .and .i64 r rights), .int .i64 badge], .bool true]) (by simp [results, Try.results60, go_sem]) rfl ⟨rfl, ?_⟩
    repeat (first | exact Below.refl _ _ | refine below_al ?_ _ | refine below_set ?_ (by simp) _)
  · have hz : badge = 0 := by have := inB_iff.1 h3; omega
    rw [mintB_zero hz]
    subst hz
    clear h7 hb
    go_enter Try.func60, Try.ntmps60
    go_wp2_with (first
          | (go_at_call 48; refine (spec_CapValid _ _ _ _ _).mono ?_; rintro e w' ⟨rfl, rfl⟩)
          | (go_at_call 69; refine (spec_RightsValid _ _).mono ?_; rintro e w' ⟨rfl, rfl⟩)
          | (go_at_call 49; refine (spec_in _ _ _ _).mono ?_; rintro e w' ⟨rfl, rfl⟩)
          | (go_at_call 70; refine (spec_badged _ _).mono ?_; rintro e w' ⟨rfl, rfl⟩))
    refine bodyPost_ret (v := .tuple #[.agg #[.int .i64 k, .int .i64 o, .int .i64 (bits .and .i64 r rights), .int .i64 b], .bool true]) (by simp [results, Try.results60, go_sem]) rfl ⟨rfl, ?_⟩
    repeat (first | exact Below.refl _ _ | refine below_al ?_ _ | refine below_set ?_ (by simp) _)

end Go.Proofs.Ytpglfbjjmnaojaa
