/- What the functions on rights compute: the range test, RightsValid, RightsMeet, RightsWithin of the program and of the reference. No condition. -/
import Derived.Test.YtdafogfpbpjmdaaBase
namespace Go.Proofs.Ytdafogfpbpjmdaa
open Go.RowKit

def inB (n lo hi : Int) : Bool := decide (lo ≤ n) && decide (n ≤ hi)
def rValid (n : Int) : Bool := inB n 0 15
def rMeet (a b : Int) : Int := if rValid a && rValid b then bits .and .i64 a b else -1
def rWithin (a b : Int) : Bool := rValid a && rValid b && (bits .and .i64 a b == a)

theorem inB_iff {n lo hi : Int} : inB n lo hi = true ↔ lo ≤ n ∧ n ≤ hi := by simp [inB]
theorem inB_no {n lo hi : Int} : inB n lo hi = false ↔ ¬ (lo ≤ n ∧ n ≤ hi) := by rw [← inB_iff]; simp
theorem rValid_iff {n : Int} : rValid n = true ↔ 0 ≤ n ∧ n ≤ 15 := inB_iff
theorem sixteen {n : Int} (h : rValid n = true) : n = 0 ∨ n = 1 ∨ n = 2 ∨ n = 3 ∨ n = 4 ∨ n = 5 ∨ n = 6 ∨ n = 7 ∨ n = 8 ∨ n = 9 ∨ n = 10 ∨ n = 11 ∨ n = 12 ∨ n = 13 ∨ n = 14 ∨ n = 15 := by
  rw [rValid_iff] at h; omega

set_option maxHeartbeats 400000 in
theorem spec_in (n lo hi : Int) (w : World) :
    Calls Try.prog 44 #[.int .i64 n, .int .i64 lo, .int .i64 hi] w fun e w' => e = .returned (.bool (inB n lo hi)) ∧ w = w' := by
  unfold inB
  by_cases h1 : lo ≤ n <;> by_cases h2 : n ≤ hi
  all_goals
    go_enter Try.func44, Try.ntmps44
    go_wp2
    go_ret
    exact ⟨by simp [h1, h2], rfl⟩

set_option maxHeartbeats 400000 in
theorem impl_in (n lo hi : Int) (w : World) :
    Calls Try.prog 47 #[.int .i64 n, .int .i64 lo, .int .i64 hi] w fun e w' => e = .returned (.bool (inB n lo hi)) ∧ w = w' := by
  unfold inB
  by_cases h1 : lo ≤ n <;> by_cases h2 : n ≤ hi
  all_goals
    go_enter Try.func47, Try.ntmps47
    go_wp2
    go_ret
    exact ⟨by simp [h1, h2], rfl⟩

set_option maxHeartbeats 400000 in
theorem spec_RightsValid (n : Int) (w : World) :
    Calls Try.prog 70 #[.int .i64 n] w fun e w' => e = .returned (.bool (rValid n)) ∧ w = w' := by
  unfold rValid
  go_enter Try.func70, Try.ntmps70
  go_wp2_with (go_at_call 44; refine (spec_in _ _ _ _).mono ?_; rintro e w' ⟨rfl, rfl⟩)
  go_ret
  exact ⟨rfl, rfl⟩

set_option maxHeartbeats 400000 in
theorem impl_RightsValid (n : Int) (w : World) :
    Calls Try.prog 64 #[.int .i64 n] w fun e w' => e = .returned (.bool (rValid n)) ∧ w = w' := by
  unfold rValid
  go_enter Try.func64, Try.ntmps64
  go_wp2_with (go_at_call 47; refine (impl_in _ _ _ _).mono ?_; rintro e w' ⟨rfl, rfl⟩)
  go_ret
  exact ⟨rfl, rfl⟩

/-- Over sets of rights 'a and not b is nothing' is 'a and b is a'. -/
theorem clear_and {a b : Int} (ha : rValid a = true) (hb : rValid b = true) : (bits .andNot .i64 a b == 0) = (bits .and .i64 a b == a) := by
  rcases sixteen ha with rfl | rfl | rfl | rfl | rfl | rfl | rfl | rfl | rfl | rfl | rfl | rfl | rfl | rfl | rfl | rfl <;>
  rcases sixteen hb with rfl | rfl | rfl | rfl | rfl | rfl | rfl | rfl | rfl | rfl | rfl | rfl | rfl | rfl | rfl | rfl <;> decide +kernel

end Go.Proofs.Ytdafogfpbpjmdaa
