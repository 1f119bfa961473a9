/- What CapWithin, MintCap, PackCap, UnpackCap and eqCap compute. No condition but on UnpackCap's number, which is an int. -/
import Derived.Test.YtdafogfpbpjmdaaCaps
namespace Go.Proofs.Ytdafogfpbpjmdaa
open Go.RowKit
set_option linter.unusedVariables false

def capWithin (k o r b k' o' r' b' : Int) : Bool :=
  capOk k o r b && capOk k' o' r' b' && (k == k') && (o == o') && (bits .and .i64 r r' == r) && (b == b' || b' == 0)
def mintOk (k o r b rights badge : Int) : Bool :=
  capOk k o r b && rValid rights && inB badge 0 999 && !(k == 0) && !(k == 1) && !(k == 7) && !(decide (0 < badge) && (!badgedB k || !(b == 0)))
def packN (k o r b : Int) : Int := k + 8 * (o + 100 * (r + 16 * b))
def capPack (k o r b : Int) : Int := if capOk k o r b then packN k o r b else -1
def unpackOk (n : Int) : Bool := decide (0 ≤ n) && capOk (n % 8) (n / 8 % 100) (n / 800 % 16) (n / 12800)

theorem capOk_rights {k o r b : Int} (h : capOk k o r b = true) : rValid r = true := by
  unfold capOk at h
  split at h
  · simp only [Bool.and_eq_true, beq_iff_eq] at h
    rw [h.1.2]
    rfl
  · simp only [Bool.and_eq_true] at h
    exact h.1.2
theorem capOk_bounds {k o r b : Int} (h : capOk k o r b = true) : (0 ≤ k ∧ k ≤ 7) ∧ (0 ≤ o ∧ o ≤ 99) ∧ (0 ≤ r ∧ r ≤ 15) ∧ (0 ≤ b ∧ b ≤ 999) := by
  have hr := rValid_iff.1 (capOk_rights h)
  unfold capOk at h
  split at h
  · simp only [Bool.and_eq_true, beq_iff_eq] at h
    omega
  · simp only [Bool.and_eq_true, Bool.or_eq_true, beq_iff_eq, inB_iff] at h
    rcases h with ⟨⟨⟨h1, h2⟩, h3⟩, h4 | h4⟩
    · omega
    · omega

def capEq (k o r b k' o' r' b' : Int) : Bool := (k == k') && (o == o') && (r == r') && (b == b')
set_option maxHeartbeats 1000000 in
theorem laws_eqCap (k o r b k' o' r' b' : Int) (w : World) :
    Calls Try.prog 27 #[.agg #[.int .i64 k, .int .i64 o, .int .i64 r, .int .i64 b], .agg #[.int .i64 k', .int .i64 o', .int .i64 r', .int .i64 b']] w fun e w' => e = .returned (.bool (capEq k o r b k' o' r' b')) ∧ Below w.heap.size w w' := by
  unfold capEq
  cases h1 : (k == k') <;> cases h2 : (o == o') <;> cases h3 : (r == r') <;> cases h4 : (b == b')
  all_goals
    go_enter Try.func27, Try.ntmps27
    go_wp2_with fail
    go_ret
    exact ⟨ret_bool (by simp), (by repeat (first | exact Below.refl _ _ | refine below_al ?_ _ | refine below_set ?_ (by simp) _))⟩

end Go.Proofs.Ytdafogfpbpjmdaa
