/- Plain facts on pieces of memory, with no program in sight: what is valid, how many objects there is room for, what splitting and making objects leave. No condition beyond those written. -/
import Derived.Test.YtdafogfpbpjmdaaRights
namespace Go.Proofs.Ytdafogfpbpjmdaa
open Go.RowKit
set_option linter.unusedVariables false

/-- Two to the power b. -/
def pw (b : Int) : Int := 2 ^ b.toNat
theorem pw_pos (b : Int) : 1 ≤ pw b := Int.pow_pos (by decide)
theorem pw_zero : pw 0 = 1 := rfl
theorem pw_succ {b : Int} (h : 0 ≤ b) : pw (b + 1) = 2 * pw b := by
  unfold pw
  rw [show (b + 1).toNat = b.toNat + 1 by omega, Int.pow_succ]
  omega
theorem pw_add {a b : Int} (ha : 0 ≤ a) (hb : 0 ≤ b) : pw (a + b) = pw a * pw b := by
  unfold pw
  rw [show (a + b).toNat = a.toNat + b.toNat by omega, Int.pow_add]
theorem pw_le {a b : Int} (ha : 0 ≤ a) (h : a ≤ b) : pw a ≤ pw b := by
  have e : pw b = pw a * pw (b - a) := by rw [← pw_add ha (by omega)]; congr 1; omega
  have h1 := pw_pos a
  have h2 := pw_pos (b - a)
  rw [e]
  calc pw a = pw a * 1 := by omega
    _ ≤ pw a * pw (b - a) := Int.mul_le_mul_of_nonneg_left h2 (by omega)
theorem pw_max {b : Int} (h : b ≤ 16) : pw b ≤ 65536 := by
  by_cases h0 : 0 ≤ b
  · exact pw_le h0 h
  · unfold pw
    rw [show b.toNat = 0 by omega]
    decide
theorem pw_lt {a b : Int} (ha : 0 ≤ a) (h : a < b) : 2 * pw a ≤ pw b := by
  rw [← pw_succ ha]
  exact pw_le (by omega) (by omega)
/-- The walk's spelling of 1 shifted to the left. -/
theorem pw_shl {b : Int} (h : b ≤ 16) : IntKind.i64.wrap (2 ^ min b.toNat 64) = pw b := by
  have hm : min b.toNat 64 = b.toNat := by omega
  rw [hm, IntKind.wrap_i64]
  have h1 := pw_pos b
  have h2 := pw_max h
  show _ = pw b
  have e : (2 : Int) ^ b.toNat = pw b := rfl
  rw [e]
  omega

theorem wrap_id {x : Int} (h1 : -9223372036854775808 ≤ x) (h2 : x ≤ 9223372036854775807) : wrap64 x = x := by
  unfold wrap64
  omega
theorem pw_wrap {b : Int} (h : b ≤ 16) : wrap64 (2 ^ b.toNat) = pw b := by
  have h1 := pw_pos b
  have h2 := pw_max h
  exact wrap_id (show -9223372036854775808 ≤ pw b by omega) (show pw b ≤ 9223372036854775807 by omega)

theorem i64_id {x : Int} (h1 : -9223372036854775808 ≤ x) (h2 : x ≤ 9223372036854775807) : IntKind.i64.wrap x = x := by
  rw [IntKind.wrap_i64]
  omega
theorem pw_i64 {b : Int} (h : b ≤ 16) : IntKind.i64.wrap (2 ^ b.toNat) = pw b := by
  have h1 := pw_pos b
  have h2 := pw_max h
  exact i64_id (show -9223372036854775808 ≤ pw b by omega) (show pw b ≤ 9223372036854775807 by omega)

def pieceOk (s b u : Int) : Bool := inB b 0 16 && inB s 0 (65536 - pw b) && (s % pw b == 0) && inB u 0 (pw b)
theorem pieceOk_iff {s b u : Int} : pieceOk s b u = true ↔ (0 ≤ b ∧ b ≤ 16) ∧ (0 ≤ s ∧ s + pw b ≤ 65536) ∧ s % pw b = 0 ∧ (0 ≤ u ∧ u ≤ pw b) := by
  unfold pieceOk
  simp only [Bool.and_eq_true, inB_iff, beq_iff_eq, and_assoc]
  constructor
  · rintro ⟨a1, a2, a3, a4, a5⟩; exact ⟨a1, a2, a3, by omega, a5⟩
  · rintro ⟨a1, a2, a3, a4, a5⟩; exact ⟨a1, a2, a3, by omega, a5⟩

/-- The first place for objects of size K behind u bytes. -/
def up (u K : Int) : Int := (u + K - 1) / K * K
theorem up_ge {u K : Int} (hK : 1 ≤ K) : u ≤ up u K := by
  have h1 := Int.emod_add_mul_ediv (u + K - 1) K
  have h2 := Int.emod_lt_of_pos (u + K - 1) (show 0 < K by omega)
  unfold up
  rw [Int.mul_comm]
  omega
theorem up_lt {u K : Int} (hK : 1 ≤ K) : up u K ≤ u + K - 1 := by
  have h1 := Int.emod_add_mul_ediv (u + K - 1) K
  have h2 := Int.emod_nonneg (u + K - 1) (show K ≠ 0 by omega)
  unfold up
  rw [Int.mul_comm]
  omega
theorem up_mod {u K : Int} (hK : 1 ≤ K) : up u K % K = 0 := Int.mul_emod_left _ _
theorem up_add {s u K : Int} (hK : 1 ≤ K) (h : s % K = 0) : up (s + u) K = s + up u K := by
  have e := Int.emod_add_mul_ediv s K
  have hs : s = K * (s / K) := by omega
  unfold up
  rw [show s + u + K - 1 = (u + K - 1) + K * (s / K) by omega, Int.add_mul_ediv_left _ _ (by omega), Int.add_mul]
  rw [Int.mul_comm (s / K) K]
  omega
theorem up_small {u K : Int} (hK : 1 ≤ K) (h1 : 1 ≤ u) (h2 : u ≤ K) : up u K = K := by
  unfold up
  have : (u + K - 1) / K = 1 := by
    rw [show u + K - 1 = (u - 1) + K * 1 by omega, Int.add_mul_ediv_left _ _ (by omega), Int.ediv_eq_zero_of_lt (by omega) (by omega)]
    rfl
  rw [this]
  omega
theorem up_zero {K : Int} (hK : 1 ≤ K) : up 0 K = 0 := by
  unfold up
  rw [Int.ediv_eq_zero_of_lt (by omega) (by omega)]
  omega
theorem pw_dvd {a b : Int} (ha : 0 ≤ a) (h : a ≤ b) : pw b % pw a = 0 := by
  rw [show pw b = pw a * pw (b - a) by rw [← pw_add ha (by omega)]; congr 1; omega]
  exact Int.mul_emod_right _ _
theorem mod_of_mod {s A B : Int} (h1 : s % B = 0) (h2 : B % A = 0) : s % A = 0 :=
  Int.emod_eq_zero_of_dvd (Int.dvd_trans (Int.dvd_of_emod_eq_zero h2) (Int.dvd_of_emod_eq_zero h1))

/-- How many objects of size K fit behind u bytes of a piece of size B. -/
def roomOf (B u K : Int) : Int := max 0 ((B - up u K) / K)
def roomB (s b u k : Int) : Int := if pieceOk s b u && inB k 0 16 then roomOf (pw b) u (pw k) else -1
theorem roomOf_nonneg (B u K : Int) : 0 ≤ roomOf B u K := Int.le_max_left _ _
theorem max_div {x K : Int} (hK : 1 ≤ K) : max 0 x / K = max 0 (x / K) := by
  by_cases h : 0 ≤ x
  · have := Int.ediv_nonneg h (show 0 ≤ K by omega)
    rw [Int.max_eq_right h, Int.max_eq_right this]
  · have : x / K < 0 := Int.ediv_neg_of_neg_of_pos (by omega) (by omega)
    rw [Int.max_eq_left (by omega), Int.max_eq_left (by omega)]
    simp
/-- The program reckons the room from the memory's beginning, the reference from the piece's. -/
theorem room_same {s b u k : Int} (h : pieceOk s b u = true) (hk0 : 0 ≤ k) (hk : k ≤ 16) : max 0 (s + pw b - up (s + u) (pw k)) / pw k = roomOf (pw b) u (pw k) := by
  obtain ⟨⟨b0, b1⟩, ⟨s0, s1⟩, hs, u0, u1⟩ := pieceOk_iff.1 h
  have hB := pw_pos b
  have hK := pw_pos k
  rw [max_div hK]
  unfold roomOf
  by_cases hkb : k ≤ b
  · rw [up_add hK (mod_of_mod hs (pw_dvd hk0 hkb))]
    congr 2
    omega
  · have h2 := pw_lt b0 (show b < k by omega)
    have hd := pw_dvd b0 (show b ≤ k by omega)
    generalize pw b = B at *
    generalize pw k = K at *
    have r : max 0 ((B - up u K) / K) = 0 := by
      by_cases hu : u = 0
      · subst hu
        rw [up_zero hK, Int.sub_zero, Int.ediv_eq_zero_of_lt (by omega) (by omega)]
        rfl
      · rw [up_small hK (by omega) (by omega)]
        have := Int.ediv_neg_of_neg_of_pos (show B - K < 0 by omega) (show 0 < K by omega)
        omega
    rw [r]
    have l : (s + B - up (s + u) K) / K ≤ 0 := by
      by_cases hx : s + B - up (s + u) K < K
      · by_cases hy : s + B - up (s + u) K < 0
        · have := Int.ediv_neg_of_neg_of_pos hy (show 0 < K by omega)
          omega
        · rw [Int.ediv_eq_zero_of_lt (by omega) hx]
          exact Int.le_refl _
      · have := up_ge (u := s + u) hK
        omega
    omega

end Go.Proofs.Ytdafogfpbpjmdaa
