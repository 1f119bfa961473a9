/- Shifts, remainders and masks as the walks spell them; what a look-up does at one table. No condition beyond those written. -/
import Derived.Test.YtdafogfpbpjmdaaTabR
import Derived.Test.YtdafogfpbpjmdaaRightsPlain
namespace Go.Proofs.Ytdafogfpbpjmdaa
open Go.RowKit
set_option linter.unusedVariables false

theorem mask_pw {a d : Int} (h0 : 0 ≤ a) (h1 : a ≤ 9223372036854775807) (d0 : 0 ≤ d) (d1 : d ≤ 16) : bits .and .i64 a (pw d - 1) = a % pw d := by
  obtain ⟨m, rfl⟩ := Int.eq_ofNat_of_zero_le h0
  obtain ⟨k, rfl⟩ := Int.eq_ofNat_of_zero_le d0
  have hp := pw_max d1
  have hq := pw_pos (k : Int)
  have e : pw (k : Int) = ((2 ^ k : Nat) : Int) := by unfold pw; simp
  rw [e] at hp hq ⊢
  rw [show ((2 ^ k : Nat) : Int) - 1 = ((2 ^ k - 1 : Nat) : Int) by omega, i64_and_nat _ _ (by omega) (by omega), Nat.and_two_pow_sub_one_eq_mod, Int.natCast_emod]
theorem tmod_pw {a d : Int} (h0 : 0 ≤ a) : a.tmod (pw d) = a % pw d := Int.tmod_eq_emod_of_nonneg h0
theorem fdiv_pw {a d : Int} (h0 : 0 ≤ a) : a.fdiv (2 ^ d.toNat) = a / pw d := by
  rw [Int.fdiv_eq_ediv_of_nonneg _ (by have := pw_pos d; unfold pw at this; omega)]
  rfl
theorem emod_lt_pw (a d : Int) : 0 ≤ a % pw d ∧ a % pw d ≤ pw d - 1 := by
  have := pw_pos d
  have h1 := Int.emod_nonneg a (show pw d ≠ 0 by omega)
  have h2 := Int.emod_lt_of_pos a (show 0 < pw d by omega)
  omega
/-- The digits of an address behind those of the guard. -/
theorem digits {a x y : Int} (h0 : 0 ≤ a) (hx : 0 ≤ x) (hy : 0 ≤ y) : a % pw (x + y) / pw x = a / pw x % pw y := by
  have e := pw_add hx hy
  have hp := pw_pos x
  have hq := pw_pos y
  rw [e]
  have h1 : a = pw x * (a / pw x) + a % pw x := (Int.mul_ediv_add_emod a (pw x)).symm
  have h2 : a / pw x = pw y * (a / pw x / pw y) + a / pw x % pw y := (Int.mul_ediv_add_emod _ (pw y)).symm
  have r1 := Int.emod_nonneg a (show pw x ≠ 0 by omega)
  have r2 := Int.emod_lt_of_pos a (show 0 < pw x by omega)
  have r3 := Int.emod_nonneg (a / pw x) (show pw y ≠ 0 by omega)
  have r4 := Int.emod_lt_of_pos (a / pw x) (show 0 < pw y by omega)
  generalize hm : a / pw x % pw y = m at *
  generalize hr : a % pw x = r at *
  generalize hq' : a / pw x / pw y = q at *
  have e1 : a = (pw x * m + r) + pw x * pw y * q := by
    rw [h1]
    rw [h2]
    rw [Int.mul_add, ← Int.mul_assoc]
    omega
  have b1 : pw x * m ≤ pw x * (pw y - 1) := Int.mul_le_mul_of_nonneg_left (by omega) (by omega)
  have b0 : 0 ≤ pw x * m := Int.mul_nonneg (by omega) r3
  rw [Int.mul_sub] at b1
  rw [e1, Int.add_mul_emod_self_left, Int.emod_eq_of_lt (by omega) (by omega), Int.add_comm, Int.add_mul_ediv_left _ _ (by omega), Int.ediv_eq_zero_of_lt r1 r2, Int.zero_add]

/-! The ways of a look-up at one table. -/
section
variable {ts : List Tab} {f t : Nat} {a d : Int}
theorem lookF_out {i : Int} (h : inB i 0 ((ts.length : Int) - 1) = false) : lookF ts f i a d = none := by
  cases f with
  | zero => rfl
  | succ f => rw [lookF, h]; rfl
theorem lookF_in (h : t < ts.length) : lookF ts (f + 1) t a d =
    (if d < (ts.getD t T0).gbits + (ts.getD t T0).bits then none
      else if a / pw (d - (ts.getD t T0).gbits) = (ts.getD t T0).guard then
        if d - (ts.getD t T0).gbits - (ts.getD t T0).bits = 0 then some ((t : Int), a / pw (d - (ts.getD t T0).gbits - (ts.getD t T0).bits) % pw (ts.getD t T0).bits)
        else if (capAt (ts.getD t T0).slots (a / pw (d - (ts.getD t T0).gbits - (ts.getD t T0).bits) % pw (ts.getD t T0).bits)).k = 2 then lookF ts f (capAt (ts.getD t T0).slots (a / pw (d - (ts.getD t T0).gbits - (ts.getD t T0).bits) % pw (ts.getD t T0).bits)).o (a % pw (d - (ts.getD t T0).gbits - (ts.getD t T0).bits)) (d - (ts.getD t T0).gbits - (ts.getD t T0).bits)
        else none
      else none) := by
  rw [lookF, if_pos (inB_iff.2 (show (0 : Int) ≤ t ∧ (t : Int) ≤ (ts.length : Int) - 1 by omega))]
  simp only [tabAt_nat]
end
theorem lookV_none : Ending.returned (lookV none) = .returned (.tuple #[.int .i64 (-1), .int .i64 (-1), .bool false]) := rfl
theorem lookV_some (t s : Int) : Ending.returned (lookV (some (t, s))) = .returned (.tuple #[.int .i64 t, .int .i64 s, .bool true]) := rfl

end Go.Proofs.Ytdafogfpbpjmdaa
