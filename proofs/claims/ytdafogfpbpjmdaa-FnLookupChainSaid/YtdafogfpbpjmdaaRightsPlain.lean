/- Plain facts on sets of rights and their texts, with no program in sight: meeting is commutative, associative, within both; texts are read back. No condition beyond those written. -/
import Derived.Test.YtdafogfpbpjmdaaReader
namespace Go.Proofs.Ytdafogfpbpjmdaa
open Go.RowKit

theorem i64_and_nat (a b : Nat) (ha : a < 9223372036854775808) (hb : b < 9223372036854775808) : bits .and .i64 (a : Int) (b : Int) = ((a &&& b : Nat) : Int) := by
  have hx : a &&& b < 2 ^ 63 := Nat.and_lt_two_pow _ (by omega)
  show IntKind.i64.wrap ((BitVec.ofInt 64 (a : Int) &&& BitVec.ofInt 64 (b : Int)).toNat : Int) = _
  rw [BitVec.toNat_and, ofInt_i64 a ha, ofInt_i64 b hb, IntKind.wrap_i64]
  omega

theorem rMeet_of {a b : Int} (ha : rValid a = true) (hb : rValid b = true) : rMeet a b = bits .and .i64 a b := by simp [rMeet, ha, hb]
theorem rMeet_bad {a b : Int} (h : ¬ (rValid a = true ∧ rValid b = true)) : rMeet a b = -1 := by
  unfold rMeet
  rw [if_neg (by simpa using h)]
theorem rNat {a : Int} (h : rValid a = true) : ∃ n : Nat, a = n ∧ n ≤ 15 := by
  have := rValid_iff.1 h
  exact ⟨a.toNat, by omega, by omega⟩
theorem rMeet_nat {m n : Nat} (hm : m ≤ 15) (hn : n ≤ 15) : rMeet m n = ((m &&& n : Nat) : Int) := by
  rw [rMeet_of (rValid_iff.2 (by omega)) (rValid_iff.2 (by omega)), i64_and_nat m n (by omega) (by omega)]
theorem rMeet_valid {a b : Int} (ha : rValid a = true) (hb : rValid b = true) : rValid (rMeet a b) = true := by
  obtain ⟨m, rfl, hm⟩ := rNat ha
  obtain ⟨n, rfl, hn⟩ := rNat hb
  rw [rMeet_nat hm hn, rValid_iff]
  have : m &&& n ≤ m := Nat.and_le_left
  omega
theorem rMeet_comm (a b : Int) : rMeet b a = rMeet a b := by
  by_cases h : rValid a = true ∧ rValid b = true
  · obtain ⟨m, rfl, hm⟩ := rNat h.1
    obtain ⟨n, rfl, hn⟩ := rNat h.2
    rw [rMeet_nat hm hn, rMeet_nat hn hm, Nat.and_comm]
  · rw [rMeet_bad h, rMeet_bad (fun h' => h ⟨h'.2, h'.1⟩)]
theorem rMeet_self {a : Int} (ha : rValid a = true) : rMeet a a = a := by
  obtain ⟨m, rfl, hm⟩ := rNat ha
  rw [rMeet_nat hm hm, Nat.and_self]
theorem rWithin_eq (a b : Int) : rWithin a b = (rValid a && rValid b && (rMeet a b == a)) := by
  unfold rWithin rMeet
  cases rValid a <;> cases rValid b <;> simp
theorem rWithin_meet {a b : Int} (ha : rValid a = true) (hb : rValid b = true) : rWithin (rMeet a b) a = true := by
  rw [rWithin_eq, rMeet_valid ha hb, ha]
  obtain ⟨m, rfl, hm⟩ := rNat ha
  obtain ⟨n, rfl, hn⟩ := rNat hb
  have h1 : m &&& n ≤ m := Nat.and_le_left
  rw [rMeet_nat hm hn, rMeet_nat (by omega) hm, Nat.and_assoc, Nat.and_comm n m, ← Nat.and_assoc, Nat.and_self]
  simp
theorem rMeet_meet {a b : Int} (ha : rValid a = true) (hb : rValid b = true) : rMeet (rMeet a b) a = rMeet a b := by
  have := rWithin_meet ha hb
  rw [rWithin_eq] at this
  simpa using (Bool.and_eq_true_iff.1 this).2
theorem rMeet_assoc (a b c : Int) : rMeet a (rMeet b c) = rMeet (rMeet a b) c := by
  have bad : ¬ rValid (-1) = true := by decide
  by_cases ha : rValid a = true
  · by_cases hb : rValid b = true
    · by_cases hc : rValid c = true
      · obtain ⟨m, rfl, hm⟩ := rNat ha
        obtain ⟨n, rfl, hn⟩ := rNat hb
        obtain ⟨k, rfl, hk⟩ := rNat hc
        have h1 : m &&& n ≤ m := Nat.and_le_left
        have h2 : n &&& k ≤ n := Nat.and_le_left
        rw [rMeet_nat hm hn, rMeet_nat hn hk, rMeet_nat (by omega) hk, rMeet_nat hm (by omega), Nat.and_assoc]
      · rw [rMeet_bad (a := b) (fun h => hc h.2), rMeet_bad (fun h => bad h.2), rMeet_bad (fun h => hc h.2)]
    · rw [rMeet_bad (a := b) (fun h => hb h.1), rMeet_bad (a := a) (b := b) (fun h => hb h.2), rMeet_bad (fun h => bad h.2), rMeet_bad (fun h => bad h.1)]
  · rw [rMeet_bad (fun h => ha h.1), rMeet_bad (a := a) (b := b) (fun h => ha h.1), rMeet_bad (fun h => bad h.1)]
theorem rWithin_anti {a b : Int} (h : rWithin a b = true) (h' : rWithin b a = true) : a = b := by
  rw [rWithin_eq] at h h'
  have h1 : rMeet a b = a := by simpa using (Bool.and_eq_true_iff.1 h).2
  have h2 : rMeet b a = b := by simpa using (Bool.and_eq_true_iff.1 h').2
  rw [← h1, ← rMeet_comm, h2]
theorem rWithin_zero {a : Int} (ha : rValid a = true) : rWithin 0 a = true := by
  rcases sixteen ha with rfl | rfl | rfl | rfl | rfl | rfl | rfl | rfl | rfl | rfl | rfl | rfl | rfl | rfl | rfl | rfl <;> decide +kernel
theorem rWithin_all {a : Int} (ha : rValid a = true) : rWithin a 15 = true := by
  rcases sixteen ha with rfl | rfl | rfl | rfl | rfl | rfl | rfl | rfl | rfl | rfl | rfl | rfl | rfl | rfl | rfl | rfl <;> decide +kernel

end Go.Proofs.Ytdafogfpbpjmdaa
