/- Plain facts on capabilities, with no program in sight: what is minted is valid and within its origin; within is reached by minting; packing is undone by unpacking. No condition beyond those written. -/
import Derived.Test.YtdafogfpbpjmdaaMint3
import Derived.Test.YtdafogfpbpjmdaaUnpack
import Derived.Test.YtdafogfpbpjmdaaRightsPlain
namespace Go.Proofs.Ytdafogfpbpjmdaa
open Go.RowKit
set_option linter.unusedVariables false

theorem capOk_pos {k o r b : Int} (hk : (k == 0) = false) : capOk k o r b = (inB k 1 7 && inB o 0 99 && rValid r && (b == 0 || badgedB k && inB b 0 999)) := by
  rw [beq_eq_false_iff_ne] at hk
  simp [capOk, hk]
theorem and_valid {r i : Int} (hr : rValid r = true) (hi : rValid i = true) : rValid (bits .and .i64 r i) = true := by
  rw [← rMeet_of hr hi]; exact rMeet_valid hr hi
theorem and_within {r i : Int} (hr : rValid r = true) (hi : rValid i = true) : bits .and .i64 (bits .and .i64 r i) r = bits .and .i64 r i := by
  rw [← rMeet_of hr hi, ← rMeet_of (rMeet_valid hr hi) hr]; exact rMeet_meet hr hi

/-- The minted capability is valid. -/
theorem minted_valid {k o r x i j : Int} (h : mintOk k o r x i j = true) : capOk k o (bits .and .i64 r i) (mintB x j) = true := by
  obtain ⟨h1, h2, h3, h4, h5, h6, h7⟩ := mintOk_parts h
  have hr := capOk_rights h1
  have hR := and_valid hr h2
  rw [capOk_pos h4] at h1 ⊢
  simp only [Bool.and_eq_true, Bool.or_eq_true] at h1 ⊢
  obtain ⟨⟨⟨a1, a2⟩, a3⟩, a4⟩ := h1
  refine ⟨⟨⟨a1, a2⟩, hR⟩, ?_⟩
  unfold mintB
  split
  · next hj => exact Or.inr ⟨(h7 hj).1, h3⟩
  · exact a4
theorem minted_badge {k o r x i j : Int} (h : mintOk k o r x i j = true) : (mintB x j == x || x == 0) = true := by
  obtain ⟨h1, h2, h3, h4, h5, h6, h7⟩ := mintOk_parts h
  unfold mintB
  split
  · next hj => simp [(h7 hj).2]
  · simp
theorem minted_within {k o r x i j : Int} (h : mintOk k o r x i j = true) : capWithin k o (bits .and .i64 r i) (mintB x j) k o r x = true := by
  obtain ⟨h1, h2, h3, h4, h5, h6, h7⟩ := mintOk_parts h
  have hr := capOk_rights h1
  have hb := minted_badge h
  unfold capWithin
  rw [minted_valid h, h1, and_within hr h2, hb]
  simp
theorem minted_rights {k o r x i j : Int} (h : mintOk k o r x i j = true) : rWithin (bits .and .i64 r i) i = true := by
  obtain ⟨h1, h2, h3, h4, h5, h6, h7⟩ := mintOk_parts h
  have hr := capOk_rights h1
  rw [← rMeet_of hr h2, ← rMeet_comm]
  exact rWithin_meet h2 hr
theorem minted_which {k o r x i j : Int} (h : mintOk k o r x i j = true) : (mintB x j == j) = true ∨ (mintB x j == j) = false ∧ (j == 0) = true ∧ (mintB x j == x) = true := by
  obtain ⟨h1, h2, h3, h4, h5, h6, h7⟩ := mintOk_parts h
  have hj := (inB_iff.1 h3).1
  unfold mintB
  split
  · simp
  · have : j = 0 := by omega
    subst this
    cases hx : (x == 0) <;> simp
theorem minted_once {k o R B : Int} (hB : (B == 0) = false) : mintOk k o R B 15 7 = false := by
  unfold mintOk
  simp [hB]

theorem i64_and_comm (a b : Int) : bits .and .i64 a b = bits .and .i64 b a := by
  show IntKind.i64.wrap ((BitVec.ofInt 64 a &&& BitVec.ofInt 64 b).toNat : Int) = IntKind.i64.wrap ((BitVec.ofInt 64 b &&& BitVec.ofInt 64 a).toNat : Int)
  rw [BitVec.and_comm]
theorem and_self {r : Int} (hr : rValid r = true) : bits .and .i64 r r = r := by
  rw [← rMeet_of hr hr]; exact rMeet_self hr
theorem within_self {k o r x : Int} (h : capOk k o r x = true) : capWithin k o r x k o r x = true := by
  unfold capWithin
  rw [h, and_self (capOk_rights h)]
  simp
theorem within_bad {k o r x k' o' r' x' : Int} (h : capOk k o r x = false ∨ capOk k' o' r' x' = false) : capWithin k o r x k' o' r' x' = false := by
  unfold capWithin
  rcases h with h | h <;> simp [h]
/-- The badge that the law mints with. -/
def kinBadge (x x' : Int) : Int := if x' == x then 0 else x
theorem capOk_badge {k o r x : Int} (h : capOk k o r x = true) : (0 ≤ x ∧ x ≤ 999) ∧ (0 < x → badgedB k = true) := by
  have hb := capOk_bounds h
  refine ⟨hb.2.2.2, fun hx => ?_⟩
  unfold capOk at h
  split at h
  · simp only [Bool.and_eq_true, beq_iff_eq] at h
    omega
  · simp only [Bool.and_eq_true, Bool.or_eq_true, beq_iff_eq] at h
    rcases h.2 with h | h
    · omega
    · exact h.1
/-- Within is reached by minting. -/
theorem kin_reached {k o r x k' o' r' x' : Int} (ha : capOk k o r x = true) (hb : capOk k' o' r' x' = true) (h0 : (k' == 0) = false) (h1 : (k' == 1) = false) (h7 : (k' == 7) = false) :
    (mintOk k' o' r' x' r (kinBadge x x') = false ∧ capWithin k o r x k' o' r' x' = false) ∨
    (mintOk k' o' r' x' r (kinBadge x x') = true ∧ capWithin k o r x k' o' r' x' = ((k' == k) && (o' == o) && (bits .and .i64 r' r == r) && (mintB x' (kinBadge x x') == x))) := by
  have hr := capOk_rights ha
  obtain ⟨hx, hxb⟩ := capOk_badge ha
  have W : capWithin k o r x k' o' r' x' = ((k' == k) && (o' == o) && (bits .and .i64 r' r == r) && (x == x' || x' == 0)) := by
    unfold capWithin
    rw [ha, hb, i64_and_comm r' r, Bool.beq_comm (a := k'), Bool.beq_comm (a := o')]
    simp
  have M : ∀ j, mintOk k' o' r' x' r j = (inB j 0 999 && !(decide (0 < j) && (!badgedB k' || !(x' == 0)))) := fun j => by
    unfold mintOk
    rw [hb, hr, h0, h1, h7]
    simp
  rw [W, M]
  unfold kinBadge mintB
  by_cases e : x' = x
  · subst e
    right
    simp [inB]
  · rw [show (x' == x) = false by simpa using e]
    have e2 : (x == x') = false := by simpa using fun h => e h.symm
    have hin : inB x 0 999 = true := inB_iff.2 hx
    by_cases hp : 0 < x
    · have hk := hxb hp
      by_cases hz : x' = 0
      · subst hz
        cases hk' : badgedB k'
        · left
          have hne : (k' == k) = false := by
            rw [beq_eq_false_iff_ne]
            intro h
            rw [h, hk] at hk'
            cases hk'
          simp [hp, hne]
        · right
          simp [hp, hin]
      · left
        simp [hp, e2, hz]
    · have hz : x = 0 := by omega
      subst hz
      right
      simp [inB, e2]

end Go.Proofs.Ytdafogfpbpjmdaa
