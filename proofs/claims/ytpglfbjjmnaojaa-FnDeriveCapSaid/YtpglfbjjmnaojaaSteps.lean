/- RevokeSteps of the program and of the reference. No condition beyond those written. -/
import Derived.Test.YtpglfbjjmnaojaaDescI
namespace Go.Proofs.Ytpglfbjjmnaojaa
open Go.RowKit
set_option linter.unusedVariables false

theorem desc_len_le (es : List Ent) (m : Int) : (desc es m).length ≤ es.length := descTo_len _ _ _
theorem descL_len (es : List Ent) (m : Int) : (descL es m).length ≤ es.length := by
  unfold descL
  split
  · exact desc_len_le es m
  · simp
theorem IntO.grown {w w' : World} {base n c : Nat} {A : Option Addr} {xs : List Int} (h : IntO w base A n c xs) {r : Option Nat} (hg : w.grownBy w' r) (hr : ∀ x, r = some x → x < base) : IntO w' base A n c xs := RowO.grown h hg hr
theorem IntO.row {w : World} {base n c : Nat} {A : Option Addr} {xs : List Int} (h : IntO w base A n c xs) : ∀ g, rowOf A n = some g → base ≤ g ∧ g < w.heap.size := RowO.row h
/-- How many steps. -/
def stepsE (es : List Ent) (m most : Int) : Int := if liveB es m && inB most 1 30 then max 1 (((desc es m).length + most - 1) / most) else -1
theorem stepsE_no {es : List Ent} {m most : Int} (h : liveB es m = false ∨ inB most 1 30 = false) : stepsE es m most = -1 := by
  unfold stepsE
  rcases h with h | h <;> simp [h]
theorem stepsE_yes {es : List Ent} {m most : Int} (h : liveB es m = true) (h' : inB most 1 30 = true) : stepsE es m most = max 1 (((desc es m).length + most - 1) / most) := by simp [stepsE, h, h']

set_option maxHeartbeats 4000000 in
theorem spec_RevokeSteps (A : Option Addr) (n c b1 : Nat) (es : List Ent) (m most : Int) (w : World) (h : EntO w b1 A n c es) (hn : n ≤ 2000000) :
    Calls Try.prog 24 #[.slice A n c, .int .i64 m, .int .i64 most] w fun e w' => e = .returned (.int .i64 (stepsE es m most)) ∧ Below w.heap.size w w' := by
  have hL := spec_l5Live A n c b1 es m w h hn
  cases hl : liveB es m
  · rw [hl] at hL
    have HE := Lib.hid (stepsE_no (es := es) (m := m) (most := most) (.inl hl))
    clear h hl
    go_enter Try.func24, Try.ntmps24
    go_wp2_with fail
    refine hL.mono ?_
    rintro e w1 ⟨rfl, hb1⟩
    have HB := Lib.hid hb1
    clear hb1 hL
    go_wp2_with fail
    go_ret
    exact ⟨ret_int HE.out.symm, HB.out⟩
  · rw [hl] at hL
    cases hi : inB most 1 30
    · have HE := Lib.hid (stepsE_no (es := es) (m := m) (most := most) (.inr hi))
      clear h hl
      go_enter Try.func24, Try.ntmps24
      go_wp2_with fail
      refine hL.mono ?_
      rintro e w1 ⟨rfl, hb1⟩
      have HB := Lib.hid hb1
      clear hb1 hL
      go_wp2_with (first | (go_at_call 49; refine (spec_in _ _ _ _).mono ?_; rintro e w' ⟨rfl, rfl⟩))
      go_ret
      exact ⟨ret_int HE.out.symm, HB.out⟩
    · have HE := Lib.hid (stepsE_yes (es := es) (m := m) (most := most) hl hi)
      have hd := fun W (h : EntO W b1 A n c es) => spec_Descendants A n c b1 es m W h hn
      simp only [descL, hl, if_true] at hd
      have hN : (desc es m).length ≤ 30 := by have := desc_len_le es m; have := dValid_len (liveB_iff.1 hl).1; omega
      have hm := inB_iff.1 hi
      have H := Lib.hid h
      clear h hl
      go_enter Try.func24, Try.ntmps24
      go_wp2_with fail
      refine hL.mono ?_
      rintro e w1 ⟨rfl, hb1⟩
      have HB := Lib.hid hb1
      have hd1 := hd w1 (H.out.below hb1)
      clear hb1 hL hd
      go_wp2_with (first | (go_at_call 49; refine (spec_in _ _ _ _).mono ?_; rintro e w' ⟨rfl, rfl⟩))
      refine hd1.mono ?_
      rintro e w2 ⟨D, d, rfl, -, hB2⟩
      have HB2 := Lib.hid (below_next HB.out hB2)
      clear hB2 hd1
      go_wp2_with fail
      go_ret
      exact ⟨ret_int HE.out.symm, HB2.out⟩

set_option maxHeartbeats 4000000 in
theorem impl_RevokeSteps (A : Option Addr) (n c b1 : Nat) (es : List Ent) (m most : Int) (w : World) (h : EntO w b1 A n c es) (hn : n ≤ 2000000) :
    Calls Try.prog 25 #[.slice A n c, .int .i64 m, .int .i64 most] w fun e w' => e = .returned (.int .i64 (stepsE es m most)) ∧ Below w.heap.size w w' := by
  have hL := impl_alive A n c b1 es m w h hn
  cases hl : liveB es m
  · rw [hl] at hL
    have HE := Lib.hid (stepsE_no (es := es) (m := m) (most := most) (.inl hl))
    clear h hl
    go_enter Try.func25, Try.ntmps25
    go_wp2_with fail
    refine hL.mono ?_
    rintro e w1 ⟨rfl, hb1⟩
    have HB := Lib.hid hb1
    clear hb1 hL
    go_wp2_with fail
    go_ret
    exact ⟨ret_int HE.out.symm, HB.out⟩
  · rw [hl] at hL
    cases hi : inB most 1 30
    · have HE := Lib.hid (stepsE_no (es := es) (m := m) (most := most) (.inr hi))
      clear h hl
      go_enter Try.func25, Try.ntmps25
      go_wp2_with fail
      refine hL.mono ?_
      rintro e w1 ⟨rfl, hb1⟩
      have HB := Lib.hid hb1
      clear hb1 hL
      go_wp2_with (first | (go_at_call 53; refine (impl_in _ _ _ _).mono ?_; rintro e w' ⟨rfl, rfl⟩))
      go_ret
      exact ⟨ret_int HE.out.symm, HB.out⟩
    · have HE := Lib.hid (stepsE_yes (es := es) (m := m) (most := most) hl hi)
      obtain ⟨t, rfl⟩ := Int.eq_ofNat_of_zero_le (liveB_iff.1 hl).2.1.1
      have hd := fun W (h : EntO W b1 A n c es) => impl_descendants A n c b1 es t W h hn hl
      have hN : (desc es t).length ≤ 30 := by have := desc_len_le es t; have := dValid_len (liveB_iff.1 hl).1; omega
      have hm := inB_iff.1 hi
      have H := Lib.hid h
      clear h hl
      go_enter Try.func25, Try.ntmps25
      go_wp2_with fail
      refine hL.mono ?_
      rintro e w1 ⟨rfl, hb1⟩
      have HB := Lib.hid hb1
      have hd1 := hd w1 (H.out.below hb1)
      clear hb1 hL hd
      go_wp2_with (first | (go_at_call 53; refine (impl_in _ _ _ _).mono ?_; rintro e w' ⟨rfl, rfl⟩))
      refine hd1.mono ?_
      rintro e w2 ⟨D, d, rfl, -, hB2⟩
      have HB2 := Lib.hid (below_next HB.out hB2)
      clear hB2 hd1
      go_wp2_with fail
      go_ret
      exact ⟨ret_int HE.out.symm, HB2.out⟩

end Go.Proofs.Ytpglfbjjmnaojaa
