/- l5Live of the reference and alive of the program. No condition beyond those written. -/
import Derived.Test.YtpglfbjjmnaojaaDValid
import Derived.Test.YtpglfbjjmnaojaaDValidI
namespace Go.Proofs.Ytpglfbjjmnaojaa
open Go.RowKit
set_option linter.unusedVariables false

set_option maxHeartbeats 4000000 in
theorem spec_l5Live (A : Option Addr) (n c b1 : Nat) (es : List Ent) (m : Int) (w : World) (h : EntO w b1 A n c es) (hn : n ≤ 2000000) :
    Calls Try.prog 55 #[.slice A n c, .int .i64 m] w fun e w' => e = .returned (.bool (liveB es m)) ∧ Below w.heap.size w w' := by
  have hv := spec_DerivationValid A n c b1 es w h hn
  have hl := h.1
  have HB : Hid (liveB es m = (dValid es && inB m 0 (n - 1) && !(entAt es m).g)) := by show _ = _; rw [← hl]; rfl
  have hw1 : IntKind.i64.wrap ((n : Int) - 1) = (n : Int) - 1 := by rw [IntKind.wrap_i64]; omega
  have H := Lib.hid h
  clear h hl
  cases hd : dValid es
  · rw [hd] at hv
    go_enter Try.func55, Try.ntmps55
    go_wp2_with fail
    refine hv.mono ?_
    rintro e w1 ⟨rfl, hb1⟩
    go_wp2_with fail
    go_ret
    exact ⟨ret_bool (by rw [HB.out, hd]; rfl), hb1⟩
  · rw [hd] at hv
    cases hi : inB m 0 (n - 1)
    · go_enter Try.func55, Try.ntmps55
      go_wp2_with fail
      refine hv.mono ?_
      rintro e w1 ⟨rfl, hb1⟩
      go_wp2_with (first | (go_at_call 49; refine (spec_in _ _ _ _).mono ?_; rintro e w' ⟨rfl, rfl⟩))
      go_ret
      exact ⟨ret_bool (by rw [HB.out, hd, hi]; rfl), hb1⟩
    · obtain ⟨m0, m1⟩ := inB_iff.1 hi
      obtain ⟨t, rfl⟩ := Int.eq_ofNat_of_zero_le m0
      have ht : t < n := by omega
      have ht' : (t : Int) < (n : Int) := by omega
      have hg : (entAt es t).g = (es.getD t E0).g := by rw [entAt_nat]
      have HG := Lib.hid hg
      clear hg m1
      obtain ⟨k, o, r, b, p, q, hx⟩ : ∃ k o r b p q, es.getD t E0 = ⟨k, o, r, b, p, q⟩ := ⟨_, _, _, _, _, _, rfl⟩
      have HX := Lib.hid hx
      clear hx
      go_enter Try.func55, Try.ntmps55
      go_wp2_with fail
      refine hv.mono ?_
      rintro e w1 ⟨rfl, hb1⟩
      have hK : EntK w.heap.size w A n c b1 es w1 := EntK.step hb1 ⟨⟨H.out, Below.refl _ _, Nat.le_refl _⟩, trivial⟩
      obtain ⟨g, rfl, -, hgl, -⟩ := hK.1.at_ (by omega)
      obtain ⟨a0, a1, a2, a3, a4, a5⟩ := hK.cells ht HX.out
      clear hK
      go_wp2_with (first | (go_at_call 49; refine (spec_in _ _ _ _).mono ?_; rintro e w' ⟨rfl, rfl⟩))
      go_ret
      exact ⟨ret_bool (by rw [HB.out, hd, hi, HG.out, HX.out]; simp), hb1⟩

set_option maxHeartbeats 4000000 in
theorem impl_alive (A : Option Addr) (n c b1 : Nat) (es : List Ent) (m : Int) (w : World) (h : EntO w b1 A n c es) (hn : n ≤ 2000000) :
    Calls Try.prog 56 #[.slice A n c, .int .i64 m] w fun e w' => e = .returned (.bool (liveB es m)) ∧ Below w.heap.size w w' := by
  have hv := impl_DerivationValid A n c b1 es w h hn
  have hl := h.1
  have HB : Hid (liveB es m = (dValid es && inB m 0 (n - 1) && !(entAt es m).g)) := by show _ = _; rw [← hl]; rfl
  have hw1 : IntKind.i64.wrap ((n : Int) - 1) = (n : Int) - 1 := by rw [IntKind.wrap_i64]; omega
  have H := Lib.hid h
  clear h hl
  cases hd : dValid es
  · rw [hd] at hv
    go_enter Try.func56, Try.ntmps56
    go_wp2_with fail
    refine hv.mono ?_
    rintro e w1 ⟨rfl, hb1⟩
    go_wp2_with fail
    go_ret
    exact ⟨ret_bool (by rw [HB.out, hd]; rfl), hb1⟩
  · rw [hd] at hv
    cases hi : inB m 0 (n - 1)
    · go_enter Try.func56, Try.ntmps56
      go_wp2_with fail
      refine hv.mono ?_
      rintro e w1 ⟨rfl, hb1⟩
      go_wp2_with (first | (go_at_call 53; refine (impl_in _ _ _ _).mono ?_; rintro e w' ⟨rfl, rfl⟩))
      go_ret
      exact ⟨ret_bool (by rw [HB.out, hd, hi]; rfl), hb1⟩
    · obtain ⟨m0, m1⟩ := inB_iff.1 hi
      obtain ⟨t, rfl⟩ := Int.eq_ofNat_of_zero_le m0
      have ht : t < n := by omega
      have ht' : (t : Int) < (n : Int) := by omega
      have hg : (entAt es t).g = (es.getD t E0).g := by rw [entAt_nat]
      have HG := Lib.hid hg
      clear hg m1
      obtain ⟨k, o, r, b, p, q, hx⟩ : ∃ k o r b p q, es.getD t E0 = ⟨k, o, r, b, p, q⟩ := ⟨_, _, _, _, _, _, rfl⟩
      have HX := Lib.hid hx
      clear hx
      go_enter Try.func56, Try.ntmps56
      go_wp2_with fail
      refine hv.mono ?_
      rintro e w1 ⟨rfl, hb1⟩
      have hK : EntK w.heap.size w A n c b1 es w1 := EntK.step hb1 ⟨⟨H.out, Below.refl _ _, Nat.le_refl _⟩, trivial⟩
      obtain ⟨g, rfl, -, hgl, -⟩ := hK.1.at_ (by omega)
      obtain ⟨a0, a1, a2, a3, a4, a5⟩ := hK.cells ht HX.out
      clear hK
      go_wp2_with (first | (go_at_call 53; refine (impl_in _ _ _ _).mono ?_; rintro e w' ⟨rfl, rfl⟩))
      go_ret
      exact ⟨ret_bool (by rw [HB.out, hd, hi, HG.out, HX.out]; simp), hb1⟩

end Go.Proofs.Ytpglfbjjmnaojaa
