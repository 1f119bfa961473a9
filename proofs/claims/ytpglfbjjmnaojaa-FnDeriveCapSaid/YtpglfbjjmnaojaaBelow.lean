/- The reference's l5Below: the walk up by the parents. No condition beyond those written. -/
import Derived.Test.YtpglfbjjmnaojaaEntK
namespace Go.Proofs.Ytpglfbjjmnaojaa
open Go.RowKit
set_option linter.unusedVariables false

/-- In a valid tree the reference's walk up answers as 'below' does. -/
theorem below_up {es : List Ent} {m : Int} (hv : dValid es = true) (hm : 0 ≤ m) {i : Nat} (hi : i < es.length) (hg : (es.getD i E0).g = false) : upF es m (i + 1) (es.getD i E0).p = below es m i := by
  have := upF_live hv hm i (by omega) (by omega) (by rw [entAt_nat]; exact hg) (i + 1) (by omega)
  rwa [entAt_nat] at this
theorem below_gone {es : List Ent} {m : Int} (hv : dValid es = true) (hm : 0 ≤ m) {i : Nat} (hi : i < es.length) (hg : (es.getD i E0).g = true) : below es m i = false := by
  rw [below_eq hm (dValid_up hv) (by omega) (by omega), entAt_nat, hg]
  rfl

set_option maxHeartbeats 4000000 in
theorem spec_l5Below (A : Option Addr) (n c b1 : Nat) (es : List Ent) (i m : Nat) (w : World) (h : EntO w b1 A n c es) (hn : n ≤ 2000000) (hv : dValid es = true) (hi : i < n) (hm : m < n) :
    Calls Try.prog 58 #[.slice A n c, .int .i64 i, .int .i64 m] w fun e w' => e = .returned (.bool (below es m i)) ∧ w = w' := by
  have hl := h.1
  obtain ⟨g, rfl, -, hgl, hcells, -⟩ := h.at_ (by omega)
  have HC := Lib.hid hcells
  have HP := Lib.hid (fun (j : Nat) (hj : j < n) => show -1 ≤ (es.getD j E0).p ∧ (es.getD j E0).p < j by
    have := dValid_par hv (i := (j : Int)) (by omega) (by omega)
    rwa [entAt_nat] at this)
  clear hcells h
  have hi' : (i : Int) < (n : Int) := by omega
  obtain ⟨a0, a1, a2, a3, a4, a5⟩ := HC.out i hi
  cases hg : (es.getD i E0).g
  · rw [hg] at a5
    have HB := Lib.hid (below_up hv (show (0 : Int) ≤ m by omega) (by omega : i < es.length) hg)
    have h1 := HP.out i hi
    generalize (es.getD i E0).p = p0 at h1 a4 HB
    go_enter Try.func58, Try.ntmps58
    go_wp2_with fail
    go_loop [1] (fun v => ∃ (p : Int) (f : Nat), v = .int .i64 p ∧ -1 ≤ p ∧ p < n ∧ p < f ∧ upF es m f p = below es m i) (fun v => (intOf v + 1).toNat)
    case atStart =>
      exact ⟨_, i + 1, rfl, by omega, by omega, by omega, HB.out⟩
    case round =>
      obtain ⟨p, f, rfl, p0, p1, pf, hup⟩ := hrel
      have HUP := Lib.hid hup
      clear hup
      by_cases hlt : (m : Int) < p
      · obtain ⟨t, rfl⟩ := Int.eq_ofNat_of_zero_le (show 0 ≤ p by omega)
        obtain ⟨e0, e1, e2, e3, e4, e5⟩ := HC.out t (by omega)
        have hpt := HP.out t (by omega)
        obtain ⟨f, rfl⟩ : ∃ q, f = q + 1 := ⟨f - 1, by omega⟩
        have HU : Hid (upF es m f (es.getD t E0).p = below es m i) := by
          have := HUP.out
          rw [upF, if_pos hlt, entAt_nat] at this
          exact this
        generalize (es.getD t E0).p = p' at *
        go_wp2_with fail
        go_roundw
        case rel => exact ⟨p', f, rfl, by omega, by omega, by omega, HU.out⟩
        case measure => simp [intOf]; omega
      · have HF : Hid ((p == (m : Int)) = below es m i) := by
          show _ = _
          rw [← HUP.out]
          cases f with
          | zero =>
            rw [upF, beq_eq_false_iff_ne]
            omega
          | succ f => rw [upF, if_neg hlt]
        cases he : (p == (m : Int))
        all_goals
          go_wp2_with fail
          go_ret
          exact ⟨ret_bool (by rw [← HF.out, he]), rfl⟩
  · rw [hg] at a5
    have HB := Lib.hid (below_gone hv (show (0 : Int) ≤ m by omega) (by omega : i < es.length) hg)
    go_enter Try.func58, Try.ntmps58
    go_wp2_with fail
    go_ret
    exact ⟨ret_bool HB.out.symm, rfl⟩

end Go.Proofs.Ytpglfbjjmnaojaa
