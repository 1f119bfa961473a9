/- TableValid of the program. No condition beyond those written. -/
import Derived.Test.YtdafogfpbpjmdaaTabW
namespace Go.Proofs.Ytdafogfpbpjmdaa
open Go.RowKit
set_option linter.unusedVariables false

/-- The boxed table stays. -/
def TabK (w0 : World) (S : Option Addr) (n c : Nat) (bits guard gbits : Int) (w : World) : Prop := CAt w w0.heap.size 29 [.int .i64 bits, .int .i64 guard, .int .i64 gbits, .slice S n c] ∧ Below w0.heap.size w0 w
section
variable {w0 w w1 : World} {S : Option Addr} {n c : Nat} {bits guard gbits : Int} {R : Prop}
theorem TabK.drew (h : TabK w0 S n c bits guard gbits w) : TabK w0 S n c bits guard gbits w.drew := ⟨h.1, h.2.drew⟩
theorem TabK.step (hb : Below w.heap.size w w1) (h : TabK w0 S n c bits guard gbits w ∧ R) : TabK w0 S n c bits guard gbits w1 := ⟨h.1.1.below hb, below_next h.1.2 hb⟩
theorem TabK.cells (h : TabK w0 S n c bits guard gbits w) : TabK w0 S n c bits guard gbits w ∧ w.cell? ⟨w0.heap.size, 0, none⟩ = some (.int .i64 bits) ∧ w.cell? ⟨w0.heap.size, 1, none⟩ = some (.int .i64 guard) ∧ w.cell? ⟨w0.heap.size, 2, none⟩ = some (.int .i64 gbits) ∧ w.cell? ⟨w0.heap.size, 3, none⟩ = some (.slice S n c) :=
  ⟨h, h.1.cells4⟩
end

set_option maxHeartbeats 8000000 in
theorem impl_TableValid (bits guard gbits : Int) (S : Option Addr) (n c : Nat) (cs : List Cp) (w : World) (h : CapRd w S n cs) (hn : n ≤ 2000000) :
    Calls Try.prog 18 #[.agg #[.int .i64 bits, .int .i64 guard, .int .i64 gbits, .slice S n c]] w fun e w' => e = .returned (.bool (tabOk ⟨bits, guard, gbits, cs⟩)) ∧ Below w.heap.size w w' := by
  have H := tabOk_parts bits guard gbits cs h.1
  have HR := Lib.hid h
  clear h
  cases h1 : inB bits 1 4
  · rw [h1] at H
    have HH := Lib.hid H
    clear H
    go_enter Try.func18, Try.ntmps18
    go_wp2_with fail
    go_quiet ((go_at_call 47; exact quiet_left (impl_in _ _ _ _)))
    go_wp2_with fail
    go_ret
    exact ⟨ret_bool (HH.out.trans (by simp)).symm, below_drewN' (below_al (Below.refl _ _) _) _⟩
  · rw [h1] at H
    obtain ⟨b0, b1⟩ := inB_iff.1 h1
    have hb0 : 0 ≤ bits := by omega
    have hsh := pw_wrap (b := bits) (by omega)
    have hsh2 := pw_i64 (b := bits) (by omega)
    cases h2 : inB gbits 0 4
    · rw [h2] at H
      have HH := Lib.hid H
      clear H
      go_enter Try.func18, Try.ntmps18
      go_wp2_with fail
      go_quiet ((go_at_call 47; exact quiet_left (impl_in _ _ _ _)))
      go_wp2_with fail
      go_ret
      exact ⟨ret_bool (HH.out.trans (by simp)).symm, below_drewN' (below_al (Below.refl _ _) _) _⟩
    · rw [h2] at H
      obtain ⟨g0, g1⟩ := inB_iff.1 h2
      have hgh := pw_wrap (b := gbits) (by omega)
      have hgh2 := pw_i64 (b := gbits) (by omega)
      have hp := pw_pos gbits
      have hq := pw4 g1
      generalize pw gbits = P at *
      have hsu : IntKind.i64.wrap (P - 1) = P - 1 := i64_id (by omega) (by omega)
      cases h3 : inB guard 0 (P - 1)
      · rw [h3] at H
        have HH := Lib.hid H
        clear H
        go_enter Try.func18, Try.ntmps18
        go_wp2_with fail
        go_quiet ((go_at_call 47; exact quiet_left (impl_in _ _ _ _)))
        go_wp2_with fail
        go_ret
        exact ⟨ret_bool (HH.out.trans (by simp)).symm, below_drewN' (below_al (Below.refl _ _) _) _⟩
      · rw [h3] at H
        have hbp := pw_pos bits
        have hbq := pw4 b1
        generalize pw bits = B at *
        by_cases h4 : (n : Int) = B
        · rw [decide_eq_true h4] at H
          simp only [Bool.true_and] at H
          have HH := Lib.hid H
          have h5 : ((n : Int) == B) = true := by rw [beq_iff_eq]; exact h4
          have hA := fun (W : World) (R : Prop) (h : TabK w S n c bits guard gbits W ∧ R) => impl_anyInvalid S n c cs W (HR.out.below h.1.2) hn
          clear H
          have h0 : TabK w S n c bits guard gbits (w.alloc (.cells #[.int .i64 bits, .int .i64 guard, .int .i64 gbits, .slice S n c] 29)) := ⟨CAt.new w _ [.int .i64 bits, .int .i64 guard, .int .i64 gbits, .slice S n c], below_al (Below.refl _ _) _⟩
          obtain ⟨-, c0, c1, c2, c3⟩ := h0.cells
          go_enter Try.func18, Try.ntmps18
          go_wp2_with fail
          (first
            | (go_region_held3 (fun w' => TabK w S n c bits guard gbits w' ∧ w'.cell? ⟨w.heap.size, 0, none⟩ = some (.int .i64 bits) ∧ w'.cell? ⟨w.heap.size, 1, none⟩ = some (.int .i64 guard) ∧ w'.cell? ⟨w.heap.size, 2, none⟩ = some (.int .i64 gbits) ∧ w'.cell? ⟨w.heap.size, 3, none⟩ = some (.slice S n c))
                (first | exact (TabK.drew h0).cells | exact (TabK.step (by assumption) (by assumption)).cells | exact (And.left (by assumption) : TabK w S n c bits guard gbits _).cells)
                (first | (go_at_call 47; refine (impl_in _ _ _ _).mono ?_; rintro e w' ⟨rfl, rfl⟩) | (go_at_call 48; refine (hA _ _ (by assumption)).mono ?_; rintro e w9 ⟨rfl, hb9⟩)))
            | fail)
          have hT : TabK w S n c bits guard gbits w9 := And.left (by assumption)
          have HT := Lib.hid hT
          clear hT h0 hA c0 c1 c2 c3
          go_wp2_with fail
          go_ret
          exact ⟨ret_bool (by first | (rw [HH.out]; done) | (rw [HH.out]; simp)), HT.out.2⟩
        · rw [decide_eq_false h4] at H
          have h5 : ((n : Int) == B) = false := by rw [beq_eq_false_iff_ne]; exact h4
          have h6 : decide ((n : Int) = B) = false := decide_eq_false h4
          have h7 : ((n : Int) != B) = true := by rw [bne, h5]; rfl
          clear h4
          have HH := Lib.hid H
          clear H
          go_enter Try.func18, Try.ntmps18
          go_wp2_with fail
          go_quiet ((go_at_call 47; exact quiet_left (impl_in _ _ _ _)))
          go_wp2_with fail
          go_ret
          exact ⟨ret_bool (HH.out.trans (by simp)).symm, below_drewN' (below_al (Below.refl _ _) _) _⟩

end Go.Proofs.Ytdafogfpbpjmdaa
