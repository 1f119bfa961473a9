/- TableValid of the reference and of the program. No condition beyond those written. -/
import Derived.Test.YtdafogfpbpjmdaaTabV
namespace Go.Proofs.Ytdafogfpbpjmdaa
open Go.RowKit
set_option linter.unusedVariables false

theorem tabOk_parts (bits guard gbits : Int) (cs : List Cp) {n : Nat} (hl : cs.length = n) : tabOk ⟨bits, guard, gbits, cs⟩ = (inB bits 1 4 && inB gbits 0 4 && inB guard 0 (pw gbits - 1) && decide ((n : Int) = pw bits) && cs.all cpOk) := by
  subst hl
  rfl
theorem below_set' {w u : World} (h : Below w.heap.size w u) {p : Addr} (hp : w.heap.size ≤ p.block) (x : Value) : Below w.heap.size w (u.setCell p x) := h.setCell hp x

set_option maxHeartbeats 8000000 in
theorem spec_TableValid (bits guard gbits : Int) (S : Option Addr) (n c : Nat) (cs : List Cp) (w : World) (h : CapRd w S n cs) (hn : n ≤ 2000000) :
    Calls Try.prog 16 #[.agg #[.int .i64 bits, .int .i64 guard, .int .i64 gbits, .slice S n c]] w fun e w' => e = .returned (.bool (tabOk ⟨bits, guard, gbits, cs⟩)) ∧ Below w.heap.size w w' := by
  have H := tabOk_parts bits guard gbits cs h.1
  have HR := Lib.hid h
  clear h
  cases h1 : inB bits 1 4
  · rw [h1] at H
    have HH := Lib.hid H
    clear H
    go_enter Try.func16, Try.ntmps16
    go_wp2_with fail
    go_quiet ((go_at_call 44; exact quiet_left (spec_in _ _ _ _)))
    go_wp2_with fail
    go_ret
    exact ⟨ret_bool (HH.out.trans (by simp)).symm, below_drewN' (below_al (Below.refl _ _) _) _⟩
  · rw [h1] at H
    obtain ⟨b0, b1⟩ := inB_iff.1 h1
    have hb0 : 0 ≤ bits := by omega
    have hsh := pw_wrap (b := bits) (by omega)
    have hsh2 := pw_i64 (b := bits) (by omega)
    cases h2 : inB gbits 0 4
    · rw [h2] at H
      have HH := Lib.hid H
      clear H
      go_enter Try.func16, Try.ntmps16
      go_wp2_with fail
      go_quiet ((go_at_call 44; exact quiet_left (spec_in _ _ _ _)))
      go_wp2_with fail
      go_ret
      exact ⟨ret_bool (HH.out.trans (by simp)).symm, below_drewN' (below_al (Below.refl _ _) _) _⟩
    · rw [h2] at H
      obtain ⟨g0, g1⟩ := inB_iff.1 h2
      have hgh := pw_wrap (b := gbits) (by omega)
      have hgh2 := pw_i64 (b := gbits) (by omega)
      have hp := pw_pos gbits
      have hq := pw4 g1
      generalize pw gbits = P at *
      have hsu : IntKind.i64.wrap (P - 1) = P - 1 := i64_id (by omega) (by omega)
      cases h3 : inB guard 0 (P - 1)
      · rw [h3] at H
        have HH := Lib.hid H
        clear H
        go_enter Try.func16, Try.ntmps16
        go_wp2_with fail
        go_quiet ((go_at_call 44; exact quiet_left (spec_in _ _ _ _)))
        go_wp2_with fail
        go_ret
        exact ⟨ret_bool (HH.out.trans (by simp)).symm, below_drewN' (below_al (Below.refl _ _) _) _⟩
      · rw [h3] at H
        have hbp := pw_pos bits
        have hbq := pw4 b1
        generalize pw bits = B at *
        by_cases h4 : (n : Int) = B
        · rw [decide_eq_true h4] at H
          simp only [Bool.true_and] at H
          have hCt : CAt (w.alloc (.cells #[.int .i64 bits, .int .i64 guard, .int .i64 gbits, .slice S n c] 29)) w.heap.size 29 [.int .i64 bits, .int .i64 guard, .int .i64 gbits, .slice S n c] := CAt.new w _ _
          have HCt := Lib.hid hCt
          have HH := Lib.hid H
          have h5 : ((n : Int) == B) = true := by rw [beq_iff_eq]; exact h4
          have h7 : ((n : Int) != B) = false := by rw [bne, h5]; rfl
          have HN := Lib.hid h4
          clear H hCt h4
          go_enter Try.func16, Try.ntmps16
          go_wp2_with fail
          go_quiet ((go_at_call 44; exact quiet_left (spec_in _ _ _ _)))
          go_wp2_with fail
          clear h1 h2 h3 hsh hsh2 hgh hgh2 hsu h5 h7
          go_loopw [3] (fun i wr => ∃ j : Nat, j ≤ n ∧ i = .int .i64 j ∧ (∀ t, t < j → cpOk (cs.getD t C0) = true) ∧ CAt wr w.heap.size 29 [.int .i64 bits, .int .i64 guard, .int .i64 gbits, .slice S n c] ∧ Below w.heap.size w wr) (fun i _ => n - (intOf i).toNat)
          case atStart => exact ⟨0, Nat.zero_le _, rfl, fun t ht => absurd ht (by omega), HCt.out, below_drewN' (below_al (Below.refl _ _) _) _⟩
          case round =>
            clear HCt
            obtain ⟨j, hj, rfl, hpre, hC, hb⟩ := hrel
            obtain ⟨t0, t1, t2, t3⟩ := hC.cells4
            by_cases hlt : j < n
            · have hR := HR.out.below hb
              obtain ⟨g, o, rfl, hgl, hcells⟩ := hR.2 (by omega)
              obtain ⟨a0, a1, a2, a3⟩ := hcells j hlt
              have HPRE := Lib.hid hpre
              have HB := Lib.hid hb
              have HC := Lib.hid hC
              have hlt' : (j : Int) < (n : Int) := by omega
              have hj0 : (0 : Int) ≤ (j : Int) := by omega
              have HL := Lib.hid HR.out.1
              obtain ⟨k1, o1, r1, b1', hee⟩ : ∃ k o r b, cs.getD j C0 = ⟨k, o, r, b⟩ := ⟨_, _, _, _, rfl⟩
              rw [hee] at a0 a1 a2 a3
              have HEE := Lib.hid hee
              clear hcells hpre hb hR hee hC
              cases hok : capOk k1 o1 r1 b1'
              · go_wp2_with (first | (go_at_call 45; refine (spec_CapValid _ _ _ _ _).mono ?_; rintro e w' ⟨rfl, rfl⟩))
                go_ret
                have hB := HB.out
                refine ⟨ret_bool ?_, (by repeat (with_reducible first | exact hB | refine below_al ?_ _ | refine below_drewN' ?_ _))⟩
                rw [HH.out]
                symm
                cases hc : cs.all cpOk
                · rfl
                · have h1 := List.all_eq_true.1 hc _ (List.getElem_mem (show j < cs.length by rw [HL.out]; exact hlt))
                  have h2 : cs[j]'(by rw [HL.out]; exact hlt) = ⟨k1, o1, r1, b1'⟩ := by rw [← HEE.out]; simp [List.getD, HL.out, hlt]
                  rw [h2] at h1
                  exact absurd h1 (by show ¬ capOk k1 o1 r1 b1' = true; rw [hok]; simp)
              · go_wp2_with (first | (go_at_call 45; refine (spec_CapValid _ _ _ _ _).mono ?_; rintro e w' ⟨rfl, rfl⟩))
                go_roundw
                case rel =>
                  refine ⟨j + 1, by omega, by go_num, fun t ht => ?_, ?_, ?_⟩
                  · by_cases e : t = j
                    · subst e
                      rw [HEE.out]
                      exact hok
                    · exact HPRE.out t (by omega)
                  · have hC := HC.out
                    repeat (with_reducible first | exact hC | refine CAt.alloc ?_ _)
                  · have hB := HB.out
                    repeat (with_reducible first | exact hB | refine below_al ?_ _ | refine below_drewN' ?_ _)
                case measure => simp [intOf]; omega
            · have hge : ¬ (j : Int) < (n : Int) := by omega
              have hall : cs.all cpOk = true := List.all_eq_true.2 fun x hx => by
                obtain ⟨i, hi, rfl⟩ := List.getElem_of_mem hx
                have := hpre i (by have := HR.out.1; omega)
                rwa [show cs.getD i C0 = cs[i] by simp [List.getD, hi]] at this
              have HB := Lib.hid hb
              have HALL := Lib.hid hall
              clear hb hpre hC hall
              go_wp2_with fail
              go_ret
              exact ⟨ret_bool (by rw [HH.out, HALL.out]), HB.out⟩
        · rw [decide_eq_false h4] at H
          have h5 : ((n : Int) == B) = false := by rw [beq_eq_false_iff_ne]; exact h4
          have h6 : decide ((n : Int) = B) = false := decide_eq_false h4
          have h7 : ((n : Int) != B) = true := by rw [bne, h5]; rfl
          clear h4
          have HH := Lib.hid H
          clear H
          go_enter Try.func16, Try.ntmps16
          go_wp2_with fail
          go_quiet ((go_at_call 44; exact quiet_left (spec_in _ _ _ _)))
          go_wp2_with fail
          go_ret
          exact ⟨ret_bool (HH.out.trans (by simp)).symm, below_drewN' (below_al (Below.refl _ _) _) _⟩

end Go.Proofs.Ytdafogfpbpjmdaa
