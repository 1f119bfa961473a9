/- TableValid and TablesValid of the program and of the reference. No condition beyond those written. -/
import Derived.Test.YtdafogfpbpjmdaaCapS
namespace Go.Proofs.Ytdafogfpbpjmdaa
open Go.RowKit
set_option linter.unusedVariables false

set_option maxHeartbeats 1000000 in
theorem anyInvalid_one (c : Cp) (w : World) : Calls Try.prog 73 #[.agg #[.int .i64 c.k, .int .i64 c.o, .int .i64 c.r, .int .i64 c.b]] w fun e w' => e = .returned (.bool (!cpOk c)) ∧ Below w.heap.size w w' := by
  obtain ⟨k, o, r, b⟩ := c
  show Calls _ _ #[.agg #[.int .i64 k, .int .i64 o, .int .i64 r, .int .i64 b]] w fun e w' => e = .returned (.bool (!capOk k o r b)) ∧ Below w.heap.size w w'
  go_enter Try.func73, Try.ntmps73
  go_wp2_with (first | (go_at_call 39; refine (impl_CapValid _ _ _ _ _).mono ?_; rintro e w' ⟨rfl, rfl⟩))
  go_ret
  exact ⟨rfl, (by repeat (with_reducible first | exact Below.refl _ _ | exact hB | refine below_al ?_ _ | refine below_drewN' ?_ _))⟩

def firstBad (cs : List Cp) : Int := match cs.findIdx? (fun c => !cpOk c) with | some i => i | none => -1
theorem firstBad_sign (cs : List Cp) : decide (0 ≤ firstBad cs) = !cs.all cpOk := by
  unfold firstBad
  cases h : cs.findIdx? (fun c => !cpOk c) with
  | none =>
    have := List.findIdx?_eq_none_iff.1 h
    have h2 : cs.all cpOk = true := List.all_eq_true.2 fun x hx => by simpa using this x hx
    rw [h2]
    rfl
  | some i =>
    obtain ⟨hi, hb, -⟩ := List.findIdx?_eq_some_iff_getElem.1 h
    have h2 : cs.all cpOk = false := by
      cases hc : cs.all cpOk
      · rfl
      · have := List.all_eq_true.1 hc _ (List.getElem_mem hi)
        rw [this] at hb
        cases hb
    rw [h2]
    simp
theorem firstBad_at {cs : List Cp} {j : Nat} (hj : j < cs.length) (hpre : ∀ i, i < j → cpOk (cs.getD i C0) = true) (hb : cpOk (cs.getD j C0) = false) : firstBad cs = j := by
  have h : cs.findIdx? (fun c => !cpOk c) = some j := List.findIdx?_eq_some_iff_getElem.2 ⟨hj, by
    have e : cs.getD j C0 = cs[j] := by simp [List.getD, hj]
    rw [e] at hb
    simp [hb], fun i hi => by
    have := hpre i hi
    rw [show cs.getD i C0 = cs[i] by simp [List.getD, show i < cs.length by omega]] at this
    simp [this]⟩
  unfold firstBad
  rw [h]
theorem firstBad_none {cs : List Cp} (hpre : ∀ i, i < cs.length → cpOk (cs.getD i C0) = true) : firstBad cs = -1 := by
  have h : cs.findIdx? (fun c => !cpOk c) = none := List.findIdx?_eq_none_iff.2 fun x hx => by
    obtain ⟨i, hi, rfl⟩ := List.getElem_of_mem hx
    have := hpre i hi
    rw [show cs.getD i C0 = cs[i] by simp [List.getD, hi]] at this
    simp [this]
  unfold firstBad
  rw [h]

set_option maxHeartbeats 2000000 in
theorem indexFunc_caps (A : Option Addr) (n c : Nat) (cs : List Cp) (w : World) (h : CapRd w A n cs) (hn : n ≤ 2000000) :
    Calls Try.prog 82 #[.slice A n c, .func (.func 73) #[] #[]] w fun e w' => e = .returned (.int .i64 (firstBad cs)) ∧ Below w.heap.size w w' := by
  have hl := h.1
  have H := Lib.hid h
  have HL := Lib.hid hl
  clear h hl
  go_enter Try.func82, Try.ntmps82
  go_wp2_with fail
  go_loopw [8] (fun i wr => ∃ j : Nat, j ≤ n ∧ i = .int .i64 j ∧ (∀ t, t < j → cpOk (cs.getD t C0) = true) ∧ Below w.heap.size w wr) (fun i _ => n - (intOf i).toNat)
  case atStart => exact ⟨0, Nat.zero_le _, rfl, fun t ht => absurd ht (by omega), Below.refl _ _⟩
  case round =>
    obtain ⟨j, hj, rfl, hpre, hb⟩ := hrel
    by_cases hlt : j < n
    · have hR := H.out.below hb
      obtain ⟨g, o, rfl, hgl, hcells⟩ := hR.2 (by omega)
      obtain ⟨a0, a1, a2, a3⟩ := hcells j hlt
      have HPRE := Lib.hid hpre
      have HB := Lib.hid hb
      have hlt' : (j : Int) < (n : Int) := by omega
      have hj0 : (0 : Int) ≤ (j : Int) := by omega
      have hone := fun W => anyInvalid_one (cs.getD j C0) W
      have HAT := Lib.hid (fun h => firstBad_at (cs := cs) (j := j) (by rw [HL.out]; exact hlt) hpre h)
      clear hcells hpre hb hR
      generalize hee : cs.getD j C0 = e at *
      have HEE := Lib.hid hee
      clear hee
      cases hok : cpOk e
      all_goals
        rw [hok] at hone
        have HOK := Lib.hid hok
        clear hok
        go_wp2_with fail
        refine (hone _).mono ?_
        rintro r w1 ⟨rfl, hb1⟩
        have HB1 := Lib.hid (HB.out.trans (hb1.mono HB.out.size))
        clear hb1 hone a0 a1 a2 a3
        go_wp2_with fail
      · go_ret
        exact ⟨ret_int (HAT.out HOK.out).symm, HB1.out⟩
      · go_roundw
        case rel =>
          refine ⟨j + 1, by omega, by go_num, fun t ht => ?_, HB1.out⟩
          by_cases e : t = j
          · subst e
            rw [HEE.out]
            exact HOK.out
          · exact HPRE.out t (by omega)
        case measure => simp [intOf]; omega
    · have hge : ¬ (j : Int) < (n : Int) := by omega
      have hno := firstBad_none (cs := cs) (fun i hi => hpre i (by have := HL.out; omega))
      have HB := Lib.hid hb
      have HNO := Lib.hid hno
      clear hb hpre hno
      go_wp2_with fail
      go_ret
      exact ⟨ret_int HNO.out.symm, HB.out⟩

set_option maxHeartbeats 1000000 in
theorem impl_anyInvalid (A : Option Addr) (n c : Nat) (cs : List Cp) (w : World) (h : CapRd w A n cs) (hn : n ≤ 2000000) :
    Calls Try.prog 48 #[.slice A n c] w fun e w' => e = .returned (.bool (!cs.all cpOk)) ∧ Below w.heap.size w w' := by
  have hc : Calls Try.prog 72 #[.slice A n c, .func (.func 73) #[] #[]] w fun e w' => e = .returned (.bool (!cs.all cpOk)) ∧ Below w.heap.size w w' := by
    have hi := indexFunc_caps A n c cs w h hn
    have hs := firstBad_sign cs
    clear h
    generalize firstBad cs = x at *
    have HS := Lib.hid hs
    clear hs
    go_enter Try.func72, Try.ntmps72
    go_wp2_with fail
    refine hi.mono ?_
    rintro e w1 ⟨rfl, hb1⟩
    have HB := Lib.hid hb1
    clear hb1 hi
    go_wp2_with fail
    go_ret
    exact ⟨ret_bool HS.out, HB.out⟩
  clear h
  go_enter Try.func48, Try.ntmps48
  go_wp2_with fail
  refine hc.mono ?_
  rintro e w1 ⟨rfl, hb1⟩
  have HB := Lib.hid hb1
  clear hb1 hc
  go_wp2_with fail
  go_ret
  exact ⟨rfl, HB.out⟩

end Go.Proofs.Ytdafogfpbpjmdaa
