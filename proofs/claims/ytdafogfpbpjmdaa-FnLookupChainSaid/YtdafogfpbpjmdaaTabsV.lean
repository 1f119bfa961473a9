/- TablesValid of the reference and of the program. No condition beyond those written. -/
import Derived.Test.YtdafogfpbpjmdaaTabX
import Derived.Test.YtdafogfpbpjmdaaTabE
namespace Go.Proofs.Ytdafogfpbpjmdaa
open Go.RowKit
set_option linter.unusedVariables false

theorem tabs_no {ts : List Tab} {j : Nat} (hj : j < ts.length) (h : tabOk (ts.getD j T0) = false) : tabsOk ts = false := by
  cases hc : tabsOk ts
  · rfl
  · have := (tabsOk_iff.1 hc).1 j hj
    rw [h] at this
    cases this
theorem tabs_end {ts : List Tab} {n : Nat} (hl : ts.length = n) (h : ∀ i, i < n → tabOk (ts.getD i T0) = true) : tabsOk ts = decide ((n : Int) ≤ 10) := by
  subst hl
  unfold tabsOk
  have : ts.all tabOk = true := List.all_eq_true.2 fun x hx => by
    obtain ⟨i, hi, rfl⟩ := List.getElem_of_mem hx
    have := h i hi
    rwa [show ts.getD i T0 = ts[i] by simp [List.getD, hi]] at this
  rw [this, Bool.true_and]
theorem tabs_big {ts : List Tab} {n : Nat} (hl : ts.length = n) (h : ¬ (n : Int) ≤ 10) : tabsOk ts = false := by
  subst hl
  simp [tabsOk, h]

set_option maxHeartbeats 4000000 in
theorem spec_TablesValid (A : Option Addr) (n c : Nat) (ts : List Tab) (w : World) (h : TabRd w A n ts) (hn : n ≤ 2000000) (hs : SmallT ts) :
    Calls Try.prog 21 #[.slice A n c] w fun e w' => e = .returned (.bool (tabsOk ts)) ∧ Below w.heap.size w w' := by
  have HL := Lib.hid h.1
  have H := Lib.hid h
  have HSM := Lib.hid hs
  clear h hs
  go_enter Try.func21, Try.ntmps21
  go_wp2_with fail
  go_loopw [3] (fun i wr => ∃ j : Nat, j ≤ n ∧ i = .int .i64 j ∧ (∀ t, t < j → tabOk (ts.getD t T0) = true) ∧ Below w.heap.size w wr) (fun i _ => n - (intOf i).toNat)
  case atStart => exact ⟨0, Nat.zero_le _, rfl, fun t ht => absurd ht (by omega), Below.refl _ _⟩
  case round =>
    obtain ⟨j, hj, rfl, hpre, hb⟩ := hrel
    by_cases hlt : j < n
    · have hR := H.out.below hb
      obtain ⟨g, o, rfl, hgl, hcells⟩ := hR.2 (by omega)
      obtain ⟨S, cS, t0, t1, t2, t3, hnc, hcm, hcap⟩ := hcells j hlt
      have hv := spec_TableValid (ts.getD j T0).bits (ts.getD j T0).guard (ts.getD j T0).gbits S (ts.getD j T0).slots.length cS (ts.getD j T0).slots wr hcap (HSM.out j)
      have HPRE := Lib.hid hpre
      have HB := Lib.hid hb
      have HNO := Lib.hid (fun h => tabs_no (ts := ts) (j := j) (by rw [HL.out]; exact hlt) h)
      have hlt' : (j : Int) < (n : Int) := by omega
      have hj0 : (0 : Int) ≤ (j : Int) := by omega
      clear hcells hpre hb hR hcap hnc hcm
      change Calls _ _ _ _ (fun e w' => e = .returned (.bool (tabOk (ts.getD j T0))) ∧ _) at hv
      cases hok : tabOk (ts.getD j T0)
      all_goals
        rw [hok] at hv
        have HOK := Lib.hid hok
        clear hok
        generalize (ts.getD j T0).slots.length = q at *
        generalize (ts.getD j T0).bits = x0 at *
        generalize (ts.getD j T0).guard = x1 at *
        generalize (ts.getD j T0).gbits = x2 at *
        go_wp2_with fail
        refine hv.mono ?_
        rintro r w1 ⟨rfl, hb1⟩
        have HB1 := Lib.hid (HB.out.trans (hb1.mono HB.out.size))
        clear hb1 hv t0 t1 t2 t3
        go_wp2_with fail
      · go_ret
        exact ⟨ret_bool (HNO.out HOK.out).symm, HB1.out⟩
      · go_roundw
        case rel =>
          refine ⟨j + 1, by omega, by go_num, fun t ht => ?_, HB1.out⟩
          by_cases e : t = j
          · subst e
            exact HOK.out
          · exact HPRE.out t (by omega)
        case measure => simp [intOf]; omega
    · have hge : ¬ (j : Int) < (n : Int) := by omega
      have hend := tabs_end HL.out (fun i hi => hpre i (by omega))
      have HB := Lib.hid hb
      have HE := Lib.hid hend
      clear hb hpre hend
      go_wp2_with fail
      go_ret
      exact ⟨ret_bool HE.out.symm, HB.out⟩

set_option maxHeartbeats 1000000 in
theorem badTable_one (bits guard gbits : Int) (S : Option Addr) (n c : Nat) (cs : List Cp) (w : World) (h : CapRd w S n cs) (hn : n ≤ 2000000) :
    Calls Try.prog 51 #[.agg #[.int .i64 bits, .int .i64 guard, .int .i64 gbits, .slice S n c]] w fun e w' => e = .returned (.bool (!tabOk ⟨bits, guard, gbits, cs⟩)) ∧ Below w.heap.size w w' := by
  have hv := impl_TableValid bits guard gbits S n c cs (w.alloc (.cells #[.int .i64 bits, .int .i64 guard, .int .i64 gbits, .slice S n c] 29)) (h.below (below_al (Below.refl _ _) _)) hn
  clear h
  generalize tabOk ⟨bits, guard, gbits, cs⟩ = t at *
  go_enter Try.func51, Try.ntmps51
  go_wp2_with fail
  refine hv.mono ?_
  rintro e w1 ⟨rfl, hb1⟩
  have HB := Lib.hid (below_next (below_al (Below.refl _ w) _) hb1)
  clear hb1 hv
  go_wp2_with fail
  go_ret
  exact ⟨rfl, HB.out⟩

def firstBadT (ts : List Tab) : Int := match ts.findIdx? (fun t => !tabOk t) with | some i => i | none => -1
theorem firstBadT_sign (ts : List Tab) : decide (0 ≤ firstBadT ts) = !ts.all tabOk := by
  unfold firstBadT
  cases h : ts.findIdx? (fun c => !tabOk c) with
  | none =>
    have := List.findIdx?_eq_none_iff.1 h
    have h2 : ts.all tabOk = true := List.all_eq_true.2 fun x hx => by simpa using this x hx
    rw [h2]
    rfl
  | some i =>
    obtain ⟨hi, hb, -⟩ := List.findIdx?_eq_some_iff_getElem.1 h
    have h2 : ts.all tabOk = false := by
      cases hc : ts.all tabOk
      · rfl
      · have := List.all_eq_true.1 hc _ (List.getElem_mem hi)
        rw [this] at hb
        cases hb
    rw [h2]
    simp
theorem firstBadT_at {ts : List Tab} {j : Nat} (hj : j < ts.length) (hpre : ∀ i, i < j → tabOk (ts.getD i T0) = true) (hb : tabOk (ts.getD j T0) = false) : firstBadT ts = j := by
  have h : ts.findIdx? (fun c => !tabOk c) = some j := List.findIdx?_eq_some_iff_getElem.2 ⟨hj, by
    have e : ts.getD j T0 = ts[j] := by simp [List.getD, hj]
    rw [e] at hb
    simp [hb], fun i hi => by
    have := hpre i hi
    rw [show ts.getD i T0 = ts[i] by simp [List.getD, show i < ts.length by omega]] at this
    simp [this]⟩
  unfold firstBadT
  rw [h]
theorem firstBadT_none {ts : List Tab} (hpre : ∀ i, i < ts.length → tabOk (ts.getD i T0) = true) : firstBadT ts = -1 := by
  have h : ts.findIdx? (fun c => !tabOk c) = none := List.findIdx?_eq_none_iff.2 fun x hx => by
    obtain ⟨i, hi, rfl⟩ := List.getElem_of_mem hx
    have := hpre i hi
    rw [show ts.getD i T0 = ts[i] by simp [List.getD, hi]] at this
    simp [this]
  unfold firstBadT
  rw [h]

set_option maxHeartbeats 4000000 in
theorem indexFunc_tabs (A : Option Addr) (n c : Nat) (ts : List Tab) (w : World) (h : TabRd w A n ts) (hn : n ≤ 2000000) (hs : SmallT ts) :
    Calls Try.prog 74 #[.slice A n c, .func (.func 51) #[] #[]] w fun e w' => e = .returned (.int .i64 (firstBadT ts)) ∧ Below w.heap.size w w' := by
  have HL := Lib.hid h.1
  have H := Lib.hid h
  have HSM := Lib.hid hs
  clear h hs
  go_enter Try.func74, Try.ntmps74
  go_wp2_with fail
  go_loopw [8] (fun i wr => ∃ j : Nat, j ≤ n ∧ i = .int .i64 j ∧ (∀ t, t < j → tabOk (ts.getD t T0) = true) ∧ Below w.heap.size w wr) (fun i _ => n - (intOf i).toNat)
  case atStart => exact ⟨0, Nat.zero_le _, rfl, fun t ht => absurd ht (by omega), Below.refl _ _⟩
  case round =>
    obtain ⟨j, hj, rfl, hpre, hb⟩ := hrel
    by_cases hlt : j < n
    · have hR := H.out.below hb
      obtain ⟨g, o, rfl, hgl, hcells⟩ := hR.2 (by omega)
      obtain ⟨S, cS, t0, t1, t2, t3, hnc, hcm, hcap⟩ := hcells j hlt
      have hv := badTable_one (ts.getD j T0).bits (ts.getD j T0).guard (ts.getD j T0).gbits S (ts.getD j T0).slots.length cS (ts.getD j T0).slots wr hcap (HSM.out j)
      have HPRE := Lib.hid hpre
      have HB := Lib.hid hb
      have HAT := Lib.hid (fun h => firstBadT_at (ts := ts) (j := j) (by rw [HL.out]; exact hlt) hpre h)
      have hlt' : (j : Int) < (n : Int) := by omega
      have hj0 : (0 : Int) ≤ (j : Int) := by omega
      clear hcells hpre hb hR hcap hnc hcm
      change Calls _ _ _ _ (fun e w' => e = .returned (.bool (!tabOk (ts.getD j T0))) ∧ _) at hv
      cases hok : tabOk (ts.getD j T0)
      all_goals
        rw [hok] at hv
        have HOK := Lib.hid hok
        clear hok
        generalize (ts.getD j T0).slots.length = q at *
        generalize (ts.getD j T0).bits = x0 at *
        generalize (ts.getD j T0).guard = x1 at *
        generalize (ts.getD j T0).gbits = x2 at *
        go_wp2_with fail
        refine hv.mono ?_
        rintro r w1 ⟨rfl, hb1⟩
        have HB1 := Lib.hid (HB.out.trans (hb1.mono HB.out.size))
        clear hb1 hv t0 t1 t2 t3
        go_wp2_with fail
      · go_ret
        exact ⟨ret_int (HAT.out HOK.out).symm, HB1.out⟩
      · go_roundw
        case rel =>
          refine ⟨j + 1, by omega, by go_num, fun t ht => ?_, HB1.out⟩
          by_cases e : t = j
          · subst e
            exact HOK.out
          · exact HPRE.out t (by omega)
        case measure => simp [intOf]; omega
    · have hge : ¬ (j : Int) < (n : Int) := by omega
      have hno := firstBadT_none (ts := ts) (fun i hi => hpre i (by have := HL.out; omega))
      have HB := Lib.hid hb
      have HNO := Lib.hid hno
      clear hb hpre hno
      go_wp2_with fail
      go_ret
      exact ⟨ret_int HNO.out.symm, HB.out⟩

set_option maxHeartbeats 2000000 in
theorem impl_TablesValid (A : Option Addr) (n c : Nat) (ts : List Tab) (w : World) (h : TabRd w A n ts) (hn : n ≤ 2000000) (hs : SmallT ts) :
    Calls Try.prog 23 #[.slice A n c] w fun e w' => e = .returned (.bool (tabsOk ts)) ∧ Below w.heap.size w w' := by
  have hl := h.1
  have hc : Calls Try.prog 50 #[.slice A n c, .func (.func 51) #[] #[]] w fun e w' => e = .returned (.bool (!ts.all tabOk)) ∧ Below w.heap.size w w' := by
    have hi := indexFunc_tabs A n c ts w h hn hs
    have hsg := firstBadT_sign ts
    clear h hs hl
    generalize firstBadT ts = x at *
    have HS := Lib.hid hsg
    clear hsg
    go_enter Try.func50, Try.ntmps50
    go_wp2_with fail
    refine hi.mono ?_
    rintro e w1 ⟨rfl, hb1⟩
    have HB := Lib.hid hb1
    clear hb1 hi
    go_wp2_with fail
    go_ret
    exact ⟨ret_bool HS.out, HB.out⟩
  have HE : Hid (tabsOk ts = (ts.all tabOk && decide ((n : Int) ≤ 10))) := by show _ = _; rw [← hl]; rfl
  have HBIG := Lib.hid (fun h => tabs_big hl h)
  clear h hs hl
  generalize ts.all tabOk = t at *
  by_cases h10 : (n : Int) ≤ 10
  · go_enter Try.func23, Try.ntmps23
    go_wp2_with fail
    refine hc.mono ?_
    rintro e w1 ⟨rfl, hb1⟩
    have HB := Lib.hid hb1
    clear hb1 hc
    go_wp2_with fail
    go_ret
    exact ⟨ret_bool (by rw [HE.out, decide_eq_true h10]; simp), HB.out⟩
  · have h10b : decide ((n : Int) ≤ 10) = false := decide_eq_false h10
    go_enter Try.func23, Try.ntmps23
    go_wp2_with fail
    go_ret
    exact ⟨ret_bool (HBIG.out h10).symm, Below.refl _ _⟩

end Go.Proofs.Ytdafogfpbpjmdaa
