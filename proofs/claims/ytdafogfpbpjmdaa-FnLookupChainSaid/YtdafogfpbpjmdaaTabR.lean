/- slotted; ReadSlot of the reference and of the program. No condition beyond those written. -/
import Derived.Test.YtdafogfpbpjmdaaTabsV
import Derived.Test.YtdafogfpbpjmdaaTabT
namespace Go.Proofs.Ytdafogfpbpjmdaa
open Go.RowKit
set_option linter.unusedVariables false

theorem laws_toTableR (A : Option Addr) (n c : Nat) (ts : List Tab) (w : World) (h : TabRd w A n ts) (hn : n ≤ 2000000) (hs : SmallT ts) :
    Calls Try.prog 22 #[.slice A n c] w fun e w' => (∃ (A' : Option Addr) (c' : Nat), e = .returned (.slice A' n c') ∧ TabRd w' A' n ts) ∧ Below w.heap.size w w' := by
  refine (laws_toTableS A n c ts w h hn hs).mono ?_
  rintro e w1 ⟨⟨A', c', rs, rfl, hO, hq⟩, hb⟩
  exact ⟨⟨A', c', rfl, hq ▸ hO.rd⟩, hb⟩

theorem smallT_of {ts : List Tab} {n : Nat} (hl : ts.length = n) (h : ∀ i, i < n → (ts.getD i T0).slots.length ≤ 1048576) : SmallT ts := fun i => by
  by_cases hi : i < n
  · have := h i hi
    omega
  · rw [show ts.getD i T0 = T0 by simp [List.getD, show ts.length ≤ i by omega]]
    decide

theorem slotB_parts (ts : List Tab) (i s : Int) {n : Nat} (hl : ts.length = n) : slotB ts i s = (tabsOk ts && inB i 0 (n - 1) && inB s 0 ((tabAt ts i).slots.length - 1)) := by rw [← hl]; rfl

set_option maxHeartbeats 4000000 in
theorem impl_slotted (A : Option Addr) (n c : Nat) (ts : List Tab) (i s : Int) (w : World) (h : TabRd w A n ts) (hn : n ≤ 2000000) (hs : SmallT ts) :
    Calls Try.prog 52 #[.slice A n c, .int .i64 i, .int .i64 s] w fun e w' => e = .returned (.bool (slotB ts i s)) ∧ Below w.heap.size w w' := by
  have HB := Lib.hid (slotB_parts ts i s h.1)
  have hw1 : IntKind.i64.wrap ((n : Int) - 1) = (n : Int) - 1 := by rw [IntKind.wrap_i64]; omega
  have HW2 : Hid (∀ m : Nat, m ≤ 2000000 → IntKind.i64.wrap ((m : Int) - 1) = (m : Int) - 1) := fun m hm => by rw [IntKind.wrap_i64]; omega
  have hv := impl_TablesValid A n c ts w h hn hs
  have H := Lib.hid h
  have HS := Lib.hid hs
  clear h hs
  cases hd : tabsOk ts
  · rw [hd] at hv
    have HV : Hid (slotB ts i s = false) := by show _ = _; rw [HB.out, hd]; rfl
    clear HB
    go_enter Try.func52, Try.ntmps52
    go_wp2_with fail
    refine hv.mono ?_
    rintro e w1 ⟨rfl, hb1⟩
    have HB1 := Lib.hid hb1

    clear hb1 hv
    go_wp2_with (first | (go_at_call 47; refine (impl_in _ _ _ _).mono ?_; rintro e w' ⟨rfl, rfl⟩))
    go_ret
    exact ⟨ret_bool HV.out.symm, HB1.out⟩
  · rw [hd] at hv
    cases hi : inB i 0 (n - 1)
    · have HV : Hid (slotB ts i s = false) := by show _ = _; rw [HB.out, hd, hi]; rfl
      clear HB
      go_enter Try.func52, Try.ntmps52
      go_wp2_with fail
      refine hv.mono ?_
      rintro e w1 ⟨rfl, hb1⟩
      have HB1 := Lib.hid hb1

      clear hb1 hv
      go_wp2_with (first | (go_at_call 47; refine (impl_in _ _ _ _).mono ?_; rintro e w' ⟨rfl, rfl⟩))
      go_ret
      exact ⟨ret_bool HV.out.symm, HB1.out⟩
    · obtain ⟨m0, m1⟩ := inB_iff.1 hi
      obtain ⟨t, rfl⟩ := Int.eq_ofNat_of_zero_le m0
      have ht : t < n := by omega
      have ht' : (t : Int) < (n : Int) := by omega
      rw [tabAt_nat] at HB
      have hsm := HS.out t
      have hw2 := HW2.out _ hsm
      have HSM := Lib.hid hsm
      have hcell : ∀ W, Below w.heap.size w W → ∃ (g o : Nat) (S : Option Addr) (cS : Nat), A = some ⟨g, o, none⟩ ∧ W.cell? ⟨g, o + t * 4 + 3, none⟩ = some (.slice S (ts.getD t T0).slots.length cS) ∧ CapRd W S (ts.getD t T0).slots.length (ts.getD t T0).slots := fun W hW => by
        obtain ⟨g, o, hA, -, hc⟩ := (H.out.below hW).2 (by omega)
        obtain ⟨S, cS, t0, t1, t2, t3, -, -, hcap⟩ := hc t ht
        exact ⟨g, o, S, cS, hA, t3, hcap⟩
      clear m1 hsm
      generalize hq : (ts.getD t T0).slots.length = q at *
      have HQ := Lib.hid hq
      clear hq
      cases hz : inB s 0 (q - 1)
      · have HV : Hid (slotB ts t s = false) := by show _ = _; rw [HB.out, hd, hi, hz]; rfl
        clear HB
        go_enter Try.func52, Try.ntmps52
        go_wp2_with fail
        refine hv.mono ?_
        rintro e w1 ⟨rfl, hb1⟩
        have HB1 := Lib.hid hb1
        obtain ⟨g, o, S, cS, rfl, t3, hcap⟩ := hcell _ hb1
        clear hcap hcell
        clear hb1 hv
        go_wp2_with (first | (go_at_call 47; refine (impl_in _ _ _ _).mono ?_; rintro e w' ⟨rfl, rfl⟩))
        go_ret
        exact ⟨ret_bool HV.out.symm, HB1.out⟩
      · have HV : Hid (slotB ts t s = true) := by show _ = _; rw [HB.out, hd, hi, hz]; rfl
        clear HB
        go_enter Try.func52, Try.ntmps52
        go_wp2_with fail
        refine hv.mono ?_
        rintro e w1 ⟨rfl, hb1⟩
        have HB1 := Lib.hid hb1
        obtain ⟨g, o, S, cS, rfl, t3, hcap⟩ := hcell _ hb1
        clear hcap hcell
        clear hb1 hv
        go_wp2_with (first | (go_at_call 47; refine (impl_in _ _ _ _).mono ?_; rintro e w' ⟨rfl, rfl⟩))
        go_ret
        exact ⟨ret_bool HV.out.symm, HB1.out⟩

set_option maxHeartbeats 4000000 in
theorem spec_ReadSlot (A : Option Addr) (n c : Nat) (ts : List Tab) (i s : Int) (w : World) (h : TabRd w A n ts) (hn : n ≤ 2000000) (hs : SmallT ts) :
    Calls Try.prog 25 #[.slice A n c, .int .i64 i, .int .i64 s] w fun e w' => e = .returned (.agg #[.int .i64 (readC ts i s).k, .int .i64 (readC ts i s).o, .int .i64 (readC ts i s).r, .int .i64 (readC ts i s).b]) ∧ Below w.heap.size w w' := by
  have HB := Lib.hid (slotB_parts ts i s h.1)
  have hw1 : IntKind.i64.wrap ((n : Int) - 1) = (n : Int) - 1 := by rw [IntKind.wrap_i64]; omega
  have HW2 : Hid (∀ m : Nat, m ≤ 2000000 → IntKind.i64.wrap ((m : Int) - 1) = (m : Int) - 1) := fun m hm => by rw [IntKind.wrap_i64]; omega
  have hv := spec_TablesValid A n c ts _ (h.below (below_al (Below.refl _ w) (.cells #[.int .i64 0, .int .i64 0, .int .i64 0, .int .i64 0] 41))) hn hs
  have H := Lib.hid h
  have HS := Lib.hid hs
  clear h hs
  cases hd : tabsOk ts
  · rw [hd] at hv
    have HV : Hid (slotB ts i s = false) := by show _ = _; rw [HB.out, hd]; rfl
    clear HB
    go_enter Try.func25, Try.ntmps25
    go_wp2_with fail
    refine hv.mono ?_
    rintro e w1 ⟨rfl, hb1⟩
    have HB1 := Lib.hid (below_next (below_al (Below.refl _ w) _) hb1)
    have hZ := (CAt.new w 41 [.int .i64 0, .int .i64 0, .int .i64 0, .int .i64 0]).below hb1
    have fZ := hZ.free
    obtain ⟨z0, z1, z2, z3⟩ := hZ.cells4

    clear hb1 hv hZ
    go_wp2_with (first | (go_at_call 44; refine (spec_in _ _ _ _).mono ?_; rintro e w' ⟨rfl, rfl⟩))
    have hr : readC ts i s = C0 := by unfold readC; rw [HV.out]; rfl
    rw [hr]
    refine bodyPost_ret (v := .agg #[.int .i64 0, .int .i64 0, .int .i64 0, .int .i64 0]) (by simp [results, Try.results25, go_sem, z0, z1, z2, z3]) rfl ⟨rfl, ?_⟩
    have hB1 := HB1.out
    repeat (with_reducible first | exact hB1 | refine below_set ?_ (by first | (simp; done) | (simp; omega)) _)
  · rw [hd] at hv
    cases hi : inB i 0 (n - 1)
    · have HV : Hid (slotB ts i s = false) := by show _ = _; rw [HB.out, hd, hi]; rfl
      clear HB
      go_enter Try.func25, Try.ntmps25
      go_wp2_with fail
      refine hv.mono ?_
      rintro e w1 ⟨rfl, hb1⟩
      have HB1 := Lib.hid (below_next (below_al (Below.refl _ w) _) hb1)
      have hZ := (CAt.new w 41 [.int .i64 0, .int .i64 0, .int .i64 0, .int .i64 0]).below hb1
      have fZ := hZ.free
      obtain ⟨z0, z1, z2, z3⟩ := hZ.cells4

      clear hb1 hv hZ
      go_wp2_with (first | (go_at_call 44; refine (spec_in _ _ _ _).mono ?_; rintro e w' ⟨rfl, rfl⟩))
      have hr : readC ts i s = C0 := by unfold readC; rw [HV.out]; rfl
      rw [hr]
      refine bodyPost_ret (v := .agg #[.int .i64 0, .int .i64 0, .int .i64 0, .int .i64 0]) (by simp [results, Try.results25, go_sem, z0, z1, z2, z3]) rfl ⟨rfl, ?_⟩
      have hB1 := HB1.out
      repeat (with_reducible first | exact hB1 | refine below_set ?_ (by first | (simp; done) | (simp; omega)) _)
    · obtain ⟨m0, m1⟩ := inB_iff.1 hi
      obtain ⟨t, rfl⟩ := Int.eq_ofNat_of_zero_le m0
      have ht : t < n := by omega
      have ht' : (t : Int) < (n : Int) := by omega
      rw [tabAt_nat] at HB
      have hsm := HS.out t
      have hw2 := HW2.out _ hsm
      have HSM := Lib.hid hsm
      have hcell : ∀ W, Below w.heap.size w W → ∃ (g o : Nat) (S : Option Addr) (cS : Nat), A = some ⟨g, o, none⟩ ∧ W.cell? ⟨g, o + t * 4 + 3, none⟩ = some (.slice S (ts.getD t T0).slots.length cS) ∧ CapRd W S (ts.getD t T0).slots.length (ts.getD t T0).slots := fun W hW => by
        obtain ⟨g, o, hA, -, hc⟩ := (H.out.below hW).2 (by omega)
        obtain ⟨S, cS, t0, t1, t2, t3, -, -, hcap⟩ := hc t ht
        exact ⟨g, o, S, cS, hA, t3, hcap⟩
      clear m1 hsm
      generalize hq : (ts.getD t T0).slots.length = q at *
      have HQ := Lib.hid hq
      clear hq
      cases hz : inB s 0 (q - 1)
      · have HV : Hid (slotB ts t s = false) := by show _ = _; rw [HB.out, hd, hi, hz]; rfl
        clear HB
        go_enter Try.func25, Try.ntmps25
        go_wp2_with fail
        refine hv.mono ?_
        rintro e w1 ⟨rfl, hb1⟩
        have HB1 := Lib.hid (below_next (below_al (Below.refl _ w) _) hb1)
        have hZ := (CAt.new w 41 [.int .i64 0, .int .i64 0, .int .i64 0, .int .i64 0]).below hb1
        have fZ := hZ.free
        obtain ⟨z0, z1, z2, z3⟩ := hZ.cells4
        obtain ⟨g, o, S, cS, rfl, t3, hcap⟩ := hcell _ (below_next (below_al (Below.refl _ w) _) hb1)
        clear hcap hcell
        clear hb1 hv hZ
        go_wp2_with (first | (go_at_call 44; refine (spec_in _ _ _ _).mono ?_; rintro e w' ⟨rfl, rfl⟩))
        have hr : readC ts t s = C0 := by unfold readC; rw [HV.out]; rfl
        rw [hr]
        refine bodyPost_ret (v := .agg #[.int .i64 0, .int .i64 0, .int .i64 0, .int .i64 0]) (by simp [results, Try.results25, go_sem, z0, z1, z2, z3]) rfl ⟨rfl, ?_⟩
        have hB1 := HB1.out
        repeat (with_reducible first | exact hB1 | refine below_set ?_ (by first | (simp; done) | (simp; omega)) _)
      · have HV : Hid (slotB ts t s = true) := by show _ = _; rw [HB.out, hd, hi, hz]; rfl
        clear HB
        obtain ⟨s0, s1⟩ := inB_iff.1 hz
        obtain ⟨k, rfl⟩ := Int.eq_ofNat_of_zero_le s0
        have hk : k < q := by omega
        have hk' : (k : Int) < (q : Int) := by omega
        go_enter Try.func25, Try.ntmps25
        go_wp2_with fail
        refine hv.mono ?_
        rintro e w1 ⟨rfl, hb1⟩
        have HB1 := Lib.hid (below_next (below_al (Below.refl _ w) _) hb1)
        have hZ := (CAt.new w 41 [.int .i64 0, .int .i64 0, .int .i64 0, .int .i64 0]).below hb1
        have fZ := hZ.free
        obtain ⟨z0, z1, z2, z3⟩ := hZ.cells4
        obtain ⟨g, o, S, cS, rfl, t3, hcap⟩ := hcell _ (below_next (below_al (Below.refl _ w) _) hb1)
        clear hcell
        clear hb1 hv hZ
        obtain ⟨gs, os, rfl, -, hcc⟩ := hcap.2 (by omega)
        obtain ⟨q0, q1, q2, q3⟩ := hcc k hk
        obtain ⟨x, y, u, v, hx⟩ : ∃ x y u v, (ts.getD t T0).slots.getD k C0 = ⟨x, y, u, v⟩ := ⟨_, _, _, _, rfl⟩
        have hr : readC ts t k = ⟨x, y, u, v⟩ := by unfold readC; rw [HV.out, tabAt_nat, capAt_nat, hx]; rfl
        have HR := Lib.hid hr
        rw [hx] at q0 q1 q2 q3
        simp only at q0 q1 q2 q3
        clear hx hr hcc hcap
        go_wp2_with (first | (go_at_call 44; refine (spec_in _ _ _ _).mono ?_; rintro e w' ⟨rfl, rfl⟩))
        rw [HR.out]
        refine bodyPost_ret (v := .agg #[.int .i64 x, .int .i64 y, .int .i64 u, .int .i64 v]) (by simp [results, Try.results25, go_sem, z0, z1, z2, z3]) rfl ⟨rfl, ?_⟩
        have hB1 := HB1.out
        repeat (with_reducible first | exact hB1 | refine below_set ?_ (by first | (simp; done) | (simp; omega)) _)

set_option maxHeartbeats 4000000 in
theorem impl_ReadSlot (A : Option Addr) (n c : Nat) (ts : List Tab) (i s : Int) (w : World) (h : TabRd w A n ts) (hn : n ≤ 2000000) (hs : SmallT ts) :
    Calls Try.prog 26 #[.slice A n c, .int .i64 i, .int .i64 s] w fun e w' => e = .returned (.agg #[.int .i64 (readC ts i s).k, .int .i64 (readC ts i s).o, .int .i64 (readC ts i s).r, .int .i64 (readC ts i s).b]) ∧ Below w.heap.size w w' := by
  have hv := impl_slotted A n c ts i s _ (h.below (below_al (Below.refl _ w) (.cells #[.int .i64 0, .int .i64 0, .int .i64 0, .int .i64 0] 41))) hn hs
  have H := Lib.hid h
  clear h
  cases hz : slotB ts i s
  · rw [hz] at hv
    have hr : readC ts i s = C0 := by unfold readC; rw [hz]; rfl
    have HR := Lib.hid hr
    clear hr hz
    go_enter Try.func26, Try.ntmps26
    go_wp2_with fail
    refine hv.mono ?_
    rintro e w1 ⟨rfl, hb1⟩
    have hB1 := below_next (below_al (Below.refl _ w) _) hb1
    have hZ := (CAt.new w 41 [.int .i64 0, .int .i64 0, .int .i64 0, .int .i64 0]).below hb1
    have fZ := hZ.free
    obtain ⟨z0, z1, z2, z3⟩ := hZ.cells4
    clear hb1 hv hZ
    go_wp2_with fail
    rw [HR.out]
    refine bodyPost_ret (v := .agg #[.int .i64 0, .int .i64 0, .int .i64 0, .int .i64 0]) (by simp [results, Try.results26, go_sem, z0, z1, z2, z3]) rfl ⟨rfl, ?_⟩
    repeat (with_reducible first | exact hB1 | refine below_set ?_ (by first | (simp; done) | (simp; omega)) _)
  · rw [hz] at hv
    obtain ⟨-, ⟨i0, i1⟩, ⟨s0, s1⟩⟩ := slotB_iff.1 hz
    obtain ⟨t, rfl⟩ := Int.eq_ofNat_of_zero_le i0
    obtain ⟨k, rfl⟩ := Int.eq_ofNat_of_zero_le s0
    have hl := H.out.1
    have ht : t < n := by omega
    have ht' : (t : Int) < (n : Int) := by omega
    rw [tabAt_nat] at s1
    have hk : k < (ts.getD t T0).slots.length := by omega
    obtain ⟨x, y, u, v, hx⟩ : ∃ x y u v, (ts.getD t T0).slots.getD k C0 = ⟨x, y, u, v⟩ := ⟨_, _, _, _, rfl⟩
    have hr : readC ts t k = ⟨x, y, u, v⟩ := by unfold readC; rw [hz, tabAt_nat, capAt_nat, hx]; rfl
    have HR := Lib.hid hr
    clear hr hz hl i1
    go_enter Try.func26, Try.ntmps26
    go_wp2_with fail
    refine hv.mono ?_
    rintro e w1 ⟨rfl, hb1⟩
    have hB1 := below_next (below_al (Below.refl _ w) _) hb1
    have hZ := (CAt.new w 41 [.int .i64 0, .int .i64 0, .int .i64 0, .int .i64 0]).below hb1
    have fZ := hZ.free
    obtain ⟨z0, z1, z2, z3⟩ := hZ.cells4
    obtain ⟨g, o, rfl, -, hc⟩ := (H.out.below hB1).2 (by omega)
    obtain ⟨S, cS, t0, t1, t2, t3, -, -, hcap⟩ := hc t ht
    obtain ⟨gs, os, rfl, -, hcc⟩ := hcap.2 (by omega)
    obtain ⟨q0, q1, q2, q3⟩ := hcc k hk
    rw [hx] at q0 q1 q2 q3
    simp only at q0 q1 q2 q3
    have HB1 := Lib.hid hB1
    generalize (ts.getD t T0).slots.length = q at *
    have hk' : (k : Int) < (q : Int) := by omega
    clear hb1 hv hZ hcap hc hcc hx t0 t1 t2 hB1 s1
    go_wp2_with fail
    rw [HR.out]
    refine bodyPost_ret (v := .agg #[.int .i64 x, .int .i64 y, .int .i64 u, .int .i64 v]) (by simp [results, Try.results26, go_sem, z0, z1, z2, z3]) rfl ⟨rfl, ?_⟩
    have hB1 := HB1.out
    repeat (with_reducible first | exact hB1 | refine below_set ?_ (by first | (simp; done) | (simp; omega)) _)

end Go.Proofs.Ytdafogfpbpjmdaa
