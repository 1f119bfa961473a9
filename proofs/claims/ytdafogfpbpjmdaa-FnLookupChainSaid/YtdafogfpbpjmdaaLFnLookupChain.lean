/- The law FnLookupChain: whatever its arguments, the call returns true, and every argument reads afterwards as it read before. No condition. -/
import Derived.Test.YtdafogfpbpjmdaaLookI
import Derived.Test.YtdafogfpbpjmdaaPutJ
import Derived.Test.YtdafogfpbpjmdaaTabX
import Derived.Test.YtdafogfpbpjmdaaTabW
import Derived.Test.YtdafogfpbpjmdaaDrawTabLaws
import Derived.Test.YtdafogfpbpjmdaaTexts
import Derived.Test.YtdafogfpbpjmdaaHeld
namespace Go.Proofs.Ytdafogfpbpjmdaa
open Go.ChangeShapes Go.WideShapes Go.ChangeAt Go.RowKit
open Go.ChangeMaps (open_string shut_string)
set_option linter.unusedVariables false

theorem heldStep {u w v : World} {P : Prop} (hb : Below w.heap.size w v) (h : Below u.heap.size u w ∧ P) : Below u.heap.size u v := below_next h.1 hb

theorem small2 {s t : Tab} (hs : s.slots.length ≤ 2000000) (h : t.slots.length ≤ 2000000) : SmallT [s, t] := fun i => by
  match i with
  | 0 => exact hs
  | 1 => exact h
  | i + 2 => exact Nat.zero_le _
theorem two_tabs {W : World} {b n c n' c' : Nat} {x y z x' y' z' : Int} {S S' : Option Addr} {cs cs' : List Cp} (hC : CAt W b 29 [.int .i64 x, .int .i64 y, .int .i64 z, .slice S n c, .int .i64 x', .int .i64 y', .int .i64 z', .slice S' n' c'])
    (hR : CapRd W S n cs) (hnc : n ≤ c) (hcm : c ≤ 9223372036854775807) (hR' : CapRd W S' n' cs') (hnc' : n' ≤ c') (hcm' : c' ≤ 9223372036854775807) : TabRd W (some ⟨b, 0, none⟩) 2 [⟨x, y, z, cs⟩, ⟨x', y', z', cs'⟩] := by
  have hl := hR.1
  have hl' := hR'.1
  subst hl hl'
  refine ⟨rfl, fun _ => ⟨b, 0, rfl, hC.lt, fun i hi => ?_⟩⟩
  obtain rfl | rfl : i = 0 ∨ i = 1 := by omega
  · exact ⟨S, c, hC.cell 0, hC.cell 1, hC.cell 2, hC.cell 3, hnc, hcm, hR⟩
  · exact ⟨S', c', hC.cell 4, hC.cell 5, hC.cell 6, hC.cell 7, hnc', hcm', hR'⟩
theorem put_first {a b : Tab} {k : Nat} (ha : tabOk a = true) (hb : tabOk b = true) (hk : k < a.slots.length) :
    putL [a, b] 0 k ⟨2, 1, 0, 0⟩ = [{ a with slots := a.slots.set k ⟨2, 1, 0, 0⟩ }, b] ∧ tabOk { a with slots := a.slots.set k ⟨2, 1, 0, 0⟩ } = true := by
  have hv : tabsOk [a, b] = true := tabsOk_iff.2 ⟨fun i hi => by
    match i with
    | 0 => exact ha
    | 1 => exact hb
    | i + 2 => exact absurd hi (by simp), by simp⟩
  have hat : tabAt [a, b] 0 = a := rfl
  have hs : slotB [a, b] 0 k = true := slotB_iff.2 ⟨hv, ⟨by omega, by simp⟩, by omega, by rw [hat]; omega⟩
  have hc : cpOk ⟨2, 1, 0, 0⟩ = true := rfl
  have hp : putL [a, b] 0 k ⟨2, 1, 0, 0⟩ = [{ a with slots := a.slots.set k ⟨2, 1, 0, 0⟩ }, b] := by
    unfold putL
    rw [hs, hc]
    rfl
  have ht := tabsOk_put (i := 0) (s := k) (c := ⟨2, 1, 0, 0⟩) hv (by simp) hk hc
  exact ⟨hp, (tabsOk_iff.1 ht).1 0 (by simp [putT_len])⟩

set_option maxRecDepth 100000 in
set_option maxHeartbeats 16000000 in
theorem walk_FnLookupChain (v0 v1 : Value) (w : World) (w0 : BytesIn w v0) (w1 : BytesIn w v1) :
    Calls Try.prog 12 #[v0, v1] w fun e w' => e = .returned (.bool true) ∧ Below w.heap.size w w' := by
  have hd := drawTableValid v0 w w0
  have hd2 := fun W (hb : Below w.heap.size w W) => drawTableValid v1 W (w1.below hb)
  obtain ⟨Ac, nc, capc, bs, rfl, hnc, hcc, _⟩ := w0
  obtain ⟨Ad, nd, capd, bs', rfl, hnd, hcd, _⟩ := w1
  by_cases h20 : (1048576 : Int) < (nc : Int)
  · go_enter Try.func12, Try.ntmps12
    go_wp2_with fail
    go_ret
    exact ⟨rfl, Below.refl _ _⟩
  by_cases h21 : (1048576 : Int) < (nd : Int)
  · go_enter Try.func12, Try.ntmps12
    go_wp2_with fail
    go_ret
    exact ⟨rfl, Below.refl _ _⟩
  · go_enter Try.func12, Try.ntmps12
    go_wp2_with fail
    refine hd.mono ?_
    rintro e w1 ⟨x, y, z, S, n, c, cs, rfl, hR, hn8, hnc, hcm, hb1⟩
    have hX := CAt.new w1 29 [.int .i64 x, .int .i64 y, .int .i64 z, .slice S n c]
    have hba := below_al (Below.refl _ w1) (.cells #[.int .i64 x, .int .i64 y, .int .i64 z, .slice S n c] 29)
    have hR1 := hR.below hba
    have hB1 := below_next hb1 hba
    clear hR hb1 hba hd
    go_wp2_with fail
    refine (hd2 _ hB1).mono ?_
    rintro e w2 ⟨x', y', z', S', n', c', cs', rfl, hR', hn8', hnc', hcm', hb2⟩
    have hY := CAt.new w2 29 [.int .i64 x', .int .i64 y', .int .i64 z', .slice S' n' c']
    have hba := below_al (Below.refl _ w2) (.cells #[.int .i64 x', .int .i64 y', .int .i64 z', .slice S' n' c'] 29)
    have hX2 := (hX.below hb2).below hba
    have hRa := (hR1.below hb2).below hba
    have hRb := hR'.below hba
    have hB2 := below_next (below_next hB1 hb2) hba
    have hIV := fun W (h : CapRd W S n cs) => impl_TableValid x y z S n c cs W h (by omega)
    have hSV := fun W (h : CapRd W S n cs) => spec_TableValid x y z S n c cs W h (by omega)
    have hSW := fun W (h : CapRd W S' n' cs') => spec_TableValid x' y' z' S' n' c' cs' W h (by omega)
    obtain ⟨q, hz⟩ : ∃ q, tabOk ⟨x, y, z, cs⟩ = q := ⟨_, rfl⟩
    obtain ⟨p, hy⟩ : ∃ p, tabOk ⟨x', y', z', cs'⟩ = p := ⟨_, rfl⟩
    simp only [hz] at hIV hSV
    simp only [hy] at hSW
    have HZ := Lib.hid hz
    have HY := Lib.hid hy
    clear hz hy hX hR1 hB1 hb2 hba hR' hd2
    obtain ⟨x0, x1, x2, x3⟩ := hX2.cells4
    have fX := hX2.free
    go_wp2_with fail
    generalize w2.alloc (.cells #[.int .i64 x', .int .i64 y', .int .i64 z', .slice S' n' c'] 29) = W1 at *
    generalize w2.heap.size = D at *
    generalize w1.heap.size = C at *
    have hCl := hX2.lt
    have HSS : ∀ w', Below W1.heap.size W1 w' → Below W1.heap.size W1 w' ∧ w'.cell? ⟨C, 0, none⟩ = some (.int .i64 x) ∧ w'.cell? ⟨C, 1, none⟩ = some (.int .i64 y) ∧ w'.cell? ⟨C, 2, none⟩ = some (.int .i64 z) ∧ w'.cell? ⟨C, 3, none⟩ = some (.slice S n c) := fun w' hb =>
      ⟨hb, (hb.cell (p := ⟨C, 0, none⟩) hCl).trans x0, (hb.cell (p := ⟨C, 1, none⟩) hCl).trans x1, (hb.cell (p := ⟨C, 2, none⟩) hCl).trans x2, (hb.cell (p := ⟨C, 3, none⟩) hCl).trans x3⟩
    have HIV : ∀ w', Below W1.heap.size W1 w' → _ := fun w' hb => hIV w' (hRa.below hb)
    have HSV : ∀ w', Below W1.heap.size W1 w' → _ := fun w' hb => hSV w' (hRa.below hb)
    have HRa := Lib.hid hRa
    have HRb := Lib.hid hRb
    have HX := Lib.hid hX2
    have HYY := Lib.hid hY
    have HB2 := Lib.hid hB2
    clear hIV hSV hRa hRb x0 x1 x2 x3 fX hX2 hB2 hCl hY
    (first
      | (go_region_held3 (fun w' => Below W1.heap.size W1 w' ∧ w'.cell? ⟨C, 0, none⟩ = some (.int .i64 x) ∧ w'.cell? ⟨C, 1, none⟩ = some (.int .i64 y) ∧ w'.cell? ⟨C, 2, none⟩ = some (.int .i64 z) ∧ w'.cell? ⟨C, 3, none⟩ = some (.slice S n c))
          (first | exact HSS _ (Below.refl _ W1).drew | exact HSS _ (heldStep (by assumption) (by assumption)) | exact HSS _ (heldStep (below_al (Below.refl _ _) _) (by assumption)))
          (first
            | (go_at_call 18; refine (HIV _ (And.left (by assumption))).mono ?_; rintro e w5 ⟨rfl, hb5⟩)
            | (go_at_call 16; refine (HSV _ (And.left (by assumption))).mono ?_; rintro e w6 ⟨rfl, hb6⟩)))
      | fail)
    have hB6 : Below W1.heap.size W1 w6 := And.left (by assumption)
    have hX6 := HX.out.below hB6
    have hY6 := HYY.out.below hB6
    have hSV6 := HSV _ hB6
    have HRa6 := Lib.hid (HRa.out.below hB6)
    have HRb6 := Lib.hid (HRb.out.below hB6)
    have HB6 := Lib.hid (below_next HB2.out hB6)
    obtain ⟨W6, hW6⟩ : ∃ W, W = w6 := ⟨_, rfl⟩
    subst hW6
    obtain ⟨x0, x1, x2, x3⟩ := hX6.cells4
    have fX := hX6.free
    clear HSS HIV HSV HRa HRb HX HYY HB2 hB6
    go_wp2_with fail
    refine hSV6.mono ?_
    rintro e w7 ⟨rfl, hb7⟩
    have hX7 := hX6.below hb7
    have hY7 := hY6.below hb7
    have HRa7 := Lib.hid (HRa6.out.below hb7)
    have hRb7 := HRb6.out.below hb7
    have hB7 := below_next HB6.out hb7
    have hSW7 := hSW _ hRb7
    clear hX6 hY6 hSV6 HRa6 HRb6 HB6 hb7 x0 x1 x2 x3 fX hSW
    obtain ⟨W7, hW7⟩ : ∃ W, W = w7 := ⟨_, rfl⟩
    subst hW7
    obtain ⟨y0, y1, y2, y3⟩ := hY7.cells4
    have fY := hY7.free
    cases q
    · go_wp2_with fail
      refine (laws_alive _).mono ?_
      rintro e wz ⟨rfl, hbz⟩
      go_wp2_with fail
      go_ret
      exact ⟨rfl, below_next hB7 hbz⟩
    · go_wp2_with fail
      refine hSW7.mono ?_
      rintro e w8 ⟨rfl, hb8⟩
      have hX8 := hX7.below hb8
      have hY8 := hY7.below hb8
      have HRa8 := Lib.hid (HRa7.out.below hb8)
      have HRb8 := Lib.hid (hRb7.below hb8)
      have hB8 := below_next hB7 hb8
      clear hX7 hY7 HRa7 hRb7 hB7 hb8 hSW7 y0 y1 y2 y3 fY
      obtain ⟨W8, hW8⟩ : ∃ W, W = w8 := ⟨_, rfl⟩
      subst hW8
      obtain ⟨x0, x1, x2, x3⟩ := hX8.cells4
      have fX := hX8.free
      obtain ⟨y0, y1, y2, y3⟩ := hY8.cells4
      have fY := hY8.free
      cases p
      · go_wp2_with fail
        refine (laws_alive _).mono ?_
        rintro e wz ⟨rfl, hbz⟩
        go_wp2_with fail
        go_ret
        exact ⟨rfl, below_next hB8 hbz⟩
      · obtain ⟨⟨b0, b1⟩, ⟨g0, g1⟩, ⟨u0, u1⟩, hxl⟩ := headOk_iff.1 (tabOk_iff.1 HZ.out).1
        obtain ⟨⟨b0', b1'⟩, ⟨g0', g1'⟩, ⟨u0', u1'⟩, hxl'⟩ := headOk_iff.1 (tabOk_iff.1 HY.out).1
        simp only at b0 b1 g0 g1 u0 u1 hxl b0' b1' g0' g1' u0' u1' hxl'
        have hl := HRa8.out.1
        have hl' := HRb8.out.1
        rw [hl] at hxl
        rw [hl'] at hxl'
        have hn2 : 2 ≤ n := by have := pw_two b0; omega
        have hn2' : 2 ≤ n' := by have := pw_two b0'; omega
        have HXL := Lib.hid hxl
        have HXL' := Lib.hid hxl'
        have hnz : ¬ (n : Int) = 0 := by omega
        have hnz2 : ¬ n = 0 := by omega
        have hnz' : ¬ (n' : Int) = 0 := by omega
        have hnz2' : ¬ n' = 0 := by omega
        have hB8' := Lib.hid hB8
        clear hxl hxl' hl hl' hB8
        go_wp2_with fail
        have s0 : 0 ≤ (nd : Int) % (n : Int) := Int.emod_nonneg _ hnz
        have s1 : (nd : Int) % (n : Int) < n := Int.emod_lt_of_pos _ (by omega)
        have r0 : 0 ≤ (nc : Int) % (n' : Int) := Int.emod_nonneg _ hnz'
        have r1 : (nc : Int) % (n' : Int) < n' := Int.emod_lt_of_pos _ (by omega)
        generalize (nd : Int) % (n : Int) = s at *
        generalize (nc : Int) % (n' : Int) = r at *
        obtain ⟨k, rfl⟩ := Int.eq_ofNat_of_zero_le s0
        have hkn : k < n := by omega
        have hPF := put_first (k := k) HZ.out HY.out (by show k < cs.length; rw [HRa8.out.1]; exact hkn)
        simp only at hPF
        obtain ⟨hPL, hOk⟩ := hPF
        have hba := below_al (Below.refl _ W8) (.cells #[.int .i64 x, .int .i64 y, .int .i64 z, .slice S n c, .int .i64 x', .int .i64 y', .int .i64 z', .slice S' n' c'] 29)
        have hX8b := hX8.below hba
        have hY8b := hY8.below hba
        have hB8b := below_next hB8'.out hba
        have hT8 := two_tabs (CAt.new W8 _ [.int .i64 x, .int .i64 y, .int .i64 z, .slice S n c, .int .i64 x', .int .i64 y', .int .i64 z', .slice S' n' c']) (HRa8.out.below hba) hnc hcm (HRb8.out.below hba) hnc' hcm'
        have hP := impl_PutSlot (some ⟨W8.heap.size, 0, none⟩) 2 2 [⟨x, y, z, cs⟩, ⟨x', y', z', cs'⟩] 0 k 2 1 0 0 _ hT8 (by omega) (small2 (by show cs.length ≤ _; rw [HRa8.out.1]; omega) (by show cs'.length ≤ _; rw [HRb8.out.1]; omega))
        simp only [hPL, show ∀ a b : Tab, [a, b].length = 2 from fun _ _ => rfl] at hP
        have hcap : capAt (cs.set k ⟨2, 1, 0, 0⟩) (k : Int) = ⟨2, 1, 0, 0⟩ := by
          rw [capAt_nat, getD_set_t (by rw [HRa8.out.1]; exact hkn), if_pos rfl]
        have hLK := look_chain (s := (k : Int)) (g := r) (r := 0) (x := 0) hOk HY.out s0 (by show (k : Int) < ((cs.set k ⟨2, 1, 0, 0⟩).length : Int); rw [List.length_set, HRa8.out.1]; exact s1) r0 (by show r < (cs'.length : Int); rw [HRb8.out.1]; exact r1) hcap
        simp only at hLK
        have hsm : SmallT [⟨x, y, z, cs.set k ⟨2, 1, 0, 0⟩⟩, ⟨x', y', z', cs'⟩] := small2 (by show (cs.set k ⟨2, 1, 0, 0⟩).length ≤ _; rw [List.length_set, HRa8.out.1]; omega) (by show cs'.length ≤ _; rw [HRb8.out.1]; omega)
        have hpk := pack_bounds (g := y) (s := k) (x := z) (y := x) (by omega) (by omega) u0 u1 s0 (by rw [← HXL.out]; exact s1)
        have hpk0 := pack_bounds (g := y) (s := 0) (x := z) (y := x) (by omega) (by omega) u0 u1 (by omega) (by have := pw_pos x; omega)
        have hpl := pack_bounds (g := y') (s := r) (x := z') (y := x') (by omega) (by omega) u0' u1' r0 (by rw [← HXL'.out]; exact r1)
        have hpl0 := pack_bounds (g := y') (s := 0) (x := z') (y := x') (by omega) (by omega) u0' u1' (by omega) (by have := pw_pos x'; omega)
        have hpm := pw_max (b := z + x) (by omega)
        have hpn := pw_max (b := z' + x') (by omega)
        have hpo := pw_max (b := z + x + (z' + x')) (by omega)
        have hpq := pack_bounds (g := y * pw x + k) (s := y' * pw x' + r) (x := z + x) (y := z' + x') (by omega) (by omega) hpk.1 hpk.2 hpl.1 (by omega)
        have hpq0 := pack_bounds (g := y * pw x + k) (s := 0) (x := z + x) (y := z' + x') (by omega) (by omega) hpk.1 hpk.2 (by omega) (by have := pw_pos (z' + x'); omega)
        have hsh : y * 2 ^ x.toNat = y * pw x := rfl
        have hsh' : y' * 2 ^ x'.toNat = y' * pw x' := rfl
        have hsv : (y * pw x + k) * 2 ^ (z' + x').toNat = (y * pw x + k) * pw (z' + x') := rfl
        have hLC := fun A c W (h : TabRd W A 2 [⟨x, y, z, cs.set k ⟨2, 1, 0, 0⟩⟩, ⟨x', y', z', cs'⟩]) => impl_LookupSlot A 2 c _ 0 ((y * pw x + k) * pw (z' + x') + (y' * pw x' + r)) (z + x + z' + x') W h (by omega) hsm
        simp only [hLK, lookV_some] at hLC
        clear hLK hsm hcap hPL hOk hT8 hba hX8 hY8 hB8' u1 u1' HXL HXL' HZ HY x0 x1 x2 x3 fX y0 y1 y2 y3 fY
        generalize hV : (y * pw x + k) * pw (z' + x') = V at *
        generalize y * pw x = Y at *
        generalize y' * pw x' = Y' at *
        generalize pw (z + x) = Q1 at *
        generalize pw (z' + x') = Q2 at *
        generalize pw (z + x + (z' + x')) = Q3 at *
        have hw1 : wrap64 (y * 2 ^ x.toNat) = Y := by rw [hsh]; exact wrap_id (by omega) (by omega)
        have hw1' : IntKind.i64.wrap (y * 2 ^ x.toNat) = Y := by rw [hsh]; exact i64_id (by omega) (by omega)
        have hw2 : wrap64 (Y + k) = Y + k := wrap_id (by omega) (by omega)
        have hw2' : IntKind.i64.wrap (Y + k) = Y + k := i64_id (by omega) (by omega)
        have hw3 : wrap64 (y' * 2 ^ x'.toNat) = Y' := by rw [hsh']; exact wrap_id (by omega) (by omega)
        have hw3' : IntKind.i64.wrap (y' * 2 ^ x'.toNat) = Y' := by rw [hsh']; exact i64_id (by omega) (by omega)
        have hw4 : wrap64 (Y' + r) = Y' + r := wrap_id (by omega) (by omega)
        have hw4' : IntKind.i64.wrap (Y' + r) = Y' + r := i64_id (by omega) (by omega)
        have hw5 : wrap64 ((Y + k) * 2 ^ (z' + x').toNat) = V := by rw [hsv]; exact wrap_id (by omega) (by omega)
        have hw5' : IntKind.i64.wrap ((Y + k) * 2 ^ (z' + x').toNat) = V := by rw [hsv]; exact i64_id (by omega) (by omega)
        have hw6 : wrap64 (V + (Y' + r)) = V + (Y' + r) := wrap_id (by omega) (by omega)
        have hw6' : IntKind.i64.wrap (V + (Y' + r)) = V + (Y' + r) := i64_id (by omega) (by omega)
        have hw7 : wrap64 (z' + x') = z' + x' := wrap_id (by omega) (by omega)
        have hw7' : IntKind.i64.wrap (z' + x') = z' + x' := i64_id (by omega) (by omega)
        have hw8 : wrap64 (z + x) = z + x := wrap_id (by omega) (by omega)
        have hw8' : IntKind.i64.wrap (z + x) = z + x := i64_id (by omega) (by omega)
        have hw9 : wrap64 (z + x + z') = z + x + z' := wrap_id (by omega) (by omega)
        have hw9' : IntKind.i64.wrap (z + x + z') = z + x + z' := i64_id (by omega) (by omega)
        have hwa : wrap64 (z + x + z' + x') = z + x + z' + x' := wrap_id (by omega) (by omega)
        have hwa' : IntKind.i64.wrap (z + x + z' + x') = z + x + z' + x' := i64_id (by omega) (by omega)
        have hx0 : ¬ x < 0 := by omega
        have hx0' : ¬ x' < 0 := by omega
        have hzx : ¬ z' + x' < 0 := by omega
        clear hpk hpk0 hpl hpl0 hpm hpn hpo hpq hpq0 hsh hsh' hsv hV
        refine hP.mono ?_
        rintro e w9 ⟨⟨A9, c9, rs9, rfl, hO9, hr9⟩, hb9⟩
        have hR9 := hO9.rd
        rw [hr9] at hR9
        have hX9 := hX8b.below hb9
        have hY9 := hY8b.below hb9
        have hB9 := below_next hB8b hb9
        clear hP hO9 hr9 hb9 hX8b hY8b hB8b
        obtain ⟨W9, hW9⟩ : ∃ W, W = w9 := ⟨_, rfl⟩
        subst hW9
        obtain ⟨x0, x1, x2, x3⟩ := hX9.cells4
        have fX := hX9.free
        obtain ⟨y0, y1, y2, y3⟩ := hY9.cells4
        have fY := hY9.free
        go_wp2_with fail
        have hCl := hX9.lt
        have hDl := hY9.lt
        have HSS : ∀ w', Below W9.heap.size W9 w' → Below W9.heap.size W9 w' ∧ w'.cell? ⟨C, 0, none⟩ = some (.int .i64 x) ∧ w'.cell? ⟨C, 2, none⟩ = some (.int .i64 z) ∧ w'.cell? ⟨D, 0, none⟩ = some (.int .i64 x') ∧ w'.cell? ⟨D, 2, none⟩ = some (.int .i64 z') := fun w' hb =>
          ⟨hb, (hb.cell (p := ⟨C, 0, none⟩) hCl).trans x0, (hb.cell (p := ⟨C, 2, none⟩) hCl).trans x2, (hb.cell (p := ⟨D, 0, none⟩) hDl).trans y0, (hb.cell (p := ⟨D, 2, none⟩) hDl).trans y2⟩
        have HLC : ∀ w', Below W9.heap.size W9 w' → _ := fun w' hb => hLC A9 c9 w' (hR9.below hb)
        have HB9 := Lib.hid hB9
        clear hLC hR9 hB9 x0 x1 x2 x3 fX y0 y1 y2 y3 fY hX9 hY9 hCl hDl hw1 hw1' hw2 hw2' hw3 hw3' hw4 hw4'
        (first
          | (go_region_held3 (fun w' => Below W9.heap.size W9 w' ∧ w'.cell? ⟨C, 0, none⟩ = some (.int .i64 x) ∧ w'.cell? ⟨C, 2, none⟩ = some (.int .i64 z) ∧ w'.cell? ⟨D, 0, none⟩ = some (.int .i64 x') ∧ w'.cell? ⟨D, 2, none⟩ = some (.int .i64 z'))
              (first | exact HSS _ (Below.refl _ W9).drew | exact HSS _ (heldStep (by assumption) (by assumption)) | exact HSS _ (heldStep (below_al (Below.refl _ _) _) (by assumption)))
              (first
                | (go_at_call 29; refine (HLC _ (And.left (by assumption))).mono ?_; rintro e w10 ⟨rfl, hb10⟩)))
          | fail)
        have hB10 : Below W9.heap.size W9 w10 := And.left (by assumption)
        go_wp2_with fail
        go_ret
        exact ⟨rfl, below_next HB9.out hB10⟩

set_option maxRecDepth 100000 in
theorem lifted_FnLookupChain (os : Os) (started : os.Started) (H : Type) (enc : TypeId × Value → H) :
    ReturnsInHanded {} Try.checked os 12 .any (Rows.fnLookupChainSpec.pre6 enc Try.prog Try.f12 Rows.fnLookupChainRow.domain false) (Rows.fnLookupChainSpec.post enc Try.prog Try.f12 false true false false) := by
  refine returnsInHanded_of_change (C := Try.checked) row_own started (by kernel_rfl) Try.func12
    (ChangeSpec.witness6 (enc := enc) (C := Try.checked) false ⟨#[], #[.slice none 0 0, .slice none 0 0], []⟩ 8 (by kernel_rfl) (by kernel_rfl) (by kernel_rfl) (by kernel_rfl)) ?_
  intro W base args ds gs before hval0 hW hcnd _
  have hval : ∀ (j : Nat) t v, Try.f12.params[j]? = some t → args[j]? = some v → Value.okWide Try.prog W .any base t v := hval0
  have hW' := hW
  obtain ⟨p, q, hA0, hV, rfl, hfz, hnd⟩ := hW
  have hA : DataW.TrodAll enc Try.prog W 0 (fun _ => true) true Try.f12.params.toList args.toList ds p := hA0
  rw [Try.params12] at hA hval
  obtain ⟨v0, vs0, d0, ds0, p0, q0, hargs, rfl, rfl, h0, r0⟩ := trodAll_cons hA
  obtain ⟨v1, vs1, d1, ds1, p1, q1, rfl, rfl, rfl, h1, r1⟩ := trodAll_cons r0
  obtain ⟨rfl, rfl, rfl⟩ := trodAll_nil r1
  obtain rfl : args = #[v0, v1] := by cases args; simp_all
  obtain ⟨rfl, rfl⟩ := trodVars_none hV
  have k0 := h0
  have lt0 : ∀ x ∈ p0, x.block < W.heap.size := by obtain ⟨m, hm⟩ := k0; exact DataW.trod_lt m _ _ _ hm
  have w0 := open_bytes (hval 0 53 v0 rfl rfl) h0
  have k1 := h1
  have lt1 : ∀ x ∈ p1, x.block < W.heap.size := by obtain ⟨m, hm⟩ := k1; exact DataW.trod_lt m _ _ _ hm
  have w1 := open_bytes (hval 1 53 v1 rfl rfl) h1
  clear hA0 hval0
  refine (walk_FnLookupChain v0 v1 W w0 w1).mono fun e W' ⟨he, bel⟩ => ?_
  subst he
  exact ⟨_, rfl, _, _, _, [], _, [], hW', trodAll_mk1 (shut_bool Try.underlying4 _), (trodAll_cons_mk (Below.trod row_laidOut (by kernel_rfl) (of_decide_eq_true (by kernel_rfl)) k0 bel lt0) (trodAll_cons_mk (Below.trod row_laidOut (by kernel_rfl) (of_decide_eq_true (by kernel_rfl)) k1 bel lt1) trodAll_mk0)), rfl, bel.frame _, fun h => by cases h⟩

theorem over_FnLookupChain : Rows.fnLookupChainRow.holds Try.pinned (OpenSpec.ofChange Rows.fnLookupChainSpec) :=
  OpenClaim.holds_of_wide 12 Try.f12 rfl rfl rfl rfl rfl rfl rfl ⟨rfl, rfl, rfl, rfl, rfl⟩ rfl rfl rfl rfl rfl (by kernel_rfl) Try.func12 (by kernel_rfl)
    (of_decide_eq_true (by kernel_rfl)) (by unfold Func.isWrapper; first | (rw [if_pos (by decide +kernel)]; kernel_rfl) | (rw [if_neg (by decide +kernel)]; exact ⟨rfl, rfl⟩))
    (fun os started H enc _ => lifted_FnLookupChain os started H enc)

theorem FnLookupChain_holds : Rows.FnLookupChainSaid := over_FnLookupChain

end Go.Proofs.Ytdafogfpbpjmdaa
