/- The law FnLookupDirect: whatever its arguments, the call returns true, and every argument reads afterwards as it read before. No condition. -/
import Derived.Test.YtdafogfpbpjmdaaLookI
import Derived.Test.YtdafogfpbpjmdaaTabX
import Derived.Test.YtdafogfpbpjmdaaTabW
import Derived.Test.YtdafogfpbpjmdaaDrawTabLaws
import Derived.Test.YtdafogfpbpjmdaaTexts
import Derived.Test.YtdafogfpbpjmdaaHeld
namespace Go.Proofs.Ytdafogfpbpjmdaa
open Go.ChangeShapes Go.WideShapes Go.ChangeAt Go.RowKit
open Go.ChangeMaps (open_string shut_string)
set_option linter.unusedVariables false

theorem heldStep {u w v : World} {P : Prop} (hb : Below w.heap.size w v) (h : Below u.heap.size u w ∧ P) : Below u.heap.size u v := below_next h.1 hb

theorem small1 {t : Tab} (h : t.slots.length ≤ 2000000) : SmallT [t] := fun i => by
  cases i with
  | zero => exact h
  | succ i => exact Nat.zero_le _
theorem one_tab {W : World} {b n c : Nat} {x y z : Int} {S : Option Addr} {cs : List Cp} (hC : CAt W b 29 [.int .i64 x, .int .i64 y, .int .i64 z, .slice S n c]) (hR : CapRd W S n cs) (hnc : n ≤ c) (hcm : c ≤ 9223372036854775807) : TabRd W (some ⟨b, 0, none⟩) 1 [⟨x, y, z, cs⟩] := by
  have hl := hR.1
  subst hl
  refine ⟨rfl, fun _ => ⟨b, 0, rfl, hC.lt, fun i hi => ?_⟩⟩
  obtain rfl : i = 0 := by omega
  exact ⟨S, c, hC.cell 0, hC.cell 1, hC.cell 2, hC.cell 3, hnc, hcm, hR⟩

set_option maxRecDepth 100000 in
set_option maxHeartbeats 16000000 in
theorem walk_FnLookupDirect (v0 v1 : Value) (w : World) (w0 : BytesIn w v0) (w1 : BytesIn w v1) :
    Calls Try.prog 10 #[v0, v1] w fun e w' => e = .returned (.bool true) ∧ Below w.heap.size w w' := by
  have hd := drawTableValid v0 w w0
  obtain ⟨Ac, nc, capc, bs, rfl, hnc, hcc, _⟩ := w0
  obtain ⟨Ad, nd, capd, bs', rfl, hnd, hcd, _⟩ := w1
  by_cases h20 : (1048576 : Int) < (nc : Int)
  · go_enter Try.func10, Try.ntmps10
    go_wp2_with fail
    go_ret
    exact ⟨rfl, Below.refl _ _⟩
  by_cases h21 : (1048576 : Int) < (nd : Int)
  · go_enter Try.func10, Try.ntmps10
    go_wp2_with fail
    go_ret
    exact ⟨rfl, Below.refl _ _⟩
  · go_enter Try.func10, Try.ntmps10
    go_wp2_with fail
    refine hd.mono ?_
    rintro e w1 ⟨x, y, z, S, n, c, cs, rfl, hR, hn8, hnc, hcm, hb1⟩
    have hX := CAt.new w1 29 [.int .i64 x, .int .i64 y, .int .i64 z, .slice S n c]
    have hba := below_al (Below.refl _ w1) (.cells #[.int .i64 x, .int .i64 y, .int .i64 z, .slice S n c] 29)
    have hR1 := hR.below hba
    have hB1 := below_next hb1 hba
    have hIV := fun W (h : CapRd W S n cs) => impl_TableValid x y z S n c cs W h (by omega)
    have hSV := fun W (h : CapRd W S n cs) => spec_TableValid x y z S n c cs W h (by omega)
    obtain ⟨q, hz⟩ : ∃ q, tabOk ⟨x, y, z, cs⟩ = q := ⟨_, rfl⟩
    simp only [hz] at hIV hSV
    have HZ := Lib.hid hz
    obtain ⟨x0, x1, x2, x3⟩ := hX.cells4
    have fX := hX.free
    clear hz hd hR hb1 hba
    go_wp2_with fail
    generalize w1.alloc (.cells #[.int .i64 x, .int .i64 y, .int .i64 z, .slice S n c] 29) = W1 at *
    generalize w1.heap.size = C at *
    have hCl := hX.lt
    have HSS : ∀ w', Below W1.heap.size W1 w' → Below W1.heap.size W1 w' ∧ w'.cell? ⟨C, 0, none⟩ = some (.int .i64 x) ∧ w'.cell? ⟨C, 1, none⟩ = some (.int .i64 y) ∧ w'.cell? ⟨C, 2, none⟩ = some (.int .i64 z) ∧ w'.cell? ⟨C, 3, none⟩ = some (.slice S n c) := fun w' hb =>
      ⟨hb, (hb.cell (p := ⟨C, 0, none⟩) hCl).trans x0, (hb.cell (p := ⟨C, 1, none⟩) hCl).trans x1, (hb.cell (p := ⟨C, 2, none⟩) hCl).trans x2, (hb.cell (p := ⟨C, 3, none⟩) hCl).trans x3⟩
    have HIV : ∀ w', Below W1.heap.size W1 w' → _ := fun w' hb => hIV w' (hR1.below hb)
    have HSV : ∀ w', Below W1.heap.size W1 w' → _ := fun w' hb => hSV w' (hR1.below hb)
    have HR1 := Lib.hid hR1
    have HX := Lib.hid hX
    have HB1 := Lib.hid hB1
    clear hIV hSV hR1 x0 x1 x2 x3 fX hX hB1 hCl
    (first
      | (go_region_held3 (fun w' => Below W1.heap.size W1 w' ∧ w'.cell? ⟨C, 0, none⟩ = some (.int .i64 x) ∧ w'.cell? ⟨C, 1, none⟩ = some (.int .i64 y) ∧ w'.cell? ⟨C, 2, none⟩ = some (.int .i64 z) ∧ w'.cell? ⟨C, 3, none⟩ = some (.slice S n c))
          (first | exact HSS _ (Below.refl _ W1).drew | exact HSS _ (heldStep (by assumption) (by assumption)) | exact HSS _ (heldStep (below_al (Below.refl _ _) _) (by assumption)))
          (first
            | (go_at_call 18; refine (HIV _ (And.left (by assumption))).mono ?_; rintro e w5 ⟨rfl, hb5⟩)
            | (go_at_call 16; refine (HSV _ (And.left (by assumption))).mono ?_; rintro e w6 ⟨rfl, hb6⟩)))
      | fail)
    have hB6 : Below W1.heap.size W1 w6 := And.left (by assumption)
    have hX6 := HX.out.below hB6
    have hSV6 := HSV _ hB6
    have HR6 := Lib.hid (HR1.out.below hB6)
    have HB6 := Lib.hid (below_next HB1.out hB6)
    obtain ⟨W6, hW6⟩ : ∃ W, W = w6 := ⟨_, rfl⟩
    subst hW6
    obtain ⟨x0, x1, x2, x3⟩ := hX6.cells4
    have fX := hX6.free
    clear HSS HIV HSV HR1 HX HB1 hB6
    go_wp2_with fail
    refine hSV6.mono ?_
    rintro e w7 ⟨rfl, hb7⟩
    have hX7 := hX6.below hb7
    have HR7 := Lib.hid (HR6.out.below hb7)
    have hB7 := below_next HB6.out hb7
    clear hX6 hSV6 HR6 HB6 hb7 x0 x1 x2 x3 fX
    obtain ⟨W7, hW7⟩ : ∃ W, W = w7 := ⟨_, rfl⟩
    subst hW7
    obtain ⟨x0, x1, x2, x3⟩ := hX7.cells4
    have fX := hX7.free
    cases q
    · go_wp2_with fail
      refine (laws_alive _).mono ?_
      rintro e wz ⟨rfl, hbz⟩
      go_wp2_with fail
      go_ret
      exact ⟨rfl, below_next hB7 hbz⟩
    · obtain ⟨⟨b0, b1⟩, ⟨g0, g1⟩, ⟨u0, u1⟩, hxl⟩ := headOk_iff.1 (tabOk_iff.1 HZ.out).1
      simp only at b0 b1 g0 g1 u0 u1 hxl
      have hl := HR7.out.1
      rw [hl] at hxl
      have hx2 := pw_two b0
      have hn2 : 2 ≤ n := by omega
      have hxl' := Lib.hid hxl
      have hnz : ¬ (n : Int) = 0 := by omega
      have hnz2 : ¬ n = 0 := by omega
      have hCl := hX7.lt
      clear hxl hl hx2
      go_wp2_with fail
      have s0 : 0 ≤ (nd : Int) % (n : Int) := Int.emod_nonneg _ hnz
      have s1 : (nd : Int) % (n : Int) < n := Int.emod_lt_of_pos _ (by omega)
      generalize (nd : Int) % (n : Int) = s at *
      have hpk := pack_bounds (g := y) (s := s) (x := z) (y := x) (by omega) (by omega) u0 u1 s0 (by rw [← hxl'.out]; exact s1)
      have hpk0 := pack_bounds (g := y) (s := 0) (x := z) (y := x) (by omega) (by omega) u0 u1 (by omega) (by have := pw_pos x; omega)
      have hpm := pw_max (b := z + x) (by omega)
      have hLS := look_single (s := s) HZ.out s0 (by rw [HR7.out.1]; exact s1)
      have hLT := look_short HZ.out
      simp only at hLS hLT
      have hsh : y * 2 ^ x.toNat = y * pw x := rfl
      have hLK := fun W b (h : TabRd W (some ⟨b, 0, none⟩) 1 [⟨x, y, z, cs⟩]) => impl_LookupSlot (some ⟨b, 0, none⟩) 1 1 [⟨x, y, z, cs⟩] 0 (y * pw x + s) (z + x) W h (by omega) (small1 (by rw [HR7.out.1]; omega))
      have hLK2 := fun W b (h : TabRd W (some ⟨b, 0, none⟩) 1 [⟨x, y, z, cs⟩]) => impl_LookupSlot (some ⟨b, 0, none⟩) 1 1 [⟨x, y, z, cs⟩] 0 0 (x + z - 1) W h (by omega) (small1 (by rw [HR7.out.1]; omega))
      simp only [hLS, lookV_some] at hLK
      simp only [hLT, lookV_none] at hLK2
      generalize y * pw x = Y at *
      generalize pw (z + x) = Q at *
      have hw1 : wrap64 (y * 2 ^ x.toNat) = Y := by rw [hsh]; exact wrap_id (by omega) (by omega)
      have hw1' : IntKind.i64.wrap (y * 2 ^ x.toNat) = Y := by rw [hsh]; exact i64_id (by omega) (by omega)
      have hw2 : wrap64 (Y + s) = Y + s := wrap_id (by omega) (by omega)
      have hw2' : IntKind.i64.wrap (Y + s) = Y + s := i64_id (by omega) (by omega)
      have hw3 : wrap64 (z + x) = z + x := wrap_id (by omega) (by omega)
      have hw3' : IntKind.i64.wrap (z + x) = z + x := i64_id (by omega) (by omega)
      have hw4 : wrap64 (x + z) = x + z := wrap_id (by omega) (by omega)
      have hw5 : wrap64 (x + z - 1) = x + z - 1 := wrap_id (by omega) (by omega)
      have hx0 : ¬ x < 0 := by omega
      have HSS : ∀ w', Below W7.heap.size W7 w' → Below W7.heap.size W7 w' ∧ w'.cell? ⟨C, 0, none⟩ = some (.int .i64 x) ∧ w'.cell? ⟨C, 1, none⟩ = some (.int .i64 y) ∧ w'.cell? ⟨C, 2, none⟩ = some (.int .i64 z) ∧ w'.cell? ⟨C, 3, none⟩ = some (.slice S n c) := fun w' hb =>
        ⟨hb, (hb.cell (p := ⟨C, 0, none⟩) hCl).trans x0, (hb.cell (p := ⟨C, 1, none⟩) hCl).trans x1, (hb.cell (p := ⟨C, 2, none⟩) hCl).trans x2, (hb.cell (p := ⟨C, 3, none⟩) hCl).trans x3⟩
      have HX7 := Lib.hid hX7
      have HB7 := Lib.hid hB7
      clear x0 x1 x2 x3 fX hX7 hB7 hsh hLS hLT hpk hpk0 hpm u1 hCl
      have hcd := HR7.out.below (below_al (Below.refl _ W7) (.cells #[.int .i64 x, .int .i64 y, .int .i64 z, .slice S n c] 29))
      have hTd : TabRd (W7.alloc (.cells #[.int .i64 x, .int .i64 y, .int .i64 z, .slice S n c] 29)).drew (some ⟨W7.heap.size, 0, none⟩) 1 [⟨x, y, z, cs⟩] := one_tab (W := (W7.alloc (.cells #[.int .i64 x, .int .i64 y, .int .i64 z, .slice S n c] 29)).drew) (CAt.new W7 _ [.int .i64 x, .int .i64 y, .int .i64 z, .slice S n c]) hcd hnc hcm
      have hLKd := hLK _ _ hTd
      clear hLK hTd hcd
      (first
        | (go_region_held3 (fun w' => Below W7.heap.size W7 w' ∧ w'.cell? ⟨C, 0, none⟩ = some (.int .i64 x) ∧ w'.cell? ⟨C, 1, none⟩ = some (.int .i64 y) ∧ w'.cell? ⟨C, 2, none⟩ = some (.int .i64 z) ∧ w'.cell? ⟨C, 3, none⟩ = some (.slice S n c))
            (first | exact HSS _ (Below.refl _ W7).drew | exact HSS _ (heldStep (by assumption) (by assumption)) | exact HSS _ (heldStep (below_al (Below.refl _ _) _) (by assumption)))
            (first
              | (go_at_call 29; refine hLKd.mono ?_; rintro e w8 ⟨rfl, hb8⟩)))
        | fail)
      have hB8 : Below W7.heap.size W7 w8 := And.left (by assumption)
      have hX8 := HX7.out.below hB8
      have HR8 := Lib.hid (HR7.out.below hB8)
      have hB8' := below_next HB7.out hB8
      clear HSS HX7 HR7 HB7 hB8 hLKd
      obtain ⟨W8, hW8⟩ : ∃ W, W = w8 := ⟨_, rfl⟩
      subst hW8
      obtain ⟨x0, x1, x2, x3⟩ := hX8.cells4
      have fX := hX8.free
      have hCl8 := hX8.lt
      have hba := below_al (Below.refl _ W8) (.cells #[.int .i64 x, .int .i64 y, .int .i64 z, .slice S n c] 29)
      have hLKe := hLK2 _ _ (one_tab (CAt.new W8 _ [.int .i64 x, .int .i64 y, .int .i64 z, .slice S n c]) (HR8.out.below hba) hnc hcm)
      have hB9 := below_next hB8' hba
      clear hLK2 hba hB8'
      go_wp2_with fail
      refine hLKe.mono ?_
      rintro e w9 ⟨rfl, hb9⟩
      have hB10 := below_next hB9 hb9
      clear hX8 hLKe hB9 hb9 x0 x1 x2 x3 fX
      go_wp2_with fail
      go_ret
      exact ⟨rfl, hB10⟩

set_option maxRecDepth 100000 in
theorem lifted_FnLookupDirect (os : Os) (started : os.Started) (H : Type) (enc : TypeId × Value → H) :
    ReturnsInHanded {} Try.checked os 10 .any (Rows.fnLookupDirectSpec.pre6 enc Try.prog Try.f10 Rows.fnLookupDirectRow.domain false) (Rows.fnLookupDirectSpec.post enc Try.prog Try.f10 false true false false) := by
  refine returnsInHanded_of_change (C := Try.checked) row_own started (by kernel_rfl) Try.func10
    (ChangeSpec.witness6 (enc := enc) (C := Try.checked) false ⟨#[], #[.slice none 0 0, .slice none 0 0], []⟩ 8 (by kernel_rfl) (by kernel_rfl) (by kernel_rfl) (by kernel_rfl)) ?_
  intro W base args ds gs before hval0 hW hcnd _
  have hval : ∀ (j : Nat) t v, Try.f10.params[j]? = some t → args[j]? = some v → Value.okWide Try.prog W .any base t v := hval0
  have hW' := hW
  obtain ⟨p, q, hA0, hV, rfl, hfz, hnd⟩ := hW
  have hA : DataW.TrodAll enc Try.prog W 0 (fun _ => true) true Try.f10.params.toList args.toList ds p := hA0
  rw [Try.params10] at hA hval
  obtain ⟨v0, vs0, d0, ds0, p0, q0, hargs, rfl, rfl, h0, r0⟩ := trodAll_cons hA
  obtain ⟨v1, vs1, d1, ds1, p1, q1, rfl, rfl, rfl, h1, r1⟩ := trodAll_cons r0
  obtain ⟨rfl, rfl, rfl⟩ := trodAll_nil r1
  obtain rfl : args = #[v0, v1] := by cases args; simp_all
  obtain ⟨rfl, rfl⟩ := trodVars_none hV
  have k0 := h0
  have lt0 : ∀ x ∈ p0, x.block < W.heap.size := by obtain ⟨m, hm⟩ := k0; exact DataW.trod_lt m _ _ _ hm
  have w0 := open_bytes (hval 0 53 v0 rfl rfl) h0
  have k1 := h1
  have lt1 : ∀ x ∈ p1, x.block < W.heap.size := by obtain ⟨m, hm⟩ := k1; exact DataW.trod_lt m _ _ _ hm
  have w1 := open_bytes (hval 1 53 v1 rfl rfl) h1
  clear hA0 hval0
  refine (walk_FnLookupDirect v0 v1 W w0 w1).mono fun e W' ⟨he, bel⟩ => ?_
  subst he
  exact ⟨_, rfl, _, _, _, [], _, [], hW', trodAll_mk1 (shut_bool Try.underlying4 _), (trodAll_cons_mk (Below.trod row_laidOut (by kernel_rfl) (of_decide_eq_true (by kernel_rfl)) k0 bel lt0) (trodAll_cons_mk (Below.trod row_laidOut (by kernel_rfl) (of_decide_eq_true (by kernel_rfl)) k1 bel lt1) trodAll_mk0)), rfl, bel.frame _, fun h => by cases h⟩

theorem over_FnLookupDirect : Rows.fnLookupDirectRow.holds Try.pinned (OpenSpec.ofChange Rows.fnLookupDirectSpec) :=
  OpenClaim.holds_of_wide 10 Try.f10 rfl rfl rfl rfl rfl rfl rfl ⟨rfl, rfl, rfl, rfl, rfl⟩ rfl rfl rfl rfl rfl (by kernel_rfl) Try.func10 (by kernel_rfl)
    (of_decide_eq_true (by kernel_rfl)) (by unfold Func.isWrapper; first | (rw [if_pos (by decide +kernel)]; kernel_rfl) | (rw [if_neg (by decide +kernel)]; exact ⟨rfl, rfl⟩))
    (fun os started H enc _ => lifted_FnLookupDirect os started H enc)

theorem FnLookupDirect_holds : Rows.FnLookupDirectSaid := over_FnLookupDirect

end Go.Proofs.Ytdafogfpbpjmdaa
