/- The law FnDerivationValid: whatever its arguments, the call returns true, and every argument reads afterwards as it read before. No condition. -/
import Derived.Test.YtpglfbjjmnaojaaTreeSame
namespace Go.Proofs.Ytpglfbjjmnaojaa
open Go.ChangeShapes Go.WideShapes Go.ChangeAt Go.RowKit
open Go.ChangeMaps (open_string shut_string)
set_option linter.unusedVariables false

set_option maxRecDepth 100000 in
set_option maxHeartbeats 16000000 in
theorem walk_FnDerivationValid (v0 : Value) (w : World) (w0 : BytesIn w v0) :
    Calls Try.prog 12 #[v0] w fun e w' => e = .returned (.bool true) ∧ Below w.heap.size w w' := by
  have hd := drawDerivationValid v0 w w0
  obtain ⟨Ac, nc, capc, bs, rfl, hnc, hcc, _⟩ := w0
  by_cases h20 : (1048576 : Int) < (nc : Int)
  · go_enter Try.func12, Try.ntmps12
    go_wp2_with fail
    go_ret
    exact ⟨rfl, Below.refl _ _⟩
  · go_enter Try.func12, Try.ntmps12
    go_wp2_with fail
    refine hd.mono ?_
    rintro e w1 ⟨A, k, c, es, rfl, hE, hk, hnone, hB⟩
    have hK1 := EntK.of hE hB hB.size
    have hlen := hE.1
    clear hE hB hd
    go_wp2_with fail
    refine (impl_DerivationValid A k c _ es _ hK1.1 (by omega)).mono ?_
    rintro e w2 ⟨rfl, hb2⟩
    have hK2 := EntK.step hb2 ⟨hK1, trivial⟩
    clear hK1 hb2
    go_wp2_with fail
    refine (spec_DerivationValid A k c _ es _ hK2.1 (by omega)).mono ?_
    rintro e w3 ⟨rfl, hb3⟩
    have hK3 := EntK.step hb3 ⟨hK2, trivial⟩
    clear hK2 hb3
    obtain ⟨i0, hi, hz0, hz1, hz2⟩ := info_parts entry_info
    have HLEN := Lib.hid hlen
    have hbad := dValid_bad (es := es) (k := 6) (o := 0) (r := 0) (b := 0) (g := false)
    rw [hlen] at hbad
    have HBAD := Lib.hid hbad
    have hkc := hK3.1.2.1
    obtain ⟨h2, hkh, hh2⟩ : ∃ h2 : Nat, (k : Int) / 2 = (h2 : Int) ∧ h2 ≤ k := ⟨k / 2, by omega, by omega⟩
    have hkh0 : (0 : Int) ≤ (h2 : Int) := by omega
    have hkhc : (h2 : Int) ≤ (c : Int) := by omega
    have HTAKE := Lib.hid (fun W (h : EntO W w.heap.size A k c es) (hv : dValid es = true) => by
      have := impl_DerivationValid A h2 c w.heap.size (es.take h2) W (h.take hh2) (by omega)
      rw [dValid_take hv] at this
      exact this)
    have HADD := Lib.hid (fun (B : Option Addr) (cb bb : Nat) W (h : EntO W bb B (k + 1) cb (es ++ [⟨6, 0, 0, 0, k, false⟩])) => by
      have := impl_DerivationValid B (k + 1) cb bb (es ++ [⟨6, 0, 0, 0, k, false⟩]) W h (by omega)
      rw [HBAD.out] at this
      exact this)
    have HK3 := Lib.hid hK3
    clear hlen hbad hK3
    clear hkc
    cases A with
    | none =>
      have hk0 : k = 0 := HK3.out.1.none_ rfl
      have hes : es = [] := List.eq_nil_of_length_eq_zero (by rw [HLEN.out, hk0])
      subst hes
      subst hk0
      have hc0 : c = 0 := hnone rfl
      subst hc0
      have hh0 : h2 = 0 := by omega
      subst hh0
      clear hkh hkh0 hkhc
      have hv : dValid [] = true := rfl
      rw [hv]
      have ho4 := World.ownsRow.alloc (World.ownsRow_made (base := w3.heap.size) (e := 48) (size := 6) w3 #[] 0 (Nat.le_refl _) (Nat.zero_le _) (by simp)) (.cells #[.int .i64 6, .int .i64 0, .int .i64 0, .int .i64 0, .int .i64 (0), .bool false] 48)
      go_wp2_with (at_builtin; refine wpList_append_own _ rfl _ _ 25 rfl w3.heap.size 48 i0 _ 6 48 Try.underlying25 hi hz0 hz1 hz2 rfl (by decide) _ _ _ rfl ho4 ⟨w3.heap.size + 1, 0, none⟩ 1 1 [.int .i64 6, .int .i64 0, .int .i64 0, .int .i64 0, .int .i64 (0), .bool false] rfl rfl ?pc2 ?pc3 ?pc4 ?pc5 ?pc6 ?_)
      case pc2 => exact news_six (by simp)
      case pc3 =>
        intro u hu
        simp only [List.mem_cons, List.not_mem_nil, or_false] at hu
        rcases hu with rfl | rfl | rfl | rfl | rfl | rfl <;> rfl
      case pc4 => simp only [maxLen]; omega
      case pc5 => omega
      case pc6 => first | omega | (simp only [World.size_alloc]; omega)
      intro v2 w5 hown2 hgrow2 _
      obtain ⟨A5, c5, rfl⟩ := own_form_e hown2
      have hE5 : EntO w5 w3.heap.size A5 (0 + 1) c5 ([] ++ [⟨6, 0, 0, 0, ((0 : Nat) : Int), false⟩]) := EntO.of_own (by rw [flat_append]; exact hown2)
      have hB5 : Below w3.heap.size w3 w5 := (below_al (below_al (Below.refl _ w3) _) _).grown hgrow2 (by simp; omega) (by intro x hx; have := (World.ownsRow.lt ho4 x hx).1; omega)
      have HE5 := Lib.hid hE5
      have HK5 := Lib.hid (EntK.step hB5 ⟨HK3.out, trivial⟩)
      clear hown2 hgrow2 ho4 hE5 hB5
      have hcall := HTAKE.out _ HK5.out.1 (by assumption)
      go_wp2_with fail
      refine hcall.mono ?_
      rintro e w6 ⟨rfl, hb6⟩
      have HK6 := Lib.hid (EntK.step hb6 ⟨HK5.out, trivial⟩)
      have HE6 := Lib.hid (HE5.out.below hb6)
      clear hcall hb6
      have hcall2 := HADD.out _ _ _ _ HE6.out
      go_wp2_with fail
      refine hcall2.mono ?_
      rintro e w7 ⟨rfl, hb7⟩
      have HK7 := Lib.hid (EntK.step hb7 ⟨HK6.out, trivial⟩)
      clear hcall2 hb7
      go_wp2_with fail
      refine (laws_alive _).mono ?_
      rintro e wz ⟨rfl, hbz⟩
      go_wp2_with fail
      go_ret
      exact ⟨rfl, below_next HK7.out.2.1 hbz⟩
    | some ad =>
      have hsrc := HK3.out.1.source'
      have HSRC := Lib.hid hsrc
      clear hsrc
      cases hv : dValid es
      all_goals
        go_wp2_with (at_builtin; refine wpList_append_own _ rfl _ _ 25 rfl w3.heap.size 48 i0 _ 6 48 Try.underlying25 hi hz0 hz1 hz2 rfl (by decide) _ _ _ rfl (World.ownsRow_made w3 #[] 0 (Nat.le_refl _) (Nat.zero_le _) (by simp)) ad k c (flat es) rfl ?qc1 ?qc2 ?qc3 ?qc4 ?qc5 ?qc6 ?_)
        case qc1 => rw [flat_len, HLEN.out]
        case qc2 =>
          intro j u hj
          have := HSRC.out j u hj
          rw [World.cell?_alloc_lt _ _ _ (World.block_lt_of_cell? w3 _ this)]
          exact this
        case qc3 => exact flat_one es
        case qc4 => simp only [maxLen]; omega
        case qc5 => omega
        case qc6 => simp
        intro v' w4 hown hgrow _
        obtain ⟨Av, cv, rfl⟩ := own_form_e hown
        have hB4 : Below w3.heap.size w3 w4 := ((Below.refl _ w3).alloc (Nat.le_refl _) _).grown hgrow (by simp) (by intro x hx; simp [Value.ownBlock] at hx; omega)
        have ho4 := World.ownsRow.alloc hown (.cells #[.int .i64 6, .int .i64 0, .int .i64 0, .int .i64 0, .int .i64 ((k : Int)), .bool false] 48)
        have hs4 := hB4.size
        clear hown hgrow
        go_wp2_with (at_builtin; refine wpList_append_own _ rfl _ _ 25 rfl w3.heap.size 48 i0 _ 6 48 Try.underlying25 hi hz0 hz1 hz2 rfl (by decide) _ _ _ rfl ho4 ⟨w4.heap.size, 0, none⟩ 1 1 [.int .i64 6, .int .i64 0, .int .i64 0, .int .i64 0, .int .i64 ((k : Int)), .bool false] rfl rfl ?pc2 ?pc3 ?pc4 ?pc5 ?pc6 ?_)
        case pc2 => exact news_six (by simp)
        case pc3 =>
          intro u hu
          simp only [List.mem_cons, List.not_mem_nil, or_false] at hu
          rcases hu with rfl | rfl | rfl | rfl | rfl | rfl <;> rfl
        case pc4 => simp only [maxLen]; omega
        case pc5 => omega
        case pc6 => first | omega | (simp only [World.size_alloc]; omega)
        intro v2 w5 hown2 hgrow2 _
        obtain ⟨A5, c5, rfl⟩ := own_form_e hown2
        have hE5 : EntO w5 w3.heap.size A5 (k + 1) c5 (es ++ [⟨6, 0, 0, 0, k, false⟩]) := EntO.of_own (by rw [flat_append]; exact hown2)
        have hB5 : Below w3.heap.size w3 w5 := (below_al hB4 _).grown hgrow2 (Nat.le_trans hs4 (by simp)) (by intro x hx; have := (World.ownsRow.lt ho4 x hx).1; omega)
        have HE5 := Lib.hid hE5
        have HK5 := Lib.hid (EntK.step hB5 ⟨HK3.out, trivial⟩)
        clear hown2 hgrow2 ho4 hE5 hB5 hB4 hs4
      · have HK6 := HK5
        have HE6 := HE5
        have hcall2 := HADD.out _ _ _ _ HE6.out
        go_wp2_with fail
        refine hcall2.mono ?_
        rintro e w7 ⟨rfl, hb7⟩
        have HK7 := Lib.hid (EntK.step hb7 ⟨HK6.out, trivial⟩)
        clear hcall2 hb7
        go_wp2_with fail
        refine (laws_alive _).mono ?_
        rintro e wz ⟨rfl, hbz⟩
        go_wp2_with fail
        go_ret
        exact ⟨rfl, below_next HK7.out.2.1 hbz⟩
      · have hcall := HTAKE.out _ HK5.out.1 (by assumption)
        go_wp2_with fail
        refine hcall.mono ?_
        rintro e w6 ⟨rfl, hb6⟩
        have HK6 := Lib.hid (EntK.step hb6 ⟨HK5.out, trivial⟩)
        have HE6 := Lib.hid (HE5.out.below hb6)
        clear hcall hb6
        have hcall2 := HADD.out _ _ _ _ HE6.out
        go_wp2_with fail
        refine hcall2.mono ?_
        rintro e w7 ⟨rfl, hb7⟩
        have HK7 := Lib.hid (EntK.step hb7 ⟨HK6.out, trivial⟩)
        clear hcall2 hb7
        go_wp2_with fail
        refine (laws_alive _).mono ?_
        rintro e wz ⟨rfl, hbz⟩
        go_wp2_with fail
        go_ret
        exact ⟨rfl, below_next HK7.out.2.1 hbz⟩

set_option maxRecDepth 100000 in
theorem lifted_FnDerivationValid (os : Os) (started : os.Started) (H : Type) (enc : TypeId × Value → H) :
    ReturnsInHanded {} Try.checked os 12 .any (Rows.fnDerivationValidSpec.pre6 enc Try.prog Try.f12 Rows.fnDerivationValidRow.domain false) (Rows.fnDerivationValidSpec.post enc Try.prog Try.f12 false true false false) := by
  refine returnsInHanded_of_change (C := Try.checked) row_own started (by kernel_rfl) Try.func12
    (ChangeSpec.witness6 (enc := enc) (C := Try.checked) false ⟨#[], #[.slice none 0 0], []⟩ 8 (by kernel_rfl) (by kernel_rfl) (by kernel_rfl) (by kernel_rfl)) ?_
  intro W base args ds gs before hval0 hW hcnd _
  have hval : ∀ (j : Nat) t v, Try.f12.params[j]? = some t → args[j]? = some v → Value.okWide Try.prog W .any base t v := hval0
  have hW' := hW
  obtain ⟨p, q, hA0, hV, rfl, hfz, hnd⟩ := hW
  have hA : DataW.TrodAll enc Try.prog W 0 (fun _ => true) true Try.f12.params.toList args.toList ds p := hA0
  rw [Try.params12] at hA hval
  obtain ⟨v0, vs0, d0, ds0, p0, q0, hargs, rfl, rfl, h0, r0⟩ := trodAll_cons hA
  obtain ⟨rfl, rfl, rfl⟩ := trodAll_nil r0
  obtain rfl : args = #[v0] := by cases args; simp_all
  obtain ⟨rfl, rfl⟩ := trodVars_none hV
  have k0 := h0
  have lt0 : ∀ x ∈ p0, x.block < W.heap.size := by obtain ⟨m, hm⟩ := k0; exact DataW.trod_lt m _ _ _ hm
  have w0 := open_bytes (hval 0 41 v0 rfl rfl) h0
  clear hA0 hval0
  refine (walk_FnDerivationValid v0 W w0).mono fun e W' ⟨he, bel⟩ => ?_
  subst he
  exact ⟨_, rfl, _, _, _, [], _, [], hW', trodAll_mk1 (shut_bool Try.underlying4 _), (trodAll_cons_mk (Below.trod row_laidOut (by kernel_rfl) (of_decide_eq_true (by kernel_rfl)) k0 bel lt0) trodAll_mk0), rfl, bel.frame _, fun h => by cases h⟩

theorem over_FnDerivationValid : Rows.fnDerivationValidRow.holds Try.pinned (OpenSpec.ofChange Rows.fnDerivationValidSpec) :=
  OpenClaim.holds_of_wide 12 Try.f12 rfl rfl rfl rfl rfl rfl rfl ⟨rfl, rfl, rfl, rfl, rfl⟩ rfl rfl rfl rfl rfl (by kernel_rfl) Try.func12 (by kernel_rfl)
    (of_decide_eq_true (by kernel_rfl)) (by unfold Func.isWrapper; first | (rw [if_pos (by decide +kernel)]; kernel_rfl) | (rw [if_neg (by decide +kernel)]; exact ⟨rfl, rfl⟩))
    (fun os started H enc _ => lifted_FnDerivationValid os started H enc)

theorem FnDerivationValid_holds : Rows.FnDerivationValidSaid := over_FnDerivationValid

end Go.Proofs.Ytpglfbjjmnaojaa
