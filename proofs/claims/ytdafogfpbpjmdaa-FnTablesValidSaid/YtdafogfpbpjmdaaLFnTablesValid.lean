/- The law FnTablesValid: whatever its arguments, the call returns true, and every argument reads afterwards as it read before. No condition. -/
import Derived.Test.YtdafogfpbpjmdaaTabsV
import Derived.Test.YtdafogfpbpjmdaaTabT
import Derived.Test.YtdafogfpbpjmdaaDrawTabLaws
import Derived.Test.YtdafogfpbpjmdaaTexts
namespace Go.Proofs.Ytdafogfpbpjmdaa
open Go.ChangeShapes Go.WideShapes Go.ChangeAt Go.RowKit
open Go.ChangeMaps (open_string shut_string)
set_option linter.unusedVariables false

set_option maxRecDepth 100000 in
set_option maxHeartbeats 16000000 in
theorem walk_FnTablesValid (v0 : Value) (w : World) (w0 : BytesIn w v0) :
    Calls Try.prog 9 #[v0] w fun e w' => e = .returned (.bool true) ∧ Below w.heap.size w w' := by
  have hd := drawTablesValid v0 w w0
  obtain ⟨Ac, nc, capc, bs, rfl, hnc, hcc, _⟩ := w0
  by_cases h20 : (1048576 : Int) < (nc : Int)
  · go_enter Try.func9, Try.ntmps9
    go_wp2_with fail
    go_ret
    exact ⟨rfl, Below.refl _ _⟩
  · go_enter Try.func9, Try.ntmps9
    go_wp2_with fail
    refine hd.mono ?_
    rintro e w1 ⟨A, n, c, ts, rfl, hT, n1, n2, hnc, hcm, hS, hb1⟩
    obtain ⟨ic, hci, hcz0, hcz1, hcz2⟩ := info_parts table_info
    have hn : n ≤ 2000000 := by omega
    have hIV := fun W (h : TabRd W A n ts) => impl_TablesValid A n c ts W h hn hS
    have hSV := fun W (h : TabRd W A n ts) => spec_TablesValid A n c ts W h hn hS
    have HS := Lib.hid hS
    obtain ⟨q, hz⟩ : ∃ q, tabsOk ts = q := ⟨_, rfl⟩
    simp only [hz] at hIV hSV
    have HZ := Lib.hid hz
    clear hz hd hS
    go_wp2_with fail
    refine (hIV _ hT).mono ?_
    rintro e w2 ⟨rfl, hb2⟩
    have hT2 := hT.below hb2
    have hB2 := below_next hb1 hb2
    clear hT hb1 hb2
    go_wp2_with fail
    refine (hSV _ hT2).mono ?_
    rintro e w3 ⟨rfl, hb3⟩
    have hT3 := hT2.below hb3
    have hB3 := below_next hB2 hb3
    clear hT2 hB2 hb3 hIV hSV
    obtain ⟨g, o, rfl, -⟩ := hT3.2 (by omega)
    cases q
    · have HB3 := Lib.hid hB3
      have HT3 := Lib.hid hT3
      clear hT3 hB3
      obtain ⟨rs, rfl, hlen, hnews, hrl, hrc⟩ := TabRd.rows HT3.out (by omega)
      go_wp2_with (at_builtin; refine wpList_strike (by rfl) ?_; refine wpList_append_own _ rfl _ _ 36 rfl w3.heap.size 29 ic _ 4 48 Try.underlying36 hci hcz0 hcz1 hcz2 rfl (by decide) _ _ _ rfl (World.ownsRow_made w3 #[] 0 (Nat.le_refl _) (Nat.zero_le _) (by simp)) ⟨g, o, none⟩ n c (flatT rs) rfl ?qc1 ?qc2 ?qc3 ?qc4 ?qc5 ?qc6 ?_)
      case qc1 => exact hlen
      case qc2 =>
        intro j u hj
        have := hnews j u hj
        rw [World.cell?_alloc_lt _ _ _ (World.block_lt_of_cell? w3 _ this)]
        exact this
      case qc3 => exact flatT_one rs
      case qc4 => simp only [maxLen]; omega
      case qc5 => omega
      case qc6 => simp
      intro v' w5 hown hgrow _
      obtain ⟨Av, cv, rfl⟩ : ∃ A' c', v' = .slice A' n c' := by
        rcases hown.2 with ⟨rfl, h0⟩ | ⟨g, cap, cur, rfl, _⟩
        · exact ⟨none, 0, by rw [h0]⟩
        · exact ⟨_, _, rfl⟩
      have hB5 : Below w3.heap.size w3 w5 := ((Below.refl _ w3).alloc (Nat.le_refl _) _).grown hgrow (by simp) (by intro x hx; simp [Value.ownBlock] at hx; omega)
      have ho5 := own_below hown (below_al (Below.refl _ w5) (.cells #[.int .i64 0, .int .i64 0, .int .i64 0, .slice none 0 0] 29))
      have hs5 := hB5.size
      have HB5 := Lib.hid hB5
      have HRC := Lib.hid hrc
      clear hown hgrow hnews hB5 hrc
      go_wp2_with (at_builtin; refine wpList_strike (by rfl) ?_; refine wpList_append_own _ rfl _ _ 36 rfl w3.heap.size 29 ic _ 4 48 Try.underlying36 hci hcz0 hcz1 hcz2 rfl (by decide) _ _ _ rfl ho5 ⟨w5.heap.size, 0, none⟩ 1 1 TR0.cells rfl ?pc1 ?pc2 ?pc3 ?pc4 ?pc5 ?pc6 ?_)
      case pc1 => rfl
      case pc2 =>
        intro k u hk
        rw [Go.WideShapes.add_plain, Nat.zero_add]
        exact ((CAt.new w5 29 [.int .i64 0, .int .i64 0, .int .i64 0, .slice none 0 0]).cell k).trans hk
      case pc3 => exact fun u hu => flatT_one [TR0] u (by simpa [flatT] using hu)
      case pc4 => simp only [maxLen]; omega
      case pc5 => omega
      case pc6 => simp; omega
      intro v2 w7 hown2 hgrow2 _
      obtain ⟨A7, c7, rfl⟩ : ∃ A' c', v2 = .slice A' (n + 1) c' := by
        rcases hown2.2 with ⟨rfl, h0⟩ | ⟨g, cap, cur, rfl, _⟩
        · exact ⟨none, 0, by rw [h0]⟩
        · exact ⟨_, _, rfl⟩
      have hB7 : Below w3.heap.size w3 w7 := (below_al HB5.out (.cells #[.int .i64 0, .int .i64 0, .int .i64 0, .slice none 0 0] 29)).grown hgrow2 (by simp; omega) (by intro x hx; have := (World.ownsRow.lt ho5 x hx).1; omega)
      have HBAD := Lib.hid (bad_list hown2 hrl fun i hi => ⟨(HRC.out i hi).1, (HRC.out i hi).2.1, (HRC.out i hi).2.2.below hB7⟩)
      have HB7 := Lib.hid (below_next HB3.out hB7)
      clear hown2 hgrow2 ho5 hB7
      go_wp2_with fail
      refine (impl_TablesValid A7 (n + 1) c7 _ w7 HBAD.out (by omega) (smallT_zero HS.out)).mono ?_
      rintro e w8 ⟨rfl, hb8⟩
      have HB8 := Lib.hid (below_next HB7.out hb8)
      clear hb8
      rw [tabsOk_bad]
      go_wp2_with fail
      refine (laws_alive _).mono ?_
      rintro e wz ⟨rfl, hbz⟩
      go_wp2_with fail
      go_ret
      exact ⟨rfl, below_next HB8.out hbz⟩
    · have hTl := (show TabRd w3 (some ⟨g, o, none⟩) (n - 1 + 1) ts from (show n - 1 + 1 = n by omega) ▸ hT3).tail (c := c - 1) (by omega)
      have hTV := impl_TablesValid _ (n - 1) (c - 1) _ w3 hTl (by omega) (smallT_drop HS.out)
      rw [tabsOk_tail HZ.out] at hTV
      have HB3 := Lib.hid hB3
      have HT3 := Lib.hid hT3
      clear hTl hT3 hB3
      by_cases hc10 : c - 1 = 0
      · rw [if_pos hc10, hc10] at hTV
        go_wp2_with fail
        refine hTV.mono ?_
        rintro e w4 ⟨rfl, hb4⟩
        have HT4 := Lib.hid (HT3.out.below hb4)
        have HB4 := Lib.hid (below_next HB3.out hb4)
        clear hTV hb4 HB3 HT3
        obtain ⟨rs, rfl, hlen, hnews, hrl, hrc⟩ := TabRd.rows HT4.out (by omega)
        go_wp2_with (at_builtin; refine wpList_strike (by rfl) ?_; refine wpList_append_own _ rfl _ _ 36 rfl w4.heap.size 29 ic _ 4 48 Try.underlying36 hci hcz0 hcz1 hcz2 rfl (by decide) _ _ _ rfl (World.ownsRow_made w4 #[] 0 (Nat.le_refl _) (Nat.zero_le _) (by simp)) ⟨g, o, none⟩ n c (flatT rs) rfl ?qc1 ?qc2 ?qc3 ?qc4 ?qc5 ?qc6 ?_)
        case qc1 => exact hlen
        case qc2 =>
          intro j u hj
          have := hnews j u hj
          rw [World.cell?_alloc_lt _ _ _ (World.block_lt_of_cell? w4 _ this)]
          exact this
        case qc3 => exact flatT_one rs
        case qc4 => simp only [maxLen]; omega
        case qc5 => omega
        case qc6 => simp
        intro v' w5 hown hgrow _
        obtain ⟨Av, cv, rfl⟩ : ∃ A' c', v' = .slice A' n c' := by
          rcases hown.2 with ⟨rfl, h0⟩ | ⟨g, cap, cur, rfl, _⟩
          · exact ⟨none, 0, by rw [h0]⟩
          · exact ⟨_, _, rfl⟩
        have hB5 : Below w4.heap.size w4 w5 := ((Below.refl _ w4).alloc (Nat.le_refl _) _).grown hgrow (by simp) (by intro x hx; simp [Value.ownBlock] at hx; omega)
        have ho5 := own_below hown (below_al (Below.refl _ w5) (.cells #[.int .i64 0, .int .i64 0, .int .i64 0, .slice none 0 0] 29))
        have hs5 := hB5.size
        have HB5 := Lib.hid hB5
        have HRC := Lib.hid hrc
        clear hown hgrow hnews hB5 hrc
        go_wp2_with (at_builtin; refine wpList_strike (by rfl) ?_; refine wpList_append_own _ rfl _ _ 36 rfl w4.heap.size 29 ic _ 4 48 Try.underlying36 hci hcz0 hcz1 hcz2 rfl (by decide) _ _ _ rfl ho5 ⟨w5.heap.size, 0, none⟩ 1 1 TR0.cells rfl ?pc1 ?pc2 ?pc3 ?pc4 ?pc5 ?pc6 ?_)
        case pc1 => rfl
        case pc2 =>
          intro k u hk
          rw [Go.WideShapes.add_plain, Nat.zero_add]
          exact ((CAt.new w5 29 [.int .i64 0, .int .i64 0, .int .i64 0, .slice none 0 0]).cell k).trans hk
        case pc3 => exact fun u hu => flatT_one [TR0] u (by simpa [flatT] using hu)
        case pc4 => simp only [maxLen]; omega
        case pc5 => omega
        case pc6 => simp; omega
        intro v2 w7 hown2 hgrow2 _
        obtain ⟨A7, c7, rfl⟩ : ∃ A' c', v2 = .slice A' (n + 1) c' := by
          rcases hown2.2 with ⟨rfl, h0⟩ | ⟨g, cap, cur, rfl, _⟩
          · exact ⟨none, 0, by rw [h0]⟩
          · exact ⟨_, _, rfl⟩
        have hB7 : Below w4.heap.size w4 w7 := (below_al HB5.out (.cells #[.int .i64 0, .int .i64 0, .int .i64 0, .slice none 0 0] 29)).grown hgrow2 (by simp; omega) (by intro x hx; have := (World.ownsRow.lt ho5 x hx).1; omega)
        have HBAD := Lib.hid (bad_list hown2 hrl fun i hi => ⟨(HRC.out i hi).1, (HRC.out i hi).2.1, (HRC.out i hi).2.2.below hB7⟩)
        have HB7 := Lib.hid (below_next HB4.out hB7)
        clear hown2 hgrow2 ho5 hB7
        go_wp2_with fail
        refine (impl_TablesValid A7 (n + 1) c7 _ w7 HBAD.out (by omega) (smallT_zero HS.out)).mono ?_
        rintro e w8 ⟨rfl, hb8⟩
        have HB8 := Lib.hid (below_next HB7.out hb8)
        clear hb8
        rw [tabsOk_bad]
        go_wp2_with fail
        refine (laws_alive _).mono ?_
        rintro e wz ⟨rfl, hbz⟩
        go_wp2_with fail
        go_ret
        exact ⟨rfl, below_next HB8.out hbz⟩
      · rw [if_neg hc10] at hTV
        go_wp2_with fail
        refine hTV.mono ?_
        rintro e w4 ⟨rfl, hb4⟩
        have HT4 := Lib.hid (HT3.out.below hb4)
        have HB4 := Lib.hid (below_next HB3.out hb4)
        clear hTV hb4 HB3 HT3
        obtain ⟨rs, rfl, hlen, hnews, hrl, hrc⟩ := TabRd.rows HT4.out (by omega)
        go_wp2_with (at_builtin; refine wpList_strike (by rfl) ?_; refine wpList_append_own _ rfl _ _ 36 rfl w4.heap.size 29 ic _ 4 48 Try.underlying36 hci hcz0 hcz1 hcz2 rfl (by decide) _ _ _ rfl (World.ownsRow_made w4 #[] 0 (Nat.le_refl _) (Nat.zero_le _) (by simp)) ⟨g, o, none⟩ n c (flatT rs) rfl ?qc1 ?qc2 ?qc3 ?qc4 ?qc5 ?qc6 ?_)
        case qc1 => exact hlen
        case qc2 =>
          intro j u hj
          have := hnews j u hj
          rw [World.cell?_alloc_lt _ _ _ (World.block_lt_of_cell? w4 _ this)]
          exact this
        case qc3 => exact flatT_one rs
        case qc4 => simp only [maxLen]; omega
        case qc5 => omega
        case qc6 => simp
        intro v' w5 hown hgrow _
        obtain ⟨Av, cv, rfl⟩ : ∃ A' c', v' = .slice A' n c' := by
          rcases hown.2 with ⟨rfl, h0⟩ | ⟨g, cap, cur, rfl, _⟩
          · exact ⟨none, 0, by rw [h0]⟩
          · exact ⟨_, _, rfl⟩
        have hB5 : Below w4.heap.size w4 w5 := ((Below.refl _ w4).alloc (Nat.le_refl _) _).grown hgrow (by simp) (by intro x hx; simp [Value.ownBlock] at hx; omega)
        have ho5 := own_below hown (below_al (Below.refl _ w5) (.cells #[.int .i64 0, .int .i64 0, .int .i64 0, .slice none 0 0] 29))
        have hs5 := hB5.size
        have HB5 := Lib.hid hB5
        have HRC := Lib.hid hrc
        clear hown hgrow hnews hB5 hrc
        go_wp2_with (at_builtin; refine wpList_strike (by rfl) ?_; refine wpList_append_own _ rfl _ _ 36 rfl w4.heap.size 29 ic _ 4 48 Try.underlying36 hci hcz0 hcz1 hcz2 rfl (by decide) _ _ _ rfl ho5 ⟨w5.heap.size, 0, none⟩ 1 1 TR0.cells rfl ?pc1 ?pc2 ?pc3 ?pc4 ?pc5 ?pc6 ?_)
        case pc1 => rfl
        case pc2 =>
          intro k u hk
          rw [Go.WideShapes.add_plain, Nat.zero_add]
          exact ((CAt.new w5 29 [.int .i64 0, .int .i64 0, .int .i64 0, .slice none 0 0]).cell k).trans hk
        case pc3 => exact fun u hu => flatT_one [TR0] u (by simpa [flatT] using hu)
        case pc4 => simp only [maxLen]; omega
        case pc5 => omega
        case pc6 => simp; omega
        intro v2 w7 hown2 hgrow2 _
        obtain ⟨A7, c7, rfl⟩ : ∃ A' c', v2 = .slice A' (n + 1) c' := by
          rcases hown2.2 with ⟨rfl, h0⟩ | ⟨g, cap, cur, rfl, _⟩
          · exact ⟨none, 0, by rw [h0]⟩
          · exact ⟨_, _, rfl⟩
        have hB7 : Below w4.heap.size w4 w7 := (below_al HB5.out (.cells #[.int .i64 0, .int .i64 0, .int .i64 0, .slice none 0 0] 29)).grown hgrow2 (by simp; omega) (by intro x hx; have := (World.ownsRow.lt ho5 x hx).1; omega)
        have HBAD := Lib.hid (bad_list hown2 hrl fun i hi => ⟨(HRC.out i hi).1, (HRC.out i hi).2.1, (HRC.out i hi).2.2.below hB7⟩)
        have HB7 := Lib.hid (below_next HB4.out hB7)
        clear hown2 hgrow2 ho5 hB7
        go_wp2_with fail
        refine (impl_TablesValid A7 (n + 1) c7 _ w7 HBAD.out (by omega) (smallT_zero HS.out)).mono ?_
        rintro e w8 ⟨rfl, hb8⟩
        have HB8 := Lib.hid (below_next HB7.out hb8)
        clear hb8
        rw [tabsOk_bad]
        go_wp2_with fail
        refine (laws_alive _).mono ?_
        rintro e wz ⟨rfl, hbz⟩
        go_wp2_with fail
        go_ret
        exact ⟨rfl, below_next HB8.out hbz⟩

set_option maxRecDepth 100000 in
theorem lifted_FnTablesValid (os : Os) (started : os.Started) (H : Type) (enc : TypeId × Value → H) :
    ReturnsInHanded {} Try.checked os 9 .any (Rows.fnTablesValidSpec.pre6 enc Try.prog Try.f9 Rows.fnTablesValidRow.domain false) (Rows.fnTablesValidSpec.post enc Try.prog Try.f9 false true false false) := by
  refine returnsInHanded_of_change (C := Try.checked) row_own started (by kernel_rfl) Try.func9
    (ChangeSpec.witness6 (enc := enc) (C := Try.checked) false ⟨#[], #[.slice none 0 0], []⟩ 8 (by kernel_rfl) (by kernel_rfl) (by kernel_rfl) (by kernel_rfl)) ?_
  intro W base args ds gs before hval0 hW hcnd _
  have hval : ∀ (j : Nat) t v, Try.f9.params[j]? = some t → args[j]? = some v → Value.okWide Try.prog W .any base t v := hval0
  have hW' := hW
  obtain ⟨p, q, hA0, hV, rfl, hfz, hnd⟩ := hW
  have hA : DataW.TrodAll enc Try.prog W 0 (fun _ => true) true Try.f9.params.toList args.toList ds p := hA0
  rw [Try.params9] at hA hval
  obtain ⟨v0, vs0, d0, ds0, p0, q0, hargs, rfl, rfl, h0, r0⟩ := trodAll_cons hA
  obtain ⟨rfl, rfl, rfl⟩ := trodAll_nil r0
  obtain rfl : args = #[v0] := by cases args; simp_all
  obtain ⟨rfl, rfl⟩ := trodVars_none hV
  have k0 := h0
  have lt0 : ∀ x ∈ p0, x.block < W.heap.size := by obtain ⟨m, hm⟩ := k0; exact DataW.trod_lt m _ _ _ hm
  have w0 := open_bytes (hval 0 53 v0 rfl rfl) h0
  clear hA0 hval0
  refine (walk_FnTablesValid v0 W w0).mono fun e W' ⟨he, bel⟩ => ?_
  subst he
  exact ⟨_, rfl, _, _, _, [], _, [], hW', trodAll_mk1 (shut_bool Try.underlying4 _), (trodAll_cons_mk (Below.trod row_laidOut (by kernel_rfl) (of_decide_eq_true (by kernel_rfl)) k0 bel lt0) trodAll_mk0), rfl, bel.frame _, fun h => by cases h⟩

theorem over_FnTablesValid : Rows.fnTablesValidRow.holds Try.pinned (OpenSpec.ofChange Rows.fnTablesValidSpec) :=
  OpenClaim.holds_of_wide 9 Try.f9 rfl rfl rfl rfl rfl rfl rfl ⟨rfl, rfl, rfl, rfl, rfl⟩ rfl rfl rfl rfl rfl (by kernel_rfl) Try.func9 (by kernel_rfl)
    (of_decide_eq_true (by kernel_rfl)) (by unfold Func.isWrapper; first | (rw [if_pos (by decide +kernel)]; kernel_rfl) | (rw [if_neg (by decide +kernel)]; exact ⟨rfl, rfl⟩))
    (fun os started H enc _ => lifted_FnTablesValid os started H enc)

theorem FnTablesValid_holds : Rows.FnTablesValidSaid := over_FnTablesValid

end Go.Proofs.Ytdafogfpbpjmdaa
