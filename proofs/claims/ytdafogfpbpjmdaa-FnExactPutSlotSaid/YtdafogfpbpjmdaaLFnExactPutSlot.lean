/- The law FnExactPutSlot: whatever its arguments, the call returns true, and every argument reads afterwards as it read before. No condition. -/
import Derived.Test.YtdafogfpbpjmdaaTabL
namespace Go.Proofs.Ytdafogfpbpjmdaa
open Go.ChangeShapes Go.WideShapes Go.ChangeAt Go.RowKit
open Go.ChangeMaps (open_string shut_string)
set_option linter.unusedVariables false

set_option maxRecDepth 8000 in
set_option maxHeartbeats 8000000 in
theorem walk_FnExactPutSlot (v0 : Value) (a1 : Int) (a2 : Int) (v3 : Value) (w : World) (w0 : TablesIn w v0) (w1 : (Lit.int .i64 a1).wf = true) (w2 : (Lit.int .i64 a2).wf = true) (w3 : CapIn w v3) :
    Calls Try.prog 7 #[v0, .int .i64 a1, .int .i64 a2, v3] w fun e w' => e = .returned (.bool true) ∧ Below w.heap.size w w' := by
  obtain ⟨A, n, c, ts, rfl, hnc, hcm, hR⟩ := w0
  obtain ⟨x, y, u, v, rfl⟩ := w3
  have hB0 := below_al (Below.refl _ w) (.cells #[.int .i64 x, .int .i64 y, .int .i64 u, .int .i64 v] 48)
  have hX0 := CAt.new w 48 [.int .i64 x, .int .i64 y, .int .i64 u, .int .i64 v]
  have hsz := laws_szTableS A n c ts 1048576 _ (hR.below hB0) (by omega) (by omega) (by omega)
  have HR := Lib.hid hR
  clear hnc hcm hR
  go_enter Try.func7, Try.ntmps7
  go_wp2_with fail
  refine hsz.mono ?_
  rintro e w1 ⟨⟨r, rfl, -, hr⟩, hb1⟩
  have hB1 := below_next hB0 hb1
  have hX1 := hX0.below hb1
  clear hsz hB0 hX0 hb1
  by_cases hneg : r < 0
  · go_wp2_with fail
    go_ret
    exact ⟨rfl, hB1⟩
  · obtain ⟨hn1, hs1⟩ := hr (by omega)
    have hn2 : n ≤ 2000000 := by omega
    have hs2 : SmallT ts := smallT_of HR.out.1 hs1
    clear hr hs1
    have hT := fun W (h : Below w.heap.size w W) => laws_toTableS A n c ts W (HR.out.below h) hn2 hs2
    have hTR := fun W (h : Below w.heap.size w W) => laws_toTableR A n c ts W (HR.out.below h) hn2 hs2
    have hC := fun W => laws_toCap x y u v W
    have hSV := fun A q W (h : TabRd W A n ts) => spec_PutSlot A n q ts a1 a2 x y u v W h hn2 hs2
    have hIV := fun A q W (h : TabRd W A n ts) => impl_PutSlot A n q ts a1 a2 x y u v W h hn2 hs2
    have hLl : (putL ts a1 a2 ⟨x, y, u, v⟩).length ≤ 1048576 := by have := putL_le (ts := ts) (i := a1) (s := a2) (x := ⟨x, y, u, v⟩); have := HR.out.1; omega
    have hLs : SmallT (putL ts a1 a2 ⟨x, y, u, v⟩) := putL_small hs2
    generalize putL ts a1 a2 ⟨x, y, u, v⟩ = L at *
    have hEQ := fun A q A' q' W (h : TabRd W A n ts) (h' : TabRd W A' n ts) => laws_eqTableS A A' n q q' ts W h h' hn2 hs2
    have hEL := fun A q A' q' W (h : TabRd W A L.length L) (h' : TabRd W A' L.length L) => laws_eqTableS A A' L.length q q' L W h h' (by omega) hLs
    have HS2 := Lib.hid hs2
    have HLS := Lib.hid hLs
    obtain ⟨x0, x1, x2, x3⟩ := hX1.cells4
    have HX1 := Lib.hid hX1
    have HB1 := Lib.hid hB1
    clear hs2 hLs hX1 hB1
    go_wp2_with fail
    go_cut [10] from 22 to 28 (fun sv wc => ∃ (S : Option Addr) (s : Nat), sv = .slice S L.length s ∧ TabRd wc S L.length L ∧ Below w1.heap.size w1 wc)
    case first =>
      go_region_with (first
        | (go_at_call 22; refine (hTR _ ?_).mono ?_; (first | exact HB1.out.drew | exact below_next HB1.out.drew hb3); rintro e w2 ⟨⟨A2, q2, rfl, hO2⟩, hb2⟩; (try obtain ⟨z0, z1, z2, z3⟩ := (CAt.below (w := w1.drew) HX1.out hb2).cells4))
        | (go_at_call 31; refine (hC _).mono ?_; rintro e w3 ⟨rfl, hb3⟩)
        | (go_at_call 30; refine (hSV A2 q2 _ ?_).mono ?_; (first | exact hO2 | exact hO2.below hb3); rintro e w4 ⟨⟨S, s, rsS, rfl, hS, hSt⟩, hb4⟩))
      all_goals (try go_wp2_with fail)
      all_goals go_meet
      all_goals exact ⟨S, s, rfl, hSt ▸ hS.rd, by first | exact below_next (below_next (below_next (Below.refl _ w1).drew hb2) hb3) hb4 | exact below_next (below_next (below_next (Below.refl _ w1).drew hb3) hb2) hb4⟩
    case rest =>
      obtain ⟨S, s, rfl, hS2, hb2⟩ := hcut
      obtain ⟨W2, hW2⟩ : ∃ W, W = wc := ⟨_, rfl⟩
      subst hW2
      have hB2 := below_next HB1.out hb2
      have hX2 := HX1.out.below hb2
      have hz02 := hB2.size
      clear x0 x1 x2 x3 hSV HX1 HB1 hb2
      go_wp2_with fail
      refine (hT _ hB2).mono ?_
      rintro e w3 ⟨⟨A3, c3, rs3, rfl, hO3, ht3⟩, hb3⟩
      have hZ3 : Below W2.heap.size W2 w3 := hb3
      have hB3 := below_next hB2 hb3
      have hLT3 := hO3.rowsLt
      have hz23 := hb3.size
      obtain ⟨x0, x1, x2, x3⟩ := (hX2.below hZ3).cells4
      have hr3 := smallR_of ht3 HS2.out
      have hn3 := numT_bounds hr3 n
      have hmk3 := fun W (h : TabO W W2.heap.size A3 n c3 rs3) => laws_markTableS A3 n c3 W2.heap.size w3.heap.size rs3 1 W h hLT3 hr3 hn2 (by omega) (by omega)
      generalize numT rs3 n = N3 at *
      clear hb3 hLT3 hr3
      go_wp2_with fail
      refine (hC _).mono ?_
      rintro e w4 ⟨rfl, hb4⟩
      clear x0 x1 x2 x3
      go_wp2_with fail
      refine (hIV A3 c3 _ ((ht3 ▸ hO3.rd : TabRd w3 A3 n ts).below hb4)).mono ?_
      rintro e w5 ⟨⟨G, g, rsG, rfl, hG, htG⟩, hb5⟩
      have hb35 := below_next hb4 hb5
      have hG5 := hG.more (base' := w3.heap.size) hb4.size
      have hB5 := below_next hB3 hb35
      have hZ5 := below_next hZ3 hb35
      have hO5 := hO3.below hb35
      have hrG := smallR_of htG HLS.out
      have hnG := numT_bounds hrG L.length
      have hmkG := fun W (h : TabO W w3.heap.size G L.length g rsG) => laws_markTableS G L.length g w3.heap.size W.heap.size rsG 1 W h h.rowsLt hrG (by omega) (by omega) (by omega)
      have hhdG := fun W (h : TabO W w3.heap.size G L.length g (marksT 1 rsG)) => laws_heldTableS G L.length g w3.heap.size rsG 1 W h hrG (by omega) (by omega) (by omega)
      generalize numT rsG L.length = NG at *
      clear hb4 hb5 hb35 hG hB3 hZ3 hO3 hrG
      go_wp2_with fail
      refine (hEL G g S s _ (htG ▸ hG5.rd) (hS2.below hZ5)).mono ?_
      rintro e w6 ⟨rfl, hb6⟩
      have hG6 := hG5.below hb6
      have hO6 := hO5.below hb6
      have hZ6 := below_next hZ5 hb6
      have hB6 := below_next hB5 hb6
      clear hb6 hG5 hO5 hZ5 hB5
      go_wp2_with fail
      refine (hTR _ hB6).mono ?_
      rintro e w7 ⟨⟨A7, q7, rfl, hR7⟩, hb7⟩
      have hG7 := hG6.below hb7
      have hO7 := hO6.below hb7
      have hZ7 := below_next hZ6 hb7
      have hB7 := below_next hB6 hb7
      clear hb7 hG6 hO6 hZ6 hB6
      go_wp2_with fail
      refine (hEQ A3 c3 A7 q7 _ (ht3 ▸ hO7.rd) hR7).mono ?_
      rintro e w8 ⟨rfl, hb8⟩
      have hG8 := hG7.below hb8
      have hO8 := hO7.below hb8
      have hZ8 := below_next hZ7 hb8
      have hB8 := below_next hB7 hb8
      clear hb8 hG7 hO7 hZ7 hB7 hR7
      go_wp2_with fail
      refine (hmk3 _ hO8).mono ?_
      rintro e w9 ⟨rfl, -, hI9⟩
      have hG9 := hI9.tabs hG8 (Nat.le_refl _)
      have hZ9 := hI9.below hZ8 (Nat.le_refl _)
      have hB9 := hI9.below hB8 hz02
      have hk3 : ¬ 1 + N3 < 0 := by omega
      have hk3' : decide (1 + N3 < 0) = false := decide_eq_false hk3
      clear hI9 hG8 hZ8 hB8 hO8 hmk3
      go_wp2_with fail
      refine (hEL G g S s _ (htG ▸ hG9.rd) (hS2.below hZ9)).mono ?_
      rintro e w10 ⟨rfl, hb10⟩
      have hG10 := hG9.below hb10
      have hZ10 := below_next hZ9 hb10
      have hB10 := below_next hB9 hb10
      clear hb10 hG9 hZ9 hB9
      go_wp2_with fail
      refine (hmkG _ hG10).mono ?_
      rintro e w11 ⟨rfl, hM11, hI11⟩
      have hZ11 := hI11.below hZ10 hz23
      have hB11 := hI11.below hB10 (Nat.le_trans hz02 hz23)
      clear hI11 hG10 hZ10 hB10 hmkG
      go_wp2_with fail
      refine (hhdG _ hM11).mono ?_
      rintro e w12 ⟨rfl, rfl⟩
      have hkG : ¬ 1 + NG < 0 := by omega
      obtain ⟨x0, x1, x2, x3⟩ := (hX2.below hZ11).cells4
      have HX11 := Lib.hid (hX2.below hZ11)
      have HB11 := Lib.hid hB11
      clear hB11
      go_wp2_with fail
      go_cut [16] from 68 to 74 (fun gv wx => ∃ (G2 : Option Addr) (g2 : Nat), gv = .slice G2 L.length g2 ∧ TabRd wx G2 L.length L ∧ Below w11.heap.size w11 wx)
      case first =>
        go_region_with (first
          | (go_at_call 22; refine (hTR _ ?_).mono ?_; (first | exact HB11.out.drew | exact below_next HB11.out.drew hb3); rintro e w2 ⟨⟨A2, q2, rfl, hO2⟩, hb2⟩; (try obtain ⟨z0, z1, z2, z3⟩ := (CAt.below (w := w11.drew) HX11.out hb2).cells4))
          | (go_at_call 31; refine (hC _).mono ?_; rintro e w3 ⟨rfl, hb3⟩)
          | (go_at_call 32; refine (hIV A2 q2 _ ?_).mono ?_; (first | exact hO2 | exact hO2.below hb3); rintro e w4 ⟨⟨S9, s9, rsS, rfl, hS, hSt⟩, hb4⟩))
        all_goals (try go_wp2_with fail)
        all_goals go_meet
        all_goals exact ⟨S9, s9, rfl, hSt ▸ hS.rd, by first | exact below_next (below_next (below_next (Below.refl _ w11).drew hb2) hb3) hb4 | exact below_next (below_next (below_next (Below.refl _ w11).drew hb3) hb2) hb4⟩
      case rest =>
        obtain ⟨G2, g2, rfl, hG2, hb12⟩ := hcut
        have hM12 := hM11.below hb12
        have hZ12 := below_next hZ11 hb12
        have hB12 := below_next HB11.out hb12
        clear hb12 hM11 hZ11 x0 x1 x2 x3
        go_wp2_with fail
        refine (hEL G2 g2 S s _ hG2 (hS2.below hZ12)).mono ?_
        rintro e w13 ⟨rfl, hb13⟩
        have hM13 := hM12.below hb13
        have hB13 := below_next hB12 hb13
        clear hb13 hM12 hZ12 hB12
        go_wp2_with fail
        refine (hhdG _ hM13).mono ?_
        rintro e w14 ⟨rfl, rfl⟩
        go_wp2_with fail
        go_ret
        exact ⟨rfl, hB13⟩

set_option maxRecDepth 100000 in
theorem lifted_FnExactPutSlot (os : Os) (started : os.Started) (H : Type) (enc : TypeId × Value → H) :
    ReturnsInHanded {} Try.checked os 7 .any (Rows.fnExactPutSlotSpec.pre6 enc Try.prog Try.f7 Rows.fnExactPutSlotRow.domain false) (Rows.fnExactPutSlotSpec.post enc Try.prog Try.f7 false true false false) := by
  refine returnsInHanded_of_change (C := Try.checked) row_own started (by kernel_rfl) Try.func7
    (ChangeSpec.witness6 (enc := enc) (C := Try.checked) false ⟨#[], #[.slice none 0 0, .int .i64 0, .int .i64 0, .agg #[.int .i64 0, .int .i64 0, .int .i64 0, .int .i64 0]], []⟩ 8 (by kernel_rfl) (by kernel_rfl) (by kernel_rfl) (by kernel_rfl)) ?_
  intro W base args ds gs before hval0 hW hcnd _
  have hval : ∀ (j : Nat) t v, Try.f7.params[j]? = some t → args[j]? = some v → Value.okWide Try.prog W .any base t v := hval0
  have hW' := hW
  obtain ⟨p, q, hA0, hV, rfl, hfz, hnd⟩ := hW
  have hA : DataW.TrodAll enc Try.prog W 0 (fun _ => true) true Try.f7.params.toList args.toList ds p := hA0
  rw [Try.params7] at hA hval
  obtain ⟨v0, vs0, d0, ds0, p0, q0, hargs, rfl, rfl, h0, r0⟩ := trodAll_cons hA
  obtain ⟨v1, vs1, d1, ds1, p1, q1, rfl, rfl, rfl, h1, r1⟩ := trodAll_cons r0
  obtain ⟨v2, vs2, d2, ds2, p2, q2, rfl, rfl, rfl, h2, r2⟩ := trodAll_cons r1
  obtain ⟨v3, vs3, d3, ds3, p3, q3, rfl, rfl, rfl, h3, r3⟩ := trodAll_cons r2
  obtain ⟨rfl, rfl, rfl⟩ := trodAll_nil r3
  obtain rfl : args = #[v0, v1, v2, v3] := by cases args; simp_all
  obtain ⟨rfl, rfl⟩ := trodVars_none hV
  have k0 := h0
  have lt0 : ∀ x ∈ p0, x.block < W.heap.size := by obtain ⟨m, hm⟩ := k0; exact DataW.trod_lt m _ _ _ hm
  have w0 := open_tables (hval 0 33 v0 rfl rfl) h0
  obtain ⟨a1, rfl, rfl, rfl, w1⟩ := open_int Try.underlying3 (hval 1 3 v1 rfl rfl) h1
  obtain ⟨a2, rfl, rfl, rfl, w2⟩ := open_int Try.underlying3 (hval 2 3 v2 rfl rfl) h2
  have k3 := h3
  have lt3 : ∀ x ∈ p3, x.block < W.heap.size := by obtain ⟨m, hm⟩ := k3; exact DataW.trod_lt m _ _ _ hm
  have w3 := open_cap (hval 3 48 v3 rfl rfl) h3
  clear hA0 hval0
  refine (walk_FnExactPutSlot v0 a1 a2 v3 W w0 w1 w2 w3).mono fun e W' ⟨he, bel⟩ => ?_
  subst he
  exact ⟨_, rfl, _, _, _, [], _, [], hW', trodAll_mk1 (shut_bool Try.underlying4 _), (trodAll_cons_mk (Below.trod row_laidOut (by kernel_rfl) (of_decide_eq_true (by kernel_rfl)) k0 bel lt0) (trodAll_cons_mk (shut_int Try.underlying3 w1) (trodAll_cons_mk (shut_int Try.underlying3 w2) (trodAll_cons_mk (Below.trod row_laidOut (by kernel_rfl) (of_decide_eq_true (by kernel_rfl)) k3 bel lt3) trodAll_mk0)))), rfl, bel.frame _, fun h => by cases h⟩

theorem over_FnExactPutSlot : Rows.fnExactPutSlotRow.holds Try.pinned (OpenSpec.ofChange Rows.fnExactPutSlotSpec) :=
  OpenClaim.holds_of_wide 7 Try.f7 rfl rfl rfl rfl rfl rfl rfl ⟨rfl, rfl, rfl, rfl, rfl⟩ rfl rfl rfl rfl rfl (by kernel_rfl) Try.func7 (by kernel_rfl)
    (of_decide_eq_true (by kernel_rfl)) (by unfold Func.isWrapper; first | (rw [if_pos (by decide +kernel)]; kernel_rfl) | (rw [if_neg (by decide +kernel)]; exact ⟨rfl, rfl⟩))
    (fun os started H enc _ => lifted_FnExactPutSlot os started H enc)

theorem FnExactPutSlot_holds : Rows.FnExactPutSlotSaid := over_FnExactPutSlot

end Go.Proofs.Ytdafogfpbpjmdaa
