/- The law FnPieceHalves: whatever its arguments, the call returns true, and every argument reads afterwards as it read before. No condition. -/
import Derived.Test.YtabjkjbclpokeaaPieceS
import Derived.Test.YtabjkjbclpokeaaDrawPieceLaws
import Derived.Test.YtabjkjbclpokeaaTexts
namespace Go.Proofs.Ytabjkjbclpokeaa
open Go.ChangeShapes Go.WideShapes Go.ChangeAt Go.RowKit
open Go.ChangeMaps (open_string shut_string)
set_option linter.unusedVariables false

theorem kept_3_3_3 {B : Nat} {w0 w : World} {c0 c1 c2 : Nat} {T0 T1 T2 : TypeId} {x0_0 x0_1 x0_2 x1_0 x1_1 x1_2 x2_0 x2_1 x2_2 : Int} (h : Kept B w0 [(c0, T0, [x0_0, x0_1, x0_2]), (c1, T1, [x1_0, x1_1, x1_2]), (c2, T2, [x2_0, x2_1, x2_2])] w) : Kept B w0 [(c0, T0, [x0_0, x0_1, x0_2]), (c1, T1, [x1_0, x1_1, x1_2]), (c2, T2, [x2_0, x2_1, x2_2])] w ∧ w.cell? ⟨c0, 0, none⟩ = some (.int .i64 x0_0) ∧ w.cell? ⟨c0, 1, none⟩ = some (.int .i64 x0_1) ∧ w.cell? ⟨c0, 2, none⟩ = some (.int .i64 x0_2) ∧ w.cell? ⟨c1, 0, none⟩ = some (.int .i64 x1_0) ∧ w.cell? ⟨c1, 1, none⟩ = some (.int .i64 x1_1) ∧ w.cell? ⟨c1, 2, none⟩ = some (.int .i64 x1_2) ∧ w.cell? ⟨c2, 0, none⟩ = some (.int .i64 x2_0) ∧ w.cell? ⟨c2, 1, none⟩ = some (.int .i64 x2_1) ∧ w.cell? ⟨c2, 2, none⟩ = some (.int .i64 x2_2) :=
  ⟨h, h.cell 0 0 rfl rfl, h.cell 0 1 rfl rfl, h.cell 0 2 rfl rfl, h.cell 1 0 rfl rfl, h.cell 1 1 rfl rfl, h.cell 1 2 rfl rfl, h.cell 2 0 rfl rfl, h.cell 2 1 rfl rfl, h.cell 2 2 rfl rfl⟩

theorem split_valid {s b u : Int} (h : splitOk s b u = true) : pieceOk s (b - 1) 0 = true ∧ pieceOk (s + pw (b - 1)) (b - 1) 0 = true ∧ 1 ≤ b ∧ b ≤ 16 ∧ 0 ≤ s ∧ s + 2 * pw (b - 1) ≤ 65536 ∧ u = 0 := by
  simp only [splitOk, Bool.and_eq_true, Bool.not_eq_true', beq_eq_false_iff_ne, beq_iff_eq] at h
  obtain ⟨⟨h1, h2⟩, rfl⟩ := h
  obtain ⟨⟨b0, b1⟩, ⟨s0, s1⟩, hm, _⟩ := pieceOk_iff.1 h1
  have e : pw b = 2 * pw (b - 1) := by rw [← pw_succ (b := b - 1) (by omega)]; congr 1; omega
  have hp := pw_pos (b - 1)
  have hm1 : s % pw (b - 1) = 0 := mod_of_mod hm (by rw [e]; exact Int.mul_emod_left _ _)
  refine ⟨pieceOk_iff.2 ⟨by omega, by omega, hm1, by omega⟩, pieceOk_iff.2 ⟨by omega, by omega, ?_, by omega⟩, by omega, b1, s0, by omega, rfl⟩
  rw [Int.add_emod, hm1, Int.emod_self]
  rfl


theorem room_free {s b k : Int} (h : pieceOk s b 0 = true) (k0 : 0 ≤ k) (k1 : k ≤ 16) : roomB s b 0 k = pw b / pw k := by
  have hK := pw_pos k
  have hB := pw_pos b
  rw [roomB_iff, if_pos ⟨h, inB_iff.2 ⟨k0, k1⟩⟩]
  unfold roomOf
  rw [up_zero hK, Int.sub_zero, Int.max_eq_right (Int.ediv_nonneg (by omega) (by omega))]
theorem room_halves {s b u k : Int} (h : splitOk s b u = true) (k0 : 0 ≤ k) (k1 : k < b) :
    ∃ M : Int, (0 ≤ M ∧ M ≤ 65536) ∧ roomB s (b - 1) 0 k = M ∧ roomB (s + pw (b - 1)) (b - 1) 0 k = M ∧ roomB s b u k = M + M ∧ roomB s (b - 1) 0 b = 0 := by
  obtain ⟨v1, v2, b1, b2, s0, s1, rfl⟩ := split_valid h
  simp only [splitOk, Bool.and_eq_true] at h
  have hK := pw_pos k
  have hB := pw_pos (b - 1)
  have e : pw b = 2 * pw (b - 1) := by rw [← pw_succ (b := b - 1) (by omega)]; congr 1; omega
  have hd := pw_dvd k0 (show k ≤ b - 1 by omega)
  refine ⟨pw (b - 1) / pw k, ⟨Int.ediv_nonneg (by omega) (by omega), ?_⟩, room_free v1 k0 (by omega), room_free v2 k0 (by omega), ?_, ?_⟩
  · have := Int.ediv_le_self (pw k) (show 0 ≤ pw (b - 1) by omega)
    omega
  · rw [room_free h.1.1 k0 (by omega), e]
    have hx : pw (b - 1) = pw k * (pw (b - 1) / pw k) := (Int.mul_ediv_cancel' (Int.dvd_of_emod_eq_zero hd)).symm
    generalize pw (b - 1) / pw k = M at *
    rw [hx, show 2 * (pw k * M) = pw k * (M + M) by rw [Int.mul_add]; omega, Int.mul_ediv_cancel_left _ (by omega)]
  · rw [room_free v1 (by omega) b2, e, Int.ediv_eq_zero_of_lt (by omega) (by omega)]

set_option maxHeartbeats 8000000 in
theorem walk_FnPieceHalves (v0 v1 : Value) (w : World) (w0 : BytesIn w v0) (w1 : BytesIn w v1) :
    Calls Try.prog 11 #[v0, v1] w fun e w' => e = .returned (.bool true) ∧ Below w.heap.size w w' := by
  have hd := drawSplitPiece v0 w w0
  obtain ⟨A, n, cap, bs, rfl, hn, hc, _⟩ := w0
  obtain ⟨A', n', cap', bs', rfl, hn', hc', _⟩ := w1
  by_cases h20 : (1048576 : Int) < (n : Int)
  · go_enter Try.func11, Try.ntmps11
    go_wp2_with fail
    go_ret
    exact ⟨rfl, Below.refl _ _⟩
  by_cases h21 : (1048576 : Int) < (n' : Int)
  · go_enter Try.func11, Try.ntmps11
    go_wp2_with fail
    go_ret
    exact ⟨rfl, Below.refl _ _⟩
  · go_enter Try.func11, Try.ntmps11
    go_wp2_with fail
    refine hd.mono ?_
    rintro e w1 ⟨s, b, u, rfl, hb1⟩
    have hA1 := IAt.new w1 25 [s, b, u]
    have hB1 := below_al hb1 (.cells #[.int .i64 s, .int .i64 b, .int .i64 u] 25)
    have hS := fun W => spec_SplitPiece_is s b u W
    have hI := fun W => impl_SplitPiece_is s b u W
    unfold Split at hS hI
    clear hb1 hd
    go_wp2_with fail
    refine (hI _).mono ?_
    rintro e w2 ⟨rfl, hb2⟩
    have hA2 := hA1.belowSelf hb2
    have hB2 := below_next hB1 hb2
    have hlt2 := hA2.lt
    clear hA1 hB1 hb2 hI
    generalize w1.heap.size = p at *
    cases h : splitOk s b u
    all_goals
      rw [h] at hS
      simp only [if_true, if_false, Bool.false_eq_true] at hS ⊢
    · have hX := IAt.alloc (IAt.new w2 25 [0, 0, 0]) (.cells #[.int .i64 0, .int .i64 0, .int .i64 0] 25)
      have hY := IAt.new (w2.alloc (.cells #[.int .i64 0, .int .i64 0, .int .i64 0] 25)) 25 [0, 0, 0]
      rw [World.size_alloc] at hY
      have hB3 := below_al (below_al hB2 (.cells #[.int .i64 0, .int .i64 0, .int .i64 0] 25)) (.cells #[.int .i64 0, .int .i64 0, .int .i64 0] 25)
      obtain ⟨c0, c1, c2⟩ := hA2.cells3
      go_wp2_with fail
      refine (hS _).mono ?_
      rintro e w3 ⟨rfl, hb3⟩
      have hX3 := hX.belowSelf hb3
      have hY3 := hY.belowSelf hb3
      have hB4 := below_next hB3 hb3
      have hlx := hX3.lt
      have hly := hY3.lt
      clear c0 c1 c2 hX hY hB3 hb3 hA2 hS
      obtain ⟨c0, c1, c2⟩ := hX3.cells3
      obtain ⟨d0, d1, d2⟩ := hY3.cells3
      go_wp2_with fail
      refine (laws_alive _).mono ?_
      rintro e w4 ⟨rfl, hb4⟩
      go_wp2_with fail
      go_ret
      exact ⟨rfl, below_next (below_al (below_al hB4 _) _) hb4⟩
    · obtain ⟨v1, v2, b1, b2, s0, s1, hu⟩ := split_valid h
      have hk0 : 0 ≤ (n' : Int) % b := Int.emod_nonneg _ (by omega)
      have hk1 : (n' : Int) % b < b := Int.emod_lt_of_pos _ (by omega)
      obtain ⟨M, ⟨m0, m1⟩, e1, e2, e3, e4⟩ := room_halves h hk0 hk1
      have hM : IntKind.i64.wrap (M + M) = M + M := i64_id (by omega) (by omega)
      have hb0 : ¬ b = 0 := by omega
      have hn0 : (0 : Int) ≤ (n' : Int) := by omega
      clear h v1 v2 hu
      generalize pw (b - 1) = B at *
      have hP2 := IAt.alloc (IAt.alloc hA2 (.cells #[.int .i64 s, .int .i64 (b - 1), .int .i64 0] 25)) (.cells #[.int .i64 (s + B), .int .i64 (b - 1), .int .i64 0] 25)
      have hX := IAt.alloc (IAt.new w2 25 [s, b - 1, 0]) (.cells #[.int .i64 (s + B), .int .i64 (b - 1), .int .i64 0] 25)
      have hY := IAt.new (w2.alloc (.cells #[.int .i64 s, .int .i64 (b - 1), .int .i64 0] 25)) 25 [s + B, b - 1, 0]
      rw [World.size_alloc] at hY
      have hB3 := below_al (below_al hB2 (.cells #[.int .i64 s, .int .i64 (b - 1), .int .i64 0] 25)) (.cells #[.int .i64 (s + B), .int .i64 (b - 1), .int .i64 0] 25)
      obtain ⟨c0, c1, c2⟩ := hA2.cells3
      go_wp2_with fail
      refine (hS _).mono ?_
      rintro e w3 ⟨rfl, hb3⟩
      have hP3 := hP2.belowSelf hb3
      have hX3 := hX.belowSelf hb3
      have hY3 := hY.belowSelf hb3
      have hB4 := below_next hB3 hb3
      have hlx := hX3.lt
      have hly := hY3.lt
      clear c0 c1 c2 hX hY hB3 hb3 hA2 hS hP2
      have hP4 := IAt.alloc (IAt.alloc hP3 (.cells #[.int .i64 s, .int .i64 (b - 1), .int .i64 0] 25)) (.cells #[.int .i64 (s + B), .int .i64 (b - 1), .int .i64 0] 25)
      have hX4 := IAt.alloc (IAt.alloc hX3 (.cells #[.int .i64 s, .int .i64 (b - 1), .int .i64 0] 25)) (.cells #[.int .i64 (s + B), .int .i64 (b - 1), .int .i64 0] 25)
      have hY4 := IAt.alloc (IAt.alloc hY3 (.cells #[.int .i64 s, .int .i64 (b - 1), .int .i64 0] 25)) (.cells #[.int .i64 (s + B), .int .i64 (b - 1), .int .i64 0] 25)
      have hB5 := below_al (below_al hB4 (.cells #[.int .i64 s, .int .i64 (b - 1), .int .i64 0] 25)) (.cells #[.int .i64 (s + B), .int .i64 (b - 1), .int .i64 0] 25)
      have hS0 : Kept w.heap.size w [(p, 25, [s, b, u]), (w2.heap.size, 25, [s, b - 1, 0]), (w2.heap.size + 1, 25, [s + B, b - 1, 0])] _ := Kept.cons hP4 (Kept.cons hX4 (Kept.cons hY4 (Kept.nil hB5 hB5.size)))
      have hlp := hP3.lt
      generalize w2.heap.size = q at *
      obtain ⟨a0, a1, a2⟩ := hP3.cells3
      obtain ⟨c0, c1, c2⟩ := hX3.cells3
      obtain ⟨d0, d1, d2⟩ := hY3.cells3
      clear hP3 hX3 hY3 hB4 hP4 hX4 hY4 hB5
      go_wp2_with fail
      generalize (w3.alloc (.cells #[.int .i64 s, .int .i64 (b - 1), .int .i64 0] 25)).alloc (.cells #[.int .i64 (s + B), .int .i64 (b - 1), .int .i64 0] 25) = W at *
      clear a0 a1 a2 c0 c1 c2 d0 d1 d2 hlx hly hlp
      generalize hHB : w.heap.size = Z at *
      have HB := Lib.hid hHB
      clear hHB
      generalize (n' : Int) % b = k at *
      go_region_held3 (fun w' => Kept Z w [(p, 25, [s, b, u]), (q, 25, [s, b - 1, 0]), ((q + 1), 25, [s + B, b - 1, 0])] w' ∧ w'.cell? ⟨p, 0, none⟩ = some (.int .i64 s) ∧ w'.cell? ⟨p, 1, none⟩ = some (.int .i64 b) ∧ w'.cell? ⟨p, 2, none⟩ = some (.int .i64 u) ∧ w'.cell? ⟨q, 0, none⟩ = some (.int .i64 s) ∧ w'.cell? ⟨q, 1, none⟩ = some (.int .i64 (b - 1)) ∧ w'.cell? ⟨q, 2, none⟩ = some (.int .i64 0) ∧ w'.cell? ⟨(q + 1), 0, none⟩ = some (.int .i64 (s + B)) ∧ w'.cell? ⟨(q + 1), 1, none⟩ = some (.int .i64 (b - 1)) ∧ w'.cell? ⟨(q + 1), 2, none⟩ = some (.int .i64 0))
        (first | exact kept_3_3_3 (Kept.drew hS0) | exact kept_3_3_3 (Kept.step (by assumption) (by assumption)) | exact kept_3_3_3 (Kept.same (by assumption)))
        (first | (go_at_call 21; refine (impl_PieceRoom _ _ _ _ _).mono ?_; rintro e w9 ⟨rfl, hb9⟩))
      have hS2 : Kept Z w [(p, 25, [s, b, u]), (q, 25, [s, b - 1, 0]), ((q + 1), 25, [s + B, b - 1, 0])] w9 := And.left (by assumption)
      go_wp2_with fail
      go_ret
      exact ⟨rfl, HB.out ▸ hS2.2.1⟩

set_option maxRecDepth 100000 in
theorem lifted_FnPieceHalves (os : Os) (started : os.Started) (H : Type) (enc : TypeId × Value → H) :
    ReturnsInHanded {} Try.checked os 11 .any (Rows.fnPieceHalvesSpec.pre6 enc Try.prog Try.f11 Rows.fnPieceHalvesRow.domain false) (Rows.fnPieceHalvesSpec.post enc Try.prog Try.f11 false true false false) := by
  refine returnsInHanded_of_change (C := Try.checked) row_own started (by kernel_rfl) Try.func11
    (ChangeSpec.witness6 (enc := enc) (C := Try.checked) false ⟨#[], #[.slice none 0 0, .slice none 0 0], []⟩ 8 (by kernel_rfl) (by kernel_rfl) (by kernel_rfl) (by kernel_rfl)) ?_
  intro W base args ds gs before hval0 hW hcnd _
  have hval : ∀ (j : Nat) t v, Try.f11.params[j]? = some t → args[j]? = some v → Value.okWide Try.prog W .any base t v := hval0
  have hW' := hW
  obtain ⟨p, q, hA0, hV, rfl, hfz, hnd⟩ := hW
  have hA : DataW.TrodAll enc Try.prog W 0 (fun _ => true) true Try.f11.params.toList args.toList ds p := hA0
  rw [Try.params11] at hA hval
  obtain ⟨v0, vs0, d0, ds0, p0, q0, hargs, rfl, rfl, h0, r0⟩ := trodAll_cons hA
  obtain ⟨v1, vs1, d1, ds1, p1, q1, rfl, rfl, rfl, h1, r1⟩ := trodAll_cons r0
  obtain ⟨rfl, rfl, rfl⟩ := trodAll_nil r1
  obtain rfl : args = #[v0, v1] := by cases args; simp_all
  obtain ⟨rfl, rfl⟩ := trodVars_none hV
  have k0 := h0
  have lt0 : ∀ x ∈ p0, x.block < W.heap.size := by obtain ⟨m, hm⟩ := k0; exact DataW.trod_lt m _ _ _ hm
  have w0 := open_bytes (hval 0 41 v0 rfl rfl) h0
  have k1 := h1
  have lt1 : ∀ x ∈ p1, x.block < W.heap.size := by obtain ⟨m, hm⟩ := k1; exact DataW.trod_lt m _ _ _ hm
  have w1 := open_bytes (hval 1 41 v1 rfl rfl) h1
  clear hA0 hval0
  refine (walk_FnPieceHalves v0 v1 W w0 w1).mono fun e W' ⟨he, bel⟩ => ?_
  subst he
  exact ⟨_, rfl, _, _, _, [], _, [], hW', trodAll_mk1 (shut_bool Try.underlying4 _), (trodAll_cons_mk (Below.trod row_laidOut (by kernel_rfl) (of_decide_eq_true (by kernel_rfl)) k0 bel lt0) (trodAll_cons_mk (Below.trod row_laidOut (by kernel_rfl) (of_decide_eq_true (by kernel_rfl)) k1 bel lt1) trodAll_mk0)), rfl, bel.frame _, fun h => by cases h⟩

theorem over_FnPieceHalves : Rows.fnPieceHalvesRow.holds Try.pinned (OpenSpec.ofChange Rows.fnPieceHalvesSpec) :=
  OpenClaim.holds_of_wide 11 Try.f11 rfl rfl rfl rfl rfl rfl rfl ⟨rfl, rfl, rfl, rfl, rfl⟩ rfl rfl rfl rfl rfl (by kernel_rfl) Try.func11 (by kernel_rfl)
    (of_decide_eq_true (by kernel_rfl)) (by unfold Func.isWrapper; first | (rw [if_pos (by decide +kernel)]; kernel_rfl) | (rw [if_neg (by decide +kernel)]; exact ⟨rfl, rfl⟩))
    (fun os started H enc _ => lifted_FnPieceHalves os started H enc)

theorem FnPieceHalves_holds : Rows.FnPieceHalvesSaid := over_FnPieceHalves

end Go.Proofs.Ytabjkjbclpokeaa
