/- The law FnExactRetypePiece: whatever its arguments, the call returns true, and every argument reads afterwards as it read before. No condition. -/
import Derived.Test.YtabjkjbclpokeaaRetype
namespace Go.Proofs.Ytabjkjbclpokeaa
open Go.ChangeShapes Go.WideShapes Go.ChangeAt Go.RowKit
open Go.ChangeMaps (open_string shut_string)
set_option linter.unusedVariables false

set_option maxHeartbeats 8000000 in
theorem walk_FnExactRetypePiece (v0 : Value) (a1 a2 : Int) (w : World) (w0 : PieceIn w v0) (w1 : (Lit.int .i64 a1).wf = true) (w2 : (Lit.int .i64 a2).wf = true) :
    Calls Try.prog 7 #[v0, .int .i64 a1, .int .i64 a2] w fun e w' => e = .returned (.bool true) ∧ Below w.heap.size w w' := by
  obtain ⟨s, b, u, rfl⟩ := w0
  obtain ⟨P0, P1, P2, xs, t, hl, hS, hI⟩ := retype_both s b u a1 a2
  obtain ⟨n, hn⟩ : ∃ n, xs.length = n := ⟨_, rfl⟩
  have HN := Lib.hid hn
  have hn40 : n ≤ 40 := by omega
  clear hn hl w1 w2
  go_enter Try.func7, Try.ntmps7
  go_wp2_with fail
  refine (laws_toPiece s b u _).mono ?_
  rintro e w1 ⟨rfl, hb1⟩
  have hA1 := (IAt.new w 23 [s, b, u]).belowSelf hb1
  have hB1 : Below w.heap.size w w1 := below_next (below_al (Below.refl _ w) _) hb1
  clear hb1
  go_wp2_with fail
  refine (hS _).mono ?_
  rintro e w2 ⟨A1, d1, rfl, hO2, hb2⟩
  rw [HN.out] at hO2 ⊢
  have hA2 := hA1.belowSelf hb2
  have hB2 := below_next hB1 hb2
  have hlt2 := hA2.lt
  clear hb2 hA1 hB1
  obtain ⟨c0, c1, c2⟩ := hA2.cells3
  have hA3 := hA2.alloc (.cells #[.int .i64 P0, .int .i64 P1, .int .i64 P2] 25)
  have hO3 := hO2.alloc (.cells #[.int .i64 P0, .int .i64 P1, .int .i64 P2] 25)
  have hX3 := IAt.new w2 25 [P0, P1, P2]
  have hB3 := below_al hB2 (.cells #[.int .i64 P0, .int .i64 P1, .int .i64 P2] 25)
  go_wp2_with fail
  clear c0 c1 c2 hA2 hO2 hB2 hS
  refine (laws_toPiece s b u _).mono ?_
  rintro e w4 ⟨rfl, hb4⟩
  have hA4 := hA3.belowSelf hb4
  have hO4 := hO3.below hb4
  have hX4 := hX3.belowSelf hb4
  have hB4 := below_next hB3 hb4
  clear hb4 hA3 hO3 hX3 hB3
  generalize w2.heap.size = p at *
  go_wp2_with fail
  refine (hI _).mono ?_
  rintro e w5 ⟨A2, d2, rfl, hQ5, hb5⟩
  rw [HN.out] at hQ5 ⊢
  have hA5 := IAt.alloc (hA4.belowSelf hb5) (.cells #[.int .i64 P0, .int .i64 P1, .int .i64 P2] 25)
  have hO5 := OwnI.alloc (hO4.below hb5) (.cells #[.int .i64 P0, .int .i64 P1, .int .i64 P2] 25)
  have hX5 := hX4.belowSelf hb5
  have hX6 := hX5.alloc (.cells #[.int .i64 P0, .int .i64 P1, .int .i64 P2] 25)
  have hQ6 := hQ5.alloc (.cells #[.int .i64 P0, .int .i64 P1, .int .i64 P2] 25)
  have hY6 := IAt.new w5 25 [P0, P1, P2]
  have hB6 := below_al (below_next hB4 hb5) (.cells #[.int .i64 P0, .int .i64 P1, .int .i64 P2] 25)
  have hs45 := hb5.size
  have hXq := hX4.lt
  have hAq := hA4.lt
  have hO4l := World.ownsRow.lt hO4
  have hltX := hX5.lt
  obtain ⟨c0, c1, c2⟩ := hX5.cells3
  go_wp2_with fail
  clear c0 c1 c2
  refine (laws_eqPiece P0 P1 P2 P0 P1 P2 _).mono ?_
  rintro e w7 ⟨rfl, hb7⟩
  rw [pieceEq_refl]
  have hA7 := hA5.belowSelf hb7
  have hO7 := hO5.below hb7
  have hX7 := hX6.belowSelf hb7
  have hQ7 := hQ6.below hb7
  have hY7 := hY6.belowSelf hb7
  have hB7 := below_next hB6 hb7
  clear hA4 hA5 hO4 hO5 hX4 hX5 hX6 hQ6 hY6 hB4 hB6 hb5 hb7 hltX
  have hQ5l := World.ownsRow.lt hQ5
  clear hQ5
  generalize w4.heap.size = q at *
  generalize w5.heap.size = r at *
  go_wp2_with fail
  refine (laws_eqIntS A2 A1 n d2 d1 q _ xs _ hQ7 hO7 (by omega)).mono ?_
  rintro e w8 ⟨rfl, hb8⟩
  have hA8 := hA7.belowSelf hb8
  have hO8 := hO7.below hb8
  have hX8 := hX7.belowSelf hb8
  have hQ8 := hQ7.below hb8
  have hY8 := hY7.belowSelf hb8
  have hB8 := below_next hB7 hb8
  clear hA7 hO7 hX7 hQ7 hY7 hB7 hb8
  have HT := Lib.hid hQ5l
  have HT4 := Lib.hid hO4l
  clear hQ5l hO4l
  cases t
  all_goals
    go_wp2_with fail
    refine (laws_markIntS A2 n d2 q xs 1 _ hQ8 (by omega) (by omega) (by omega)).mono ?_
    rintro e w9 ⟨rfl, hQ9, hg9⟩
    have hA9 : IAt w9 w.heap.size 23 [s, b, u] := (hg9.block _ hA8.lt (fun e => by have := (HT.out _ e.symm).1; omega)).trans hA8
    have hX9 : IAt w9 p 25 [P0, P1, P2] := (hg9.block _ hX8.lt (fun e => by have := (HT.out _ e.symm).1; omega)).trans hX8
    have hO9 : OwnI w9 _ A1 n d1 xs := World.ownsRow.kept hO8 hg9 (by
      cases hz : (Value.slice A1 n d1).ownBlock with
      | none => exact .inl rfl
      | some g =>
        refine .inr fun e => ?_
        have h1 := (HT4.out _ hz).2
        have h2 := (HT.out _ e.symm).1
        omega)
    have hB9 : Below w.heap.size w w9 := hB8.grown hg9 hB8.size (fun g e => by have := (HT.out g e).1; have := hA8.lt; omega)
    have hlt9 := hA9.lt
    have hm1 : 0 ≤ 1 + (n : Int) := by omega
    clear hA8 hX8 hO8 hQ8 hY8 hB8 hg9
    go_wp2_with fail
    refine (laws_heldIntS A2 n d2 q 1 _ hQ9 (by omega) (by omega) (by omega)).mono ?_
    rintro e w' ⟨rfl, rfl⟩
    obtain ⟨c0, c1, c2⟩ := hA9.cells3
    go_wp2_with fail
    refine (laws_toPiece s b u _).mono ?_
    rintro e w10 ⟨rfl, hb10⟩
    have hX10 := hX9.belowSelf hb10
    have hO10 := hO9.below hb10
    have hQ10 := hQ9.below hb10
    have hB10 := below_next hB9 hb10
    clear hA9 hX9 hO9 hQ9 hB9 hb10 c0 c1 c2 hlt9
    go_wp2_with fail
    refine (hI _).mono ?_
    rintro e w11 ⟨A3, d3, rfl, hR11, hb11⟩
    rw [HN.out] at hR11 ⊢
    have hX11 := hX10.belowSelf hb11
    have hO11 := OwnI.alloc (hO10.below hb11) (.cells #[.int .i64 P0, .int .i64 P1, .int .i64 P2] 25)
    have hQ11 := OwnI.alloc (hQ10.below hb11) (.cells #[.int .i64 P0, .int .i64 P1, .int .i64 P2] 25)
    have hR12 := hR11.alloc (.cells #[.int .i64 P0, .int .i64 P1, .int .i64 P2] 25)
    have hB11 := below_al (below_next hB10 hb11) (.cells #[.int .i64 P0, .int .i64 P1, .int .i64 P2] 25)
    have hlt11 := hX11.lt
    clear hX10 hO10 hQ10 hB10 hb11 hR11
    obtain ⟨c0, c1, c2⟩ := hX11.cells3
    go_wp2_with fail
    clear c0 c1 c2
    refine (laws_eqPiece P0 P1 P2 P0 P1 P2 _).mono ?_
    rintro e w12 ⟨rfl, hb12⟩
    rw [pieceEq_refl]
    have hO12 := hO11.below hb12
    have hQ12 := hQ11.below hb12
    have hR13 := hR12.below hb12
    have hB12 := below_next hB11 hb12
    clear hX11 hO11 hQ11 hR12 hB11 hb12 hlt11
    go_wp2_with fail
    refine (laws_eqIntS A3 A1 n d3 d1 _ _ xs _ hR13 hO12 (by omega)).mono ?_
    rintro e w13 ⟨rfl, hb13⟩
    have hQ13 := hQ12.below hb13
    have hB13 := below_next hB12 hb13
    clear hO12 hQ12 hR13 hB12 hb13
    go_wp2_with fail
    refine (laws_heldIntS A2 n d2 q 1 _ hQ13 (by omega) (by omega) (by omega)).mono ?_
    rintro e w' ⟨rfl, rfl⟩
    go_wp2_with fail
    go_ret
    exact ⟨rfl, hB13⟩

set_option maxRecDepth 100000 in
theorem lifted_FnExactRetypePiece (os : Os) (started : os.Started) (H : Type) (enc : TypeId × Value → H) :
    ReturnsInHanded {} Try.checked os 7 .any (Rows.fnExactRetypePieceSpec.pre6 enc Try.prog Try.f7 Rows.fnExactRetypePieceRow.domain false) (Rows.fnExactRetypePieceSpec.post enc Try.prog Try.f7 false true false false) := by
  refine returnsInHanded_of_change (C := Try.checked) row_own started (by kernel_rfl) Try.func7
    (ChangeSpec.witness6 (enc := enc) (C := Try.checked) false ⟨#[], #[.agg #[.int .i64 0, .int .i64 0, .int .i64 0], .int .i64 0, .int .i64 0], []⟩ 8 (by kernel_rfl) (by kernel_rfl) (by kernel_rfl) (by kernel_rfl)) ?_
  intro W base args ds gs before hval0 hW hcnd _
  have hval : ∀ (j : Nat) t v, Try.f7.params[j]? = some t → args[j]? = some v → Value.okWide Try.prog W .any base t v := hval0
  have hW' := hW
  obtain ⟨p, q, hA0, hV, rfl, hfz, hnd⟩ := hW
  have hA : DataW.TrodAll enc Try.prog W 0 (fun _ => true) true Try.f7.params.toList args.toList ds p := hA0
  rw [Try.params7] at hA hval
  obtain ⟨v0, vs0, d0, ds0, p0, q0, hargs, rfl, rfl, h0, r0⟩ := trodAll_cons hA
  obtain ⟨v1, vs1, d1, ds1, p1, q1, rfl, rfl, rfl, h1, r1⟩ := trodAll_cons r0
  obtain ⟨v2, vs2, d2, ds2, p2, q2, rfl, rfl, rfl, h2, r2⟩ := trodAll_cons r1
  obtain ⟨rfl, rfl, rfl⟩ := trodAll_nil r2
  obtain rfl : args = #[v0, v1, v2] := by cases args; simp_all
  obtain ⟨rfl, rfl⟩ := trodVars_none hV
  have k0 := h0
  have lt0 : ∀ x ∈ p0, x.block < W.heap.size := by obtain ⟨m, hm⟩ := k0; exact DataW.trod_lt m _ _ _ hm
  have w0 := open_piece (hval 0 23 v0 rfl rfl) h0
  obtain ⟨a1, rfl, rfl, rfl, w1⟩ := open_int Try.underlying3 (hval 1 3 v1 rfl rfl) h1
  obtain ⟨a2, rfl, rfl, rfl, w2⟩ := open_int Try.underlying3 (hval 2 3 v2 rfl rfl) h2
  clear hA0 hval0
  refine (walk_FnExactRetypePiece v0 a1 a2 W w0 w1 w2).mono fun e W' ⟨he, bel⟩ => ?_
  subst he
  exact ⟨_, rfl, _, _, _, [], _, [], hW', trodAll_mk1 (shut_bool Try.underlying4 _), (trodAll_cons_mk (Below.trod row_laidOut (by kernel_rfl) (of_decide_eq_true (by kernel_rfl)) k0 bel lt0) (trodAll_cons_mk (shut_int Try.underlying3 w1) (trodAll_cons_mk (shut_int Try.underlying3 w2) trodAll_mk0))), rfl, bel.frame _, fun h => by cases h⟩

theorem over_FnExactRetypePiece : Rows.fnExactRetypePieceRow.holds Try.pinned (OpenSpec.ofChange Rows.fnExactRetypePieceSpec) :=
  OpenClaim.holds_of_wide 7 Try.f7 rfl rfl rfl rfl rfl rfl rfl ⟨rfl, rfl, rfl, rfl, rfl⟩ rfl rfl rfl rfl rfl (by kernel_rfl) Try.func7 (by kernel_rfl)
    (of_decide_eq_true (by kernel_rfl)) (by unfold Func.isWrapper; first | (rw [if_pos (by decide +kernel)]; kernel_rfl) | (rw [if_neg (by decide +kernel)]; exact ⟨rfl, rfl⟩))
    (fun os started H enc _ => lifted_FnExactRetypePiece os started H enc)

theorem FnExactRetypePiece_holds : Rows.FnExactRetypePieceSaid := over_FnExactRetypePiece

end Go.Proofs.Ytabjkjbclpokeaa
