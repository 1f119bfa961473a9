/- The law FnExactSplitPiece: whatever its arguments, the call returns true, and every argument reads afterwards as it read before. No condition. -/
import Derived.Test.YtabjkjbclpokeaaPieceS
namespace Go.Proofs.Ytabjkjbclpokeaa
open Go.ChangeShapes Go.WideShapes Go.ChangeAt Go.RowKit
open Go.ChangeMaps (open_string shut_string)
set_option linter.unusedVariables false

set_option maxHeartbeats 4000000 in
theorem walk_FnExactSplitPiece (v0 : Value) (w : World) (w0 : PieceIn w v0) :
    Calls Try.prog 6 #[v0] w fun e w' => e = .returned (.bool true) ∧ Below w.heap.size w w' := by
  obtain ⟨s, b, u, rfl⟩ := w0
  have hS := fun W => spec_SplitPiece_is s b u W
  have hI := fun W => impl_SplitPiece_is s b u W
  unfold Split at hS hI
  generalize (if splitOk s b u then s else 0) = p0 at *
  generalize (if splitOk s b u then b - 1 else 0) = p1 at *
  generalize (if splitOk s b u then s + pw (b - 1) else 0) = q0 at *
  generalize splitOk s b u = t at *
  go_enter Try.func6, Try.ntmps6
  go_wp2_with fail
  refine (laws_toPiece s b u _).mono ?_
  rintro e w1 ⟨rfl, hb1⟩
  have hA1 := (IAt.new w 23 [s, b, u]).belowSelf hb1
  have hB1 : Below w.heap.size w w1 := below_next (below_al (Below.refl _ w) _) hb1
  clear hb1
  go_wp2_with fail
  refine (hS _).mono ?_
  rintro e w2 ⟨rfl, hb2⟩
  have hA2 := hA1.belowSelf hb2
  have hB2 := below_al (below_al (below_next hB1 hb2) (.cells #[.int .i64 p0, .int .i64 p1, .int .i64 0] 25)) (.cells #[.int .i64 q0, .int .i64 p1, .int .i64 0] 25)
  have hlt2 := hA2.lt
  have hP2 := IAt.alloc (IAt.new w2 25 [p0, p1, 0]) (.cells #[.int .i64 q0, .int .i64 p1, .int .i64 0] 25)
  have hQ2 := IAt.new (w2.alloc (.cells #[.int .i64 p0, .int .i64 p1, .int .i64 0] 25)) 25 [q0, p1, 0]
  rw [World.size_alloc] at hQ2
  clear hb2 hA1 hB1
  obtain ⟨c0, c1, c2⟩ := hA2.cells3
  go_wp2_with fail
  clear c0 c1 c2
  refine (laws_toPiece s b u _).mono ?_
  rintro e w3 ⟨rfl, hb3⟩
  have hB3 := below_next hB2 hb3
  have hP3 := hP2.belowSelf hb3
  have hQ3 := hQ2.belowSelf hb3
  clear hb3 hB2 hA2 hP2 hQ2 hlt2
  go_wp2_with fail
  refine (hI _).mono ?_
  rintro e w4 ⟨rfl, hb4⟩
  have hP4 := (hP3.belowSelf hb4)
  have hQ4 := (hQ3.belowSelf hb4)
  have hB4 := below_al (below_al (below_next hB3 hb4) (.cells #[.int .i64 p0, .int .i64 p1, .int .i64 0] 25)) (.cells #[.int .i64 q0, .int .i64 p1, .int .i64 0] 25)
  have hltP := hP4.lt
  have hltQ := hQ4.lt
  clear hP3 hQ3 hB3 hb4 hS hI
  generalize w2.heap.size = g at *
  obtain ⟨c0, c1, c2⟩ := hP4.cells3
  obtain ⟨d0, d1, d2⟩ := hQ4.cells3
  have hP5 := fun o => IAt.alloc (IAt.alloc hP4 (.cells #[.int .i64 p0, .int .i64 p1, .int .i64 0] 25)) o
  have hX5 := IAt.alloc (IAt.new w4 25 [p0, p1, 0]) (.cells #[.int .i64 q0, .int .i64 p1, .int .i64 0] 25)
  have hY5 := IAt.new (w4.alloc (.cells #[.int .i64 p0, .int .i64 p1, .int .i64 0] 25)) 25 [q0, p1, 0]
  have hQ5 := IAt.alloc (IAt.alloc hQ4 (.cells #[.int .i64 p0, .int .i64 p1, .int .i64 0] 25)) (.cells #[.int .i64 q0, .int .i64 p1, .int .i64 0] 25)
  rw [World.size_alloc] at hY5
  go_wp2_with fail
  clear c0 c1 c2 d0 d1 d2 hP4 hQ4 hP5
  refine (laws_eqPiece p0 p1 0 p0 p1 0 _).mono ?_
  rintro e w5 ⟨rfl, hb5⟩
  rw [pieceEq_refl]
  have hQ6 := hQ5.belowSelf hb5
  have hY6 := hY5.belowSelf hb5
  have hB6 := below_next hB4 hb5
  have hlt6 := hQ6.lt
  have hly6 := hY6.lt
  clear hQ5 hY5 hX5 hB4 hb5
  obtain ⟨c0, c1, c2⟩ := hQ6.cells3
  obtain ⟨d0, d1, d2⟩ := hY6.cells3
  go_wp2_with fail
  refine (laws_eqPiece q0 p1 0 q0 p1 0 _).mono ?_
  rintro e w6 ⟨rfl, hb6⟩
  rw [pieceEq_refl]
  have hB7 := below_next hB6 hb6
  cases t
  all_goals
    go_wp2_with fail
    go_ret
    exact ⟨rfl, hB7⟩

set_option maxRecDepth 100000 in
theorem lifted_FnExactSplitPiece (os : Os) (started : os.Started) (H : Type) (enc : TypeId × Value → H) :
    ReturnsInHanded {} Try.checked os 6 .any (Rows.fnExactSplitPieceSpec.pre6 enc Try.prog Try.f6 Rows.fnExactSplitPieceRow.domain false) (Rows.fnExactSplitPieceSpec.post enc Try.prog Try.f6 false true false false) := by
  refine returnsInHanded_of_change (C := Try.checked) row_own started (by kernel_rfl) Try.func6
    (ChangeSpec.witness6 (enc := enc) (C := Try.checked) false ⟨#[], #[.agg #[.int .i64 0, .int .i64 0, .int .i64 0]], []⟩ 8 (by kernel_rfl) (by kernel_rfl) (by kernel_rfl) (by kernel_rfl)) ?_
  intro W base args ds gs before hval0 hW hcnd _
  have hval : ∀ (j : Nat) t v, Try.f6.params[j]? = some t → args[j]? = some v → Value.okWide Try.prog W .any base t v := hval0
  have hW' := hW
  obtain ⟨p, q, hA0, hV, rfl, hfz, hnd⟩ := hW
  have hA : DataW.TrodAll enc Try.prog W 0 (fun _ => true) true Try.f6.params.toList args.toList ds p := hA0
  rw [Try.params6] at hA hval
  obtain ⟨v0, vs0, d0, ds0, p0, q0, hargs, rfl, rfl, h0, r0⟩ := trodAll_cons hA
  obtain ⟨rfl, rfl, rfl⟩ := trodAll_nil r0
  obtain rfl : args = #[v0] := by cases args; simp_all
  obtain ⟨rfl, rfl⟩ := trodVars_none hV
  have k0 := h0
  have lt0 : ∀ x ∈ p0, x.block < W.heap.size := by obtain ⟨m, hm⟩ := k0; exact DataW.trod_lt m _ _ _ hm
  have w0 := open_piece (hval 0 23 v0 rfl rfl) h0
  clear hA0 hval0
  refine (walk_FnExactSplitPiece v0 W w0).mono fun e W' ⟨he, bel⟩ => ?_
  subst he
  exact ⟨_, rfl, _, _, _, [], _, [], hW', trodAll_mk1 (shut_bool Try.underlying4 _), (trodAll_cons_mk (Below.trod row_laidOut (by kernel_rfl) (of_decide_eq_true (by kernel_rfl)) k0 bel lt0) trodAll_mk0), rfl, bel.frame _, fun h => by cases h⟩

theorem over_FnExactSplitPiece : Rows.fnExactSplitPieceRow.holds Try.pinned (OpenSpec.ofChange Rows.fnExactSplitPieceSpec) :=
  OpenClaim.holds_of_wide 6 Try.f6 rfl rfl rfl rfl rfl rfl rfl ⟨rfl, rfl, rfl, rfl, rfl⟩ rfl rfl rfl rfl rfl (by kernel_rfl) Try.func6 (by kernel_rfl)
    (of_decide_eq_true (by kernel_rfl)) (by unfold Func.isWrapper; first | (rw [if_pos (by decide +kernel)]; kernel_rfl) | (rw [if_neg (by decide +kernel)]; exact ⟨rfl, rfl⟩))
    (fun os started H enc _ => lifted_FnExactSplitPiece os started H enc)

theorem FnExactSplitPiece_holds : Rows.FnExactSplitPieceSaid := over_FnExactSplitPiece

end Go.Proofs.Ytabjkjbclpokeaa
