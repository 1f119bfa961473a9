/- The law FnExactPieceValid: whatever its arguments, the call returns true, and every argument reads afterwards as it read before. No condition. -/
import Derived.Test.YtabjkjbclpokeaaPieceR
namespace Go.Proofs.Ytabjkjbclpokeaa
open Go.ChangeShapes Go.WideShapes Go.ChangeAt Go.RowKit
open Go.ChangeMaps (open_string shut_string)
set_option linter.unusedVariables false

set_option maxHeartbeats 1000000 in
theorem walk_FnExactPieceValid (v0 : Value) (w : World) (w0 : PieceIn w v0) :
    Calls Try.prog 3 #[v0] w fun e w' => e = .returned (.bool true) ∧ Below w.heap.size w w' := by
  obtain ⟨s, b, u, rfl⟩ := w0
  go_enter Try.func3, Try.ntmps3
  go_wp2_with fail
  refine (laws_toPiece s b u _).mono ?_
  rintro e w1 ⟨rfl, hb1⟩
  have hA1 := (IAt.new w 23 [s, b, u]).belowSelf hb1
  have hB1 : Below w.heap.size w w1 := below_next (below_al (Below.refl _ w) _) hb1
  clear hb1
  go_wp2_with fail
  refine (spec_PieceValid s b u _).mono ?_
  rintro e w2 ⟨rfl, hb2⟩
  have hA2 := hA1.belowSelf hb2
  have hB2 := below_next hB1 hb2
  clear hb2 hA1 hB1
  obtain ⟨c0, c1, c2⟩ := hA2.cells3
  go_wp2_with fail
  refine (laws_toPiece s b u _).mono ?_
  rintro e w3 ⟨rfl, hb3⟩
  have hB3 := below_next hB2 hb3
  clear hb3 hB2 hA2 c0 c1 c2
  go_wp2_with fail
  refine (impl_PieceValid s b u _).mono ?_
  rintro e w4 ⟨rfl, hb4⟩
  have hB4 := below_next hB3 hb4
  go_wp2_with fail
  go_ret
  exact ⟨rfl, hB4⟩

set_option maxRecDepth 100000 in
theorem lifted_FnExactPieceValid (os : Os) (started : os.Started) (H : Type) (enc : TypeId × Value → H) :
    ReturnsInHanded {} Try.checked os 3 .any (Rows.fnExactPieceValidSpec.pre6 enc Try.prog Try.f3 Rows.fnExactPieceValidRow.domain false) (Rows.fnExactPieceValidSpec.post enc Try.prog Try.f3 false true false false) := by
  refine returnsInHanded_of_change (C := Try.checked) row_own started (by kernel_rfl) Try.func3
    (ChangeSpec.witness6 (enc := enc) (C := Try.checked) false ⟨#[], #[.agg #[.int .i64 0, .int .i64 0, .int .i64 0]], []⟩ 8 (by kernel_rfl) (by kernel_rfl) (by kernel_rfl) (by kernel_rfl)) ?_
  intro W base args ds gs before hval0 hW hcnd _
  have hval : ∀ (j : Nat) t v, Try.f3.params[j]? = some t → args[j]? = some v → Value.okWide Try.prog W .any base t v := hval0
  have hW' := hW
  obtain ⟨p, q, hA0, hV, rfl, hfz, hnd⟩ := hW
  have hA : DataW.TrodAll enc Try.prog W 0 (fun _ => true) true Try.f3.params.toList args.toList ds p := hA0
  rw [Try.params3] at hA hval
  obtain ⟨v0, vs0, d0, ds0, p0, q0, hargs, rfl, rfl, h0, r0⟩ := trodAll_cons hA
  obtain ⟨rfl, rfl, rfl⟩ := trodAll_nil r0
  obtain rfl : args = #[v0] := by cases args; simp_all
  obtain ⟨rfl, rfl⟩ := trodVars_none hV
  have k0 := h0
  have lt0 : ∀ x ∈ p0, x.block < W.heap.size := by obtain ⟨m, hm⟩ := k0; exact DataW.trod_lt m _ _ _ hm
  have w0 := open_piece (hval 0 23 v0 rfl rfl) h0
  clear hA0 hval0
  refine (walk_FnExactPieceValid v0 W w0).mono fun e W' ⟨he, bel⟩ => ?_
  subst he
  exact ⟨_, rfl, _, _, _, [], _, [], hW', trodAll_mk1 (shut_bool Try.underlying4 _), (trodAll_cons_mk (Below.trod row_laidOut (by kernel_rfl) (of_decide_eq_true (by kernel_rfl)) k0 bel lt0) trodAll_mk0), rfl, bel.frame _, fun h => by cases h⟩

theorem over_FnExactPieceValid : Rows.fnExactPieceValidRow.holds Try.pinned (OpenSpec.ofChange Rows.fnExactPieceValidSpec) :=
  OpenClaim.holds_of_wide 3 Try.f3 rfl rfl rfl rfl rfl rfl rfl ⟨rfl, rfl, rfl, rfl, rfl⟩ rfl rfl rfl rfl rfl (by kernel_rfl) Try.func3 (by kernel_rfl)
    (of_decide_eq_true (by kernel_rfl)) (by unfold Func.isWrapper; first | (rw [if_pos (by decide +kernel)]; kernel_rfl) | (rw [if_neg (by decide +kernel)]; exact ⟨rfl, rfl⟩))
    (fun os started H enc _ => lifted_FnExactPieceValid os started H enc)

theorem FnExactPieceValid_holds : Rows.FnExactPieceValidSaid := over_FnExactPieceValid

end Go.Proofs.Ytabjkjbclpokeaa
