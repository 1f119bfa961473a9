/- The law FnExactPackCap: whatever its arguments, the call returns true, and every argument reads afterwards as it read before. No condition. -/
import Derived.Test.YtciebhdoafhkbaaMint2
import Derived.Test.YtciebhdoafhkbaaBlocks
namespace Go.Proofs.Ytciebhdoafhkbaa
open Go.ChangeShapes Go.WideShapes Go.ChangeAt Go.RowKit
open Go.ChangeMaps (open_string shut_string)
set_option linter.unusedVariables false

set_option maxHeartbeats 1000000 in
theorem walk_FnExactPackCap (v0 : Value) (w : World) (w0 : CapIn w v0) :
    Calls Try.prog 5 #[v0] w fun e w' => e = .returned (.bool true) ∧ Below w.heap.size w w' := by
  obtain ⟨k, o, r, b, rfl⟩ := w0
  go_enter Try.func5, Try.ntmps5
  go_wp2_with fail
  refine (laws_toCap k o r b _).mono ?_
  rintro e w1 ⟨rfl, hb1⟩
  have hA1 := (IAt.new w 23 [k, o, r, b]).belowSelf hb1
  have hB1 : Below w.heap.size w w1 := below_next (below_al (Below.refl _ w) _) hb1
  clear hb1
  go_wp2_with fail
  refine (spec_PackCap k o r b _).mono ?_
  rintro e w2 ⟨rfl, hb2⟩
  skip
  have hA2 := hA1.belowSelf hb2
  have hB2 := below_next hB1 hb2
  clear hb2 hA1 hB1
  obtain ⟨c0, c1, c2, c3⟩ := hA2.cells4
  go_wp2_with fail
  refine (laws_toCap k o r b _).mono ?_
  rintro e w3 ⟨rfl, hb3⟩
  have hB3 := below_next hB2 hb3
  clear hb3 hB2 hA2 c0 c1 c2 c3
  go_wp2_with fail
  refine (impl_PackCap k o r b _).mono ?_
  rintro e w4 ⟨rfl, hb4⟩
  skip
  have hB4 := below_next hB3 hb4
  go_wp2_with fail
  go_ret
  exact ⟨rfl, hB4⟩

set_option maxRecDepth 100000 in
theorem lifted_FnExactPackCap (os : Os) (started : os.Started) (H : Type) (enc : TypeId × Value → H) :
    ReturnsInHanded {} Try.checked os 5 .any (Rows.fnExactPackCapSpec.pre6 enc Try.prog Try.f5 Rows.fnExactPackCapRow.domain false) (Rows.fnExactPackCapSpec.post enc Try.prog Try.f5 false true false false) := by
  refine returnsInHanded_of_change (C := Try.checked) row_own started (by kernel_rfl) Try.func5
    (ChangeSpec.witness6 (enc := enc) (C := Try.checked) false ⟨#[], #[.agg #[.int .i64 0, .int .i64 0, .int .i64 0, .int .i64 0]], []⟩ 8 (by kernel_rfl) (by kernel_rfl) (by kernel_rfl) (by kernel_rfl)) ?_
  intro W base args ds gs before hval0 hW hcnd _
  have hval : ∀ (j : Nat) t v, Try.f5.params[j]? = some t → args[j]? = some v → Value.okWide Try.prog W .any base t v := hval0
  have hW' := hW
  obtain ⟨p, q, hA0, hV, rfl, hfz, hnd⟩ := hW
  have hA : DataW.TrodAll enc Try.prog W 0 (fun _ => true) true Try.f5.params.toList args.toList ds p := hA0
  rw [Try.params5] at hA hval
  obtain ⟨v0, vs0, d0, ds0, p0, q0, hargs, rfl, rfl, h0, r0⟩ := trodAll_cons hA
  obtain ⟨rfl, rfl, rfl⟩ := trodAll_nil r0
  obtain rfl : args = #[v0] := by cases args; simp_all
  obtain ⟨rfl, rfl⟩ := trodVars_none hV
  have k0 := h0
  have lt0 : ∀ x ∈ p0, x.block < W.heap.size := by obtain ⟨m, hm⟩ := k0; exact DataW.trod_lt m _ _ _ hm
  have w0 := open_cap (hval 0 23 v0 rfl rfl) h0
  clear hA0 hval0
  refine (walk_FnExactPackCap v0 W w0).mono fun e W' ⟨he, bel⟩ => ?_
  subst he
  exact ⟨_, rfl, _, _, _, [], _, [], hW', trodAll_mk1 (shut_bool Try.underlying4 _), (trodAll_cons_mk (Below.trod row_laidOut (by kernel_rfl) (of_decide_eq_true (by kernel_rfl)) k0 bel lt0) trodAll_mk0), rfl, bel.frame _, fun h => by cases h⟩

theorem over_FnExactPackCap : Rows.fnExactPackCapRow.holds Try.pinned (OpenSpec.ofChange Rows.fnExactPackCapSpec) :=
  OpenClaim.holds_of_wide 5 Try.f5 rfl rfl rfl rfl rfl rfl rfl ⟨rfl, rfl, rfl, rfl, rfl⟩ rfl rfl rfl rfl rfl (by kernel_rfl) Try.func5 (by kernel_rfl)
    (of_decide_eq_true (by kernel_rfl)) (by unfold Func.isWrapper; first | (rw [if_pos (by decide +kernel)]; kernel_rfl) | (rw [if_neg (by decide +kernel)]; exact ⟨rfl, rfl⟩))
    (fun os started H enc _ => lifted_FnExactPackCap os started H enc)

theorem FnExactPackCap_holds : Rows.FnExactPackCapSaid := over_FnExactPackCap

end Go.Proofs.Ytciebhdoafhkbaa
