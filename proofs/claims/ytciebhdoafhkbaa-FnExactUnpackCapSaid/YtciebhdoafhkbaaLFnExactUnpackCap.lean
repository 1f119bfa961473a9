/- The law FnExactUnpackCap: whatever its arguments, the call returns true, and every argument reads afterwards as it read before. No condition. -/
import Derived.Test.YtciebhdoafhkbaaUnpack
import Derived.Test.YtciebhdoafhkbaaBlocks
namespace Go.Proofs.Ytciebhdoafhkbaa
open Go.ChangeShapes Go.WideShapes Go.ChangeAt Go.RowKit
open Go.ChangeMaps (open_string shut_string)
set_option linter.unusedVariables false

theorem capEq_self (k o r b : Int) : capEq k o r b k o r b = true := by simp [capEq]

set_option maxHeartbeats 1000000 in
theorem walk_FnExactUnpackCap (a0 : Int) (w : World) (w0 : (Lit.int .i64 a0).wf = true) :
    Calls Try.prog 6 #[.int .i64 a0] w fun e w' => e = .returned (.bool true) ∧ Below w.heap.size w w' := by
  have hn := (bounds_i64 w0).2
  go_enter Try.func6, Try.ntmps6
  cases h : unpackOk a0
  all_goals
    go_wp2_with fail
    refine (spec_UnpackCap a0 _ (by omega)).mono ?_
    rintro e w1 ⟨rfl, hb1⟩
    rw [h]
    simp only [if_true, if_false, Bool.false_eq_true]
    go_wp2_with fail
    refine (impl_UnpackCap a0 _ (by omega)).mono ?_
    rintro e w2 ⟨rfl, hb2⟩
    rw [h]
    simp only [if_true, if_false, Bool.false_eq_true]
  · have hA := (IAt.new w1 25 [0, 0, 0, 0]).belowSelf hb2
    obtain ⟨c0, c1, c2, c3⟩ := hA.cells4
    have hB := below_next hb1 (below_next (below_al (Below.refl _ w1) _) hb2)
    have hsz := hA.lt
    go_wp2_with fail
    refine (laws_eqCap 0 0 0 0 0 0 0 0 _).mono ?_
    rintro e w3 ⟨rfl, hb3⟩
    rw [capEq_self]
    have hB3 := below_next (below_al hB _) hb3
    go_wp2_with fail
    go_ret
    exact ⟨rfl, hB3⟩
  · have hA := (IAt.new w1 25 [a0 % 8, a0 / 8 % 100, a0 / 800 % 16, a0 / 12800]).belowSelf hb2
    obtain ⟨c0, c1, c2, c3⟩ := hA.cells4
    have hB := below_next hb1 (below_next (below_al (Below.refl _ w1) _) hb2)
    have hsz := hA.lt
    go_wp2_with fail
    refine (laws_eqCap _ _ _ _ _ _ _ _ _).mono ?_
    rintro e w3 ⟨rfl, hb3⟩
    rw [capEq_self]
    have hB3 := below_next (below_al hB _) hb3
    go_wp2_with fail
    go_ret
    exact ⟨rfl, hB3⟩

set_option maxRecDepth 100000 in
theorem lifted_FnExactUnpackCap (os : Os) (started : os.Started) (H : Type) (enc : TypeId × Value → H) :
    ReturnsInHanded {} Try.checked os 6 .any (Rows.fnExactUnpackCapSpec.pre6 enc Try.prog Try.f6 Rows.fnExactUnpackCapRow.domain false) (Rows.fnExactUnpackCapSpec.post enc Try.prog Try.f6 false true false false) := by
  refine returnsInHanded_of_change (C := Try.checked) row_own started (by kernel_rfl) Try.func6
    (ChangeSpec.witness6 (enc := enc) (C := Try.checked) false ⟨#[], #[.int .i64 0], []⟩ 8 (by kernel_rfl) (by kernel_rfl) (by kernel_rfl) (by kernel_rfl)) ?_
  intro W base args ds gs before hval0 hW hcnd _
  have hval : ∀ (j : Nat) t v, Try.f6.params[j]? = some t → args[j]? = some v → Value.okWide Try.prog W .any base t v := hval0
  have hW' := hW
  obtain ⟨p, q, hA0, hV, rfl, hfz, hnd⟩ := hW
  have hA : DataW.TrodAll enc Try.prog W 0 (fun _ => true) true Try.f6.params.toList args.toList ds p := hA0
  rw [Try.params6] at hA hval
  obtain ⟨v0, vs0, d0, ds0, p0, q0, hargs, rfl, rfl, h0, r0⟩ := trodAll_cons hA
  obtain ⟨rfl, rfl, rfl⟩ := trodAll_nil r0
  obtain rfl : args = #[v0] := by cases args; simp_all
  obtain ⟨rfl, rfl⟩ := trodVars_none hV
  obtain ⟨a0, rfl, rfl, rfl, w0⟩ := open_int Try.underlying3 (hval 0 3 v0 rfl rfl) h0
  clear hA0 hval0
  refine (walk_FnExactUnpackCap a0 W w0).mono fun e W' ⟨he, bel⟩ => ?_
  subst he
  exact ⟨_, rfl, _, _, _, [], _, [], hW', trodAll_mk1 (shut_bool Try.underlying4 _), (trodAll_cons_mk (shut_int Try.underlying3 w0) trodAll_mk0), rfl, bel.frame _, fun h => by cases h⟩

theorem over_FnExactUnpackCap : Rows.fnExactUnpackCapRow.holds Try.pinned (OpenSpec.ofChange Rows.fnExactUnpackCapSpec) :=
  OpenClaim.holds_of_wide 6 Try.f6 rfl rfl rfl rfl rfl rfl rfl ⟨rfl, rfl, rfl, rfl, rfl⟩ rfl rfl rfl rfl rfl (by kernel_rfl) Try.func6 (by kernel_rfl)
    (of_decide_eq_true (by kernel_rfl)) (by unfold Func.isWrapper; first | (rw [if_pos (by decide +kernel)]; kernel_rfl) | (rw [if_neg (by decide +kernel)]; exact ⟨rfl, rfl⟩))
    (fun os started H enc _ => lifted_FnExactUnpackCap os started H enc)

theorem FnExactUnpackCap_holds : Rows.FnExactUnpackCapSaid := over_FnExactUnpackCap

end Go.Proofs.Ytciebhdoafhkbaa
