/- The law FnExactRevokeSteps: whatever its arguments, the call returns true, and every argument reads afterwards as it read before. No condition. -/
import Derived.Test.YtpglfbjjmnaojaaSteps
namespace Go.Proofs.Ytpglfbjjmnaojaa
open Go.ChangeShapes Go.WideShapes Go.ChangeAt Go.RowKit
open Go.ChangeMaps (open_string shut_string)
set_option linter.unusedVariables false

set_option maxHeartbeats 2000000 in
theorem walk_FnExactRevokeSteps (v0 : Value) (a1 : Int) (a2 : Int) (w : World) (w0 : EntIn w v0) (w1 : (Lit.int .i64 a1).wf = true) (w2 : (Lit.int .i64 a2).wf = true) :
    Calls Try.prog 5 #[v0, .int .i64 a1, .int .i64 a2] w fun e w' => e = .returned (.bool true) ∧ Below w.heap.size w w' := by
  obtain ⟨A, n, c, es, rfl, hR⟩ := w0
  have hcn := hR.2.1
  have hcm := hR.2.2.1
  have hsz := fun W => laws_szEntryS A n c 1048576 W (by omega) (by omega) (by omega)
  by_cases hbig : (1048576 : Int) < (n : Int)
  · rw [if_pos hbig] at hsz
    go_enter Try.func5, Try.ntmps5
    go_wp2_with (first | (go_at_call 17; refine (hsz _).mono ?_; rintro e w' ⟨rfl, rfl⟩))
    go_ret
    exact ⟨rfl, Below.refl _ _⟩
  · rw [if_neg hbig] at hsz
    have hge : ¬ (1048576 : Int) - (n : Int) < 0 := by omega
    have hR0 := Lib.hid hR
    clear hcm
    have hT := fun W (h : EntR W A n c es) => laws_toEntryS A n c es W h (by omega)
    go_enter Try.func5, Try.ntmps5
    go_wp2_with (first | (go_at_call 17; refine (hsz _).mono ?_; rintro e w' ⟨rfl, rfl⟩))
    refine (hT _ hR).mono ?_
    rintro e w1 ⟨⟨A1, c1, rfl, hO1⟩, hb1⟩
    go_wp2_with fail
    refine (spec_RevokeSteps A1 n c1 _ es a1 a2 _ hO1 (by omega)).mono ?_
    rintro e w2 ⟨rfl, hb2⟩
    have hB2 := below_next hb1 hb2
    clear hb1 hb2 hO1
    go_wp2_with fail
    refine (hT _ (hR.below hB2)).mono ?_
    rintro e w3 ⟨⟨A3, c3, rfl, hO3⟩, hb3⟩
    have hB3 := below_next hB2 hb3
    clear hb3 hB2
    go_wp2_with fail
    refine (impl_RevokeSteps A3 n c3 _ es a1 a2 _ hO3 (by omega)).mono ?_
    rintro e w4 ⟨rfl, hb4⟩
    have hO4 := hO3.below hb4
    have hB4 := below_next hB3 hb4
    clear hb4 hB3 hO3
    go_wp2_with fail
    refine (hT _ (hR.below hB4)).mono ?_
    rintro e w5 ⟨⟨A5, c5, rfl, hO5⟩, hb5⟩
    have hO6 := hO4.below hb5
    have hB5 := below_next hB4 hb5
    clear hb5 hB4 hO4
    go_wp2_with fail
    refine (laws_eqEntryS A3 A5 n c3 c5 _ _ es _ hO6 hO5 (by omega)).mono ?_
    rintro e w6 ⟨rfl, hb6⟩
    have hB6 := below_next hB5 hb6
    go_wp2_with fail
    go_ret
    exact ⟨rfl, hB6⟩

set_option maxRecDepth 100000 in
theorem lifted_FnExactRevokeSteps (os : Os) (started : os.Started) (H : Type) (enc : TypeId × Value → H) :
    ReturnsInHanded {} Try.checked os 5 .any (Rows.fnExactRevokeStepsSpec.pre6 enc Try.prog Try.f5 Rows.fnExactRevokeStepsRow.domain false) (Rows.fnExactRevokeStepsSpec.post enc Try.prog Try.f5 false true false false) := by
  refine returnsInHanded_of_change (C := Try.checked) row_own started (by kernel_rfl) Try.func5
    (ChangeSpec.witness6 (enc := enc) (C := Try.checked) false ⟨#[], #[.slice none 0 0, .int .i64 0, .int .i64 0], []⟩ 8 (by kernel_rfl) (by kernel_rfl) (by kernel_rfl) (by kernel_rfl)) ?_
  intro W base args ds gs before hval0 hW hcnd _
  have hval : ∀ (j : Nat) t v, Try.f5.params[j]? = some t → args[j]? = some v → Value.okWide Try.prog W .any base t v := hval0
  have hW' := hW
  obtain ⟨p, q, hA0, hV, rfl, hfz, hnd⟩ := hW
  have hA : DataW.TrodAll enc Try.prog W 0 (fun _ => true) true Try.f5.params.toList args.toList ds p := hA0
  rw [Try.params5] at hA hval
  obtain ⟨v0, vs0, d0, ds0, p0, q0, hargs, rfl, rfl, h0, r0⟩ := trodAll_cons hA
  obtain ⟨v1, vs1, d1, ds1, p1, q1, rfl, rfl, rfl, h1, r1⟩ := trodAll_cons r0
  obtain ⟨v2, vs2, d2, ds2, p2, q2, rfl, rfl, rfl, h2, r2⟩ := trodAll_cons r1
  obtain ⟨rfl, rfl, rfl⟩ := trodAll_nil r2
  obtain rfl : args = #[v0, v1, v2] := by cases args; simp_all
  obtain ⟨rfl, rfl⟩ := trodVars_none hV
  have k0 := h0
  have lt0 : ∀ x ∈ p0, x.block < W.heap.size := by obtain ⟨m, hm⟩ := k0; exact DataW.trod_lt m _ _ _ hm
  have w0 := open_entries (hval 0 22 v0 rfl rfl) h0
  obtain ⟨a1, rfl, rfl, rfl, w1⟩ := open_int Try.underlying3 (hval 1 3 v1 rfl rfl) h1
  obtain ⟨a2, rfl, rfl, rfl, w2⟩ := open_int Try.underlying3 (hval 2 3 v2 rfl rfl) h2
  clear hA0 hval0
  refine (walk_FnExactRevokeSteps v0 a1 a2 W w0 w1 w2).mono fun e W' ⟨he, bel⟩ => ?_
  subst he
  exact ⟨_, rfl, _, _, _, [], _, [], hW', trodAll_mk1 (shut_bool Try.underlying4 _), (trodAll_cons_mk (Below.trod row_laidOut (by kernel_rfl) (of_decide_eq_true (by kernel_rfl)) k0 bel lt0) (trodAll_cons_mk (shut_int Try.underlying3 w1) (trodAll_cons_mk (shut_int Try.underlying3 w2) trodAll_mk0))), rfl, bel.frame _, fun h => by cases h⟩

theorem over_FnExactRevokeSteps : Rows.fnExactRevokeStepsRow.holds Try.pinned (OpenSpec.ofChange Rows.fnExactRevokeStepsSpec) :=
  OpenClaim.holds_of_wide 5 Try.f5 rfl rfl rfl rfl rfl rfl rfl ⟨rfl, rfl, rfl, rfl, rfl⟩ rfl rfl rfl rfl rfl (by kernel_rfl) Try.func5 (by kernel_rfl)
    (of_decide_eq_true (by kernel_rfl)) (by unfold Func.isWrapper; first | (rw [if_pos (by decide +kernel)]; kernel_rfl) | (rw [if_neg (by decide +kernel)]; exact ⟨rfl, rfl⟩))
    (fun os started H enc _ => lifted_FnExactRevokeSteps os started H enc)

theorem FnExactRevokeSteps_holds : Rows.FnExactRevokeStepsSaid := over_FnExactRevokeSteps

end Go.Proofs.Ytpglfbjjmnaojaa
