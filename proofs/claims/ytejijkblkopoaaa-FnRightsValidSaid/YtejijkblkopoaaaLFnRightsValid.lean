/- The law FnRightsValid: whatever its arguments, the call returns true, and every argument reads afterwards as it read before. No condition. -/
import Derived.Test.YtejijkblkopoaaaDrawRights
import Derived.Test.YtejijkblkopoaaaTexts
namespace Go.Proofs.Ytejijkblkopoaaa
open Go.ChangeShapes Go.WideShapes Go.ChangeAt Go.RowKit
open Go.ChangeMaps (open_string shut_string)
set_option linter.unusedVariables false

set_option maxHeartbeats 1000000 in
theorem walk_FnRightsValid (v : Value) (w : World) (hv : BytesIn w v) :
    Calls Try.prog 9 #[v] w fun e w' => e = .returned (.bool true) ∧ Below w.heap.size w w' := by
  obtain ⟨A, n, cap, bs, rfl, hn, hc, hl, hr, hx⟩ := id hv
  clear hx hl hr
  by_cases h : (1048576 : Int) < (n : Int)
  · go_enter Try.func9, Try.ntmps9
    go_wp2_with fail
    go_ret
    exact ⟨rfl, Below.refl _ _⟩
  · go_enter Try.func9, Try.ntmps9
    go_wp2_with fail
    refine (drawRightsValid _ _ hv).mono ?_
    rintro e w1 ⟨k, rfl, hb1⟩
    clear hv hn hc h
    by_cases hk : 0 ≤ k <;> by_cases hk2 : k ≤ 15
    all_goals first | (exfalso; omega) | skip
    all_goals
      have hv : rValid k = (decide (0 ≤ k) && decide (k ≤ 15)) := rfl
      simp only [hk, hk2, decide_true, decide_false, Bool.and_true, Bool.and_false] at hv
      first | (have hd := decide_eq_false hk) | (have hd := decide_eq_true hk)
      first | (have hd2 := decide_eq_false hk2) | (have hd2 := decide_eq_true hk2)
      go_wp2_with (first
        | (go_at_call 16; refine (impl_RightsValid _ _).mono ?_; rintro e w' ⟨rfl, rfl⟩)
        | (go_at_call 15; refine (spec_RightsValid _ _).mono ?_; rintro e w' ⟨rfl, rfl⟩))
      refine (laws_alive _).mono ?_
      rintro e w2 ⟨rfl, hb2⟩
      go_wp2_with fail
      go_ret
      exact ⟨rfl, hb1.trans (hb2.mono hb1.size)⟩

set_option maxRecDepth 100000 in
theorem lifted_FnRightsValid (os : Os) (started : os.Started) (H : Type) (enc : TypeId × Value → H) :
    ReturnsInHanded {} Try.checked os 9 .any (Rows.fnRightsValidSpec.pre6 enc Try.prog Try.f9 Rows.fnRightsValidRow.domain false) (Rows.fnRightsValidSpec.post enc Try.prog Try.f9 false true false false) := by
  refine returnsInHanded_of_change (C := Try.checked) row_own started (by kernel_rfl) Try.func9
    (ChangeSpec.witness6 (enc := enc) (C := Try.checked) false ⟨#[], #[.slice none 0 0], []⟩ 8 (by kernel_rfl) (by kernel_rfl) (by kernel_rfl) (by kernel_rfl)) ?_
  intro W base args ds gs before hval0 hW hcnd _
  have hval : ∀ (j : Nat) t v, Try.f9.params[j]? = some t → args[j]? = some v → Value.okWide Try.prog W .any base t v := hval0
  have hW' := hW
  obtain ⟨p, q, hA0, hV, rfl, hfz, hnd⟩ := hW
  have hA : DataW.TrodAll enc Try.prog W 0 (fun _ => true) true Try.f9.params.toList args.toList ds p := hA0
  rw [Try.params9] at hA hval
  obtain ⟨v0, vs0, d0, ds0, p0, q0, hargs, rfl, rfl, h0, r0⟩ := trodAll_cons hA
  obtain ⟨rfl, rfl, rfl⟩ := trodAll_nil r0
  obtain rfl : args = #[v0] := by cases args; simp_all
  obtain ⟨rfl, rfl⟩ := trodVars_none hV
  have k0 := h0
  have lt0 : ∀ x ∈ p0, x.block < W.heap.size := by obtain ⟨m, hm⟩ := k0; exact DataW.trod_lt m _ _ _ hm
  have w0 := open_bytes (hval 0 29 v0 rfl rfl) h0
  clear hA0 hval0
  refine (walk_FnRightsValid v0 W w0).mono fun e W' ⟨he, bel⟩ => ?_
  subst he
  exact ⟨_, rfl, _, _, _, [], _, [], hW', trodAll_mk1 (shut_bool Try.underlying4 _), (trodAll_cons_mk (Below.trod row_laidOut (by kernel_rfl) (of_decide_eq_true (by kernel_rfl)) k0 bel lt0) trodAll_mk0), rfl, bel.frame _, fun h => by cases h⟩

theorem over_FnRightsValid : Rows.fnRightsValidRow.holds Try.pinned (OpenSpec.ofChange Rows.fnRightsValidSpec) :=
  OpenClaim.holds_of_wide 9 Try.f9 rfl rfl rfl rfl rfl rfl rfl ⟨rfl, rfl, rfl, rfl, rfl⟩ rfl rfl rfl rfl rfl (by kernel_rfl) Try.func9 (by kernel_rfl)
    (of_decide_eq_true (by kernel_rfl)) (by unfold Func.isWrapper; first | (rw [if_pos (by decide +kernel)]; kernel_rfl) | (rw [if_neg (by decide +kernel)]; exact ⟨rfl, rfl⟩))
    (fun os started H enc _ => lifted_FnRightsValid os started H enc)

theorem FnRightsValid_holds : Rows.FnRightsValidSaid := over_FnRightsValid

end Go.Proofs.Ytejijkblkopoaaa
