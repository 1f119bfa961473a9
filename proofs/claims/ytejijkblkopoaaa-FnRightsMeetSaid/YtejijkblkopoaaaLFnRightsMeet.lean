/- The law FnRightsMeet: whatever its arguments, the call returns true, and every argument reads afterwards as it read before. No condition. -/
import Derived.Test.YtejijkblkopoaaaDrawRights
import Derived.Test.YtejijkblkopoaaaRightsPlain
namespace Go.Proofs.Ytejijkblkopoaaa
open Go.ChangeShapes Go.WideShapes Go.ChangeAt Go.RowKit
open Go.ChangeMaps (open_string shut_string)
set_option linter.unusedVariables false

set_option maxHeartbeats 1000000 in
theorem walk_FnRightsMeet (v : Value) (w : World) (hv : BytesIn w v) :
    Calls Try.prog 10 #[v] w fun e w' => e = .returned (.bool true) ∧ Below w.heap.size w w' := by
  obtain ⟨A, n, cap, bs, rfl, hn, hc, hl, hr, hx⟩ := id hv
  clear hx hl hr
  by_cases h : (1048576 : Int) < (n : Int)
  · go_enter Try.func10, Try.ntmps10
    go_wp2_with fail
    go_ret
    exact ⟨rfl, Below.refl _ _⟩
  · go_enter Try.func10, Try.ntmps10
    go_wp2_with fail
    refine (drawRightsMeet _ _ hv).mono ?_
    rintro e w1 ⟨a, b, rfl, hb1⟩
    clear hv hn hc h
    have h1 := rMeet_comm a b
    by_cases hab : rValid a = true ∧ rValid b = true
    · obtain ⟨ha, hb⟩ := hab
      have h2 := rWithin_meet ha hb
      have h3 : rWithin (rMeet a b) b = true := by rw [← h1]; exact rWithin_meet hb ha
      have h4 := rMeet_self ha
      have h5 := rMeet_meet ha hb
      have h6 := (rValid_iff.1 (rMeet_valid ha hb)).1
      clear ha hb
      go_wp2_with (first
        | (go_at_call 20; refine (impl_RightsMeet _ _ _).mono ?_; rintro e w' ⟨rfl, rfl⟩)
        | (go_at_call 19; refine (spec_RightsMeet _ _ _).mono ?_; rintro e w' ⟨rfl, rfl⟩)
        | (go_at_call 18; refine (impl_RightsWithin _ _ _).mono ?_; rintro e w' ⟨rfl, rfl⟩)
        | (go_at_call 17; refine (spec_RightsWithin _ _ _).mono ?_; rintro e w' ⟨rfl, rfl⟩))
      go_ret
      exact ⟨rfl, hb1⟩
    · have h2 := rMeet_bad hab
      have h3 : rMeet b a = -1 := by rw [h1]; exact h2
      clear h1 hab
      go_wp2_with (first
        | (go_at_call 20; refine (impl_RightsMeet _ _ _).mono ?_; rintro e w' ⟨rfl, rfl⟩)
        | (go_at_call 19; refine (spec_RightsMeet _ _ _).mono ?_; rintro e w' ⟨rfl, rfl⟩)
        | (go_at_call 18; refine (impl_RightsWithin _ _ _).mono ?_; rintro e w' ⟨rfl, rfl⟩)
        | (go_at_call 17; refine (spec_RightsWithin _ _ _).mono ?_; rintro e w' ⟨rfl, rfl⟩))
      refine (laws_alive _).mono ?_
      rintro e w2 ⟨rfl, hb2⟩
      go_wp2_with fail
      go_ret
      exact ⟨rfl, hb1.trans (hb2.mono hb1.size)⟩

set_option maxRecDepth 100000 in
theorem lifted_FnRightsMeet (os : Os) (started : os.Started) (H : Type) (enc : TypeId × Value → H) :
    ReturnsInHanded {} Try.checked os 10 .any (Rows.fnRightsMeetSpec.pre6 enc Try.prog Try.f10 Rows.fnRightsMeetRow.domain false) (Rows.fnRightsMeetSpec.post enc Try.prog Try.f10 false true false false) := by
  refine returnsInHanded_of_change (C := Try.checked) row_own started (by kernel_rfl) Try.func10
    (ChangeSpec.witness6 (enc := enc) (C := Try.checked) false ⟨#[], #[.slice none 0 0], []⟩ 8 (by kernel_rfl) (by kernel_rfl) (by kernel_rfl) (by kernel_rfl)) ?_
  intro W base args ds gs before hval0 hW hcnd _
  have hval : ∀ (j : Nat) t v, Try.f10.params[j]? = some t → args[j]? = some v → Value.okWide Try.prog W .any base t v := hval0
  have hW' := hW
  obtain ⟨p, q, hA0, hV, rfl, hfz, hnd⟩ := hW
  have hA : DataW.TrodAll enc Try.prog W 0 (fun _ => true) true Try.f10.params.toList args.toList ds p := hA0
  rw [Try.params10] at hA hval
  obtain ⟨v0, vs0, d0, ds0, p0, q0, hargs, rfl, rfl, h0, r0⟩ := trodAll_cons hA
  obtain ⟨rfl, rfl, rfl⟩ := trodAll_nil r0
  obtain rfl : args = #[v0] := by cases args; simp_all
  obtain ⟨rfl, rfl⟩ := trodVars_none hV
  have k0 := h0
  have lt0 : ∀ x ∈ p0, x.block < W.heap.size := by obtain ⟨m, hm⟩ := k0; exact DataW.trod_lt m _ _ _ hm
  have w0 := open_bytes (hval 0 29 v0 rfl rfl) h0
  clear hA0 hval0
  refine (walk_FnRightsMeet v0 W w0).mono fun e W' ⟨he, bel⟩ => ?_
  subst he
  exact ⟨_, rfl, _, _, _, [], _, [], hW', trodAll_mk1 (shut_bool Try.underlying4 _), (trodAll_cons_mk (Below.trod row_laidOut (by kernel_rfl) (of_decide_eq_true (by kernel_rfl)) k0 bel lt0) trodAll_mk0), rfl, bel.frame _, fun h => by cases h⟩

theorem over_FnRightsMeet : Rows.fnRightsMeetRow.holds Try.pinned (OpenSpec.ofChange Rows.fnRightsMeetSpec) :=
  OpenClaim.holds_of_wide 10 Try.f10 rfl rfl rfl rfl rfl rfl rfl ⟨rfl, rfl, rfl, rfl, rfl⟩ rfl rfl rfl rfl rfl (by kernel_rfl) Try.func10 (by kernel_rfl)
    (of_decide_eq_true (by kernel_rfl)) (by unfold Func.isWrapper; first | (rw [if_pos (by decide +kernel)]; kernel_rfl) | (rw [if_neg (by decide +kernel)]; exact ⟨rfl, rfl⟩))
    (fun os started H enc _ => lifted_FnRightsMeet os started H enc)

theorem FnRightsMeet_holds : Rows.FnRightsMeetSaid := over_FnRightsMeet

end Go.Proofs.Ytejijkblkopoaaa
