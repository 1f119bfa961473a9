/- The law FnRightsChain: whatever its arguments, the call returns true, and every argument reads afterwards as it read before. No condition. -/
import Derived.Test.YtejijkblkopoaaaDrawRights
import Derived.Test.YtejijkblkopoaaaRightsPlain
namespace Go.Proofs.Ytejijkblkopoaaa
open Go.ChangeShapes Go.WideShapes Go.ChangeAt Go.RowKit
open Go.ChangeMaps (open_string shut_string)
set_option linter.unusedVariables false

set_option maxHeartbeats 1000000 in
theorem walk_FnRightsChain (v u : Value) (w : World) (hv : BytesIn w v) (hu : BytesIn w u) :
    Calls Try.prog 12 #[v, u] w fun e w' => e = .returned (.bool true) ∧ Below w.heap.size w w' := by
  obtain ⟨A, n, cap, bs, rfl, hn, hc, hl, hr, hx⟩ := id hv
  obtain ⟨A', n', cap', bs', rfl, hn', hc', hl', hr', hx'⟩ := id hu
  clear hx hl hr hx' hl' hr'
  by_cases h : (1048576 : Int) < (n : Int)
  · go_enter Try.func12, Try.ntmps12
    go_wp2_with fail
    go_ret
    exact ⟨rfl, Below.refl _ _⟩
  · by_cases h' : (1048576 : Int) < (n' : Int)
    · go_enter Try.func12, Try.ntmps12
      go_wp2_with fail
      go_ret
      exact ⟨rfl, Below.refl _ _⟩
    · go_enter Try.func12, Try.ntmps12
      go_wp2_with fail
      refine (drawRightsMeet _ _ hv).mono ?_
      rintro e w1 ⟨a, b, rfl, hb1⟩
      clear hv hn hc h hn' hc' h'
      have hu1 : BytesIn w1 (.slice A' n' cap') := hu.below hb1
      clear hu
      go_wp2_with fail
      refine (drawRightsText _ _ hu1).mono ?_
      rintro e w2 ⟨c, rfl, hb2⟩
      have hb3 := hb1.trans (hb2.mono hb1.size)
      clear hu1 hb1 hb2
      have h1 := rMeet_assoc a b c
      go_wp2_with (first
        | (go_at_call 20; refine (impl_RightsMeet _ _ _).mono ?_; rintro e w' ⟨rfl, rfl⟩)
        | (go_at_call 19; refine (spec_RightsMeet _ _ _).mono ?_; rintro e w' ⟨rfl, rfl⟩))
      refine (laws_alive _).mono ?_
      rintro e w4 ⟨rfl, hb4⟩
      go_wp2_with fail
      go_ret
      exact ⟨rfl, hb3.trans (hb4.mono hb3.size)⟩

set_option maxRecDepth 100000 in
theorem lifted_FnRightsChain (os : Os) (started : os.Started) (H : Type) (enc : TypeId × Value → H) :
    ReturnsInHanded {} Try.checked os 12 .any (Rows.fnRightsChainSpec.pre6 enc Try.prog Try.f12 Rows.fnRightsChainRow.domain false) (Rows.fnRightsChainSpec.post enc Try.prog Try.f12 false true false false) := by
  refine returnsInHanded_of_change (C := Try.checked) row_own started (by kernel_rfl) Try.func12
    (ChangeSpec.witness6 (enc := enc) (C := Try.checked) false ⟨#[], #[.slice none 0 0, .slice none 0 0], []⟩ 8 (by kernel_rfl) (by kernel_rfl) (by kernel_rfl) (by kernel_rfl)) ?_
  intro W base args ds gs before hval0 hW hcnd _
  have hval : ∀ (j : Nat) t v, Try.f12.params[j]? = some t → args[j]? = some v → Value.okWide Try.prog W .any base t v := hval0
  have hW' := hW
  obtain ⟨p, q, hA0, hV, rfl, hfz, hnd⟩ := hW
  have hA : DataW.TrodAll enc Try.prog W 0 (fun _ => true) true Try.f12.params.toList args.toList ds p := hA0
  rw [Try.params12] at hA hval
  obtain ⟨v0, vs0, d0, ds0, p0, q0, hargs, rfl, rfl, h0, r0⟩ := trodAll_cons hA
  obtain ⟨v1, vs1, d1, ds1, p1, q1, rfl, rfl, rfl, h1, r1⟩ := trodAll_cons r0
  obtain ⟨rfl, rfl, rfl⟩ := trodAll_nil r1
  obtain rfl : args = #[v0, v1] := by cases args; simp_all
  obtain ⟨rfl, rfl⟩ := trodVars_none hV
  have k0 := h0
  have lt0 : ∀ x ∈ p0, x.block < W.heap.size := by obtain ⟨m, hm⟩ := k0; exact DataW.trod_lt m _ _ _ hm
  have w0 := open_bytes (hval 0 29 v0 rfl rfl) h0
  have k1 := h1
  have lt1 : ∀ x ∈ p1, x.block < W.heap.size := by obtain ⟨m, hm⟩ := k1; exact DataW.trod_lt m _ _ _ hm
  have w1 := open_bytes (hval 1 29 v1 rfl rfl) h1
  clear hA0 hval0
  refine (walk_FnRightsChain v0 v1 W w0 w1).mono fun e W' ⟨he, bel⟩ => ?_
  subst he
  exact ⟨_, rfl, _, _, _, [], _, [], hW', trodAll_mk1 (shut_bool Try.underlying4 _), (trodAll_cons_mk (Below.trod row_laidOut (by kernel_rfl) (of_decide_eq_true (by kernel_rfl)) k0 bel lt0) (trodAll_cons_mk (Below.trod row_laidOut (by kernel_rfl) (of_decide_eq_true (by kernel_rfl)) k1 bel lt1) trodAll_mk0)), rfl, bel.frame _, fun h => by cases h⟩

theorem over_FnRightsChain : Rows.fnRightsChainRow.holds Try.pinned (OpenSpec.ofChange Rows.fnRightsChainSpec) :=
  OpenClaim.holds_of_wide 12 Try.f12 rfl rfl rfl rfl rfl rfl rfl ⟨rfl, rfl, rfl, rfl, rfl⟩ rfl rfl rfl rfl rfl (by kernel_rfl) Try.func12 (by kernel_rfl)
    (of_decide_eq_true (by kernel_rfl)) (by unfold Func.isWrapper; first | (rw [if_pos (by decide +kernel)]; kernel_rfl) | (rw [if_neg (by decide +kernel)]; exact ⟨rfl, rfl⟩))
    (fun os started H enc _ => lifted_FnRightsChain os started H enc)

theorem FnRightsChain_holds : Rows.FnRightsChainSaid := over_FnRightsChain

end Go.Proofs.Ytejijkblkopoaaa
