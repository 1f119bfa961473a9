/- The law FnReadRights: whatever its arguments, the call returns true, and every argument reads afterwards as it read before. No condition. -/
import Derived.Test.YtejijkblkopoaaaDrawText
import Derived.Test.YtejijkblkopoaaaRightsPlain
namespace Go.Proofs.Ytejijkblkopoaaa
open Go.ChangeShapes Go.WideShapes Go.ChangeAt Go.RowKit
open Go.ChangeMaps (open_string shut_string)
set_option linter.unusedVariables false

set_option maxHeartbeats 1000000 in
theorem walk_FnReadRights (v : Value) (w : World) (hv : BytesIn w v) :
    Calls Try.prog 14 #[v] w fun e w' => e = .returned (.bool true) ∧ Below w.heap.size w w' := by
  obtain ⟨A, n, cap, bs, rfl, hn, hc, hl, hr, hx⟩ := id hv
  clear hx hl hr
  by_cases h : (1048576 : Int) < (n : Int)
  · go_enter Try.func14, Try.ntmps14
    go_wp2_with fail
    go_ret
    exact ⟨rfl, Below.refl _ _⟩
  · go_enter Try.func14, Try.ntmps14
    go_wp2_with fail
    refine (drawReadRights _ _ hv).mono ?_
    rintro e w1 ⟨s, rfl, hs, hb1⟩
    clear hv hn hc h
    go_wp2_with fail
    refine (impl_ReadRights _ _).mono ?_
    rintro e w2 ⟨rfl, hb2⟩
    have hb3 := hb1.trans (hb2.mono hb1.size)
    clear hb1 hb2
    rcases rRead_or s with h1 | ⟨n, hn, h1, rfl⟩
    · go_wp2_with (go_at_call 23; refine (spec_ReadRights _ _).mono ?_; rintro e w' ⟨rfl, rfl⟩)
      refine (laws_alive _).mono ?_
      rintro e w4 ⟨rfl, hb4⟩
      go_wp2_with fail
      go_ret
      exact ⟨rfl, hb3.trans (hb4.mono hb3.size)⟩
    · have h2 := rRead_more hn
      have h3 := rValid_iff.1 hn
      have hm : (n == -1) = false := by rw [beq_eq_false_iff_ne]; omega
      go_wp2_with (go_at_call 23; refine (spec_ReadRights _ _).mono ?_; rintro e w' ⟨rfl, rfl⟩)
      refine (impl_RightsText _ _).mono ?_
      rintro e w4 ⟨rfl, hb4⟩
      have hb5 := hb3.trans (hb4.mono hb3.size)
      clear hb3 hb4
      go_wp2_with fail
      refine (impl_ReadRights _ _).mono ?_
      rintro e w6 ⟨rfl, hb6⟩
      go_wp2_with fail
      go_ret
      exact ⟨ret_bool (by rw [bne, h2]; rfl), hb5.trans (hb6.mono hb5.size)⟩

set_option maxRecDepth 100000 in
theorem lifted_FnReadRights (os : Os) (started : os.Started) (H : Type) (enc : TypeId × Value → H) :
    ReturnsInHanded {} Try.checked os 14 .any (Rows.fnReadRightsSpec.pre6 enc Try.prog Try.f14 Rows.fnReadRightsRow.domain false) (Rows.fnReadRightsSpec.post enc Try.prog Try.f14 false true false false) := by
  refine returnsInHanded_of_change (C := Try.checked) row_own started (by kernel_rfl) Try.func14
    (ChangeSpec.witness6 (enc := enc) (C := Try.checked) false ⟨#[], #[.slice none 0 0], []⟩ 8 (by kernel_rfl) (by kernel_rfl) (by kernel_rfl) (by kernel_rfl)) ?_
  intro W base args ds gs before hval0 hW hcnd _
  have hval : ∀ (j : Nat) t v, Try.f14.params[j]? = some t → args[j]? = some v → Value.okWide Try.prog W .any base t v := hval0
  have hW' := hW
  obtain ⟨p, q, hA0, hV, rfl, hfz, hnd⟩ := hW
  have hA : DataW.TrodAll enc Try.prog W 0 (fun _ => true) true Try.f14.params.toList args.toList ds p := hA0
  rw [Try.params14] at hA hval
  obtain ⟨v0, vs0, d0, ds0, p0, q0, hargs, rfl, rfl, h0, r0⟩ := trodAll_cons hA
  obtain ⟨rfl, rfl, rfl⟩ := trodAll_nil r0
  obtain rfl : args = #[v0] := by cases args; simp_all
  obtain ⟨rfl, rfl⟩ := trodVars_none hV
  have k0 := h0
  have lt0 : ∀ x ∈ p0, x.block < W.heap.size := by obtain ⟨m, hm⟩ := k0; exact DataW.trod_lt m _ _ _ hm
  have w0 := open_bytes (hval 0 29 v0 rfl rfl) h0
  clear hA0 hval0
  refine (walk_FnReadRights v0 W w0).mono fun e W' ⟨he, bel⟩ => ?_
  subst he
  exact ⟨_, rfl, _, _, _, [], _, [], hW', trodAll_mk1 (shut_bool Try.underlying4 _), (trodAll_cons_mk (Below.trod row_laidOut (by kernel_rfl) (of_decide_eq_true (by kernel_rfl)) k0 bel lt0) trodAll_mk0), rfl, bel.frame _, fun h => by cases h⟩

theorem over_FnReadRights : Rows.fnReadRightsRow.holds Try.pinned (OpenSpec.ofChange Rows.fnReadRightsSpec) :=
  OpenClaim.holds_of_wide 14 Try.f14 rfl rfl rfl rfl rfl rfl rfl ⟨rfl, rfl, rfl, rfl, rfl⟩ rfl rfl rfl rfl rfl (by kernel_rfl) Try.func14 (by kernel_rfl)
    (of_decide_eq_true (by kernel_rfl)) (by unfold Func.isWrapper; first | (rw [if_pos (by decide +kernel)]; kernel_rfl) | (rw [if_neg (by decide +kernel)]; exact ⟨rfl, rfl⟩))
    (fun os started H enc _ => lifted_FnReadRights os started H enc)

theorem FnReadRights_holds : Rows.FnReadRightsSaid := over_FnReadRights

end Go.Proofs.Ytejijkblkopoaaa
