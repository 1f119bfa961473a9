/- The law FnRightsText: whatever its arguments, the call returns true, and every argument reads afterwards as it read before. No condition. -/
import Derived.Test.YtejijkblkopoaaaDrawRights
import Derived.Test.YtejijkblkopoaaaRightsPlain
namespace Go.Proofs.Ytejijkblkopoaaa
open Go.ChangeShapes Go.WideShapes Go.ChangeAt Go.RowKit
open Go.ChangeMaps (open_string shut_string)
set_option linter.unusedVariables false

set_option maxHeartbeats 1000000 in
theorem walk_FnRightsText (v : Value) (w : World) (hv : BytesIn w v) :
    Calls Try.prog 13 #[v] w fun e w' => e = .returned (.bool true) ∧ Below w.heap.size w w' := by
  obtain ⟨A, n, cap, bs, rfl, hn, hc, hl, hr, hx⟩ := id hv
  clear hx hl hr
  by_cases h : (1048576 : Int) < (n : Int)
  · go_enter Try.func13, Try.ntmps13
    go_wp2_with fail
    go_ret
    exact ⟨rfl, Below.refl _ _⟩
  · go_enter Try.func13, Try.ntmps13
    go_wp2_with fail
    refine (drawRightsText _ _ hv).mono ?_
    rintro e w1 ⟨n, rfl, hb1⟩
    clear hv hn hc h
    go_wp2_with fail
    refine (impl_RightsText _ _).mono ?_
    rintro e w2 ⟨rfl, hb2⟩
    have hb3 := hb1.trans (hb2.mono hb1.size)
    clear hb1 hb2
    cases hn : rValid n
    · have h1 := rText_no n hn
      go_wp2_with (first
        | (go_at_call 21; refine (spec_RightsText _ _).mono ?_; rintro e w' ⟨rfl, rfl⟩)
        | (go_at_call 15; refine (spec_RightsValid _ _).mono ?_; rintro e w' ⟨rfl, rfl⟩))
      refine (laws_alive _).mono ?_
      rintro e w4 ⟨rfl, hb4⟩
      go_wp2_with fail
      go_ret
      exact ⟨rfl, hb3.trans (hb4.mono hb3.size)⟩
    · have h1 := rRead_text hn
      have h2 := rText_long hn
      have h3 := rValid_iff.1 hn
      go_wp2_with (first
        | (go_at_call 21; refine (spec_RightsText _ _).mono ?_; rintro e w' ⟨rfl, rfl⟩)
        | (go_at_call 15; refine (spec_RightsValid _ _).mono ?_; rintro e w' ⟨rfl, rfl⟩))
      refine (impl_ReadRights _ _).mono ?_
      rintro e w4 ⟨rfl, hb4⟩
      have hb5 := hb3.trans (hb4.mono hb3.size)
      clear hb3 hb4
      go_wp2_with fail
      go_ret
      exact ⟨rfl, hb5⟩

set_option maxRecDepth 100000 in
theorem lifted_FnRightsText (os : Os) (started : os.Started) (H : Type) (enc : TypeId × Value → H) :
    ReturnsInHanded {} Try.checked os 13 .any (Rows.fnRightsTextSpec.pre6 enc Try.prog Try.f13 Rows.fnRightsTextRow.domain false) (Rows.fnRightsTextSpec.post enc Try.prog Try.f13 false true false false) := by
  refine returnsInHanded_of_change (C := Try.checked) row_own started (by kernel_rfl) Try.func13
    (ChangeSpec.witness6 (enc := enc) (C := Try.checked) false ⟨#[], #[.slice none 0 0], []⟩ 8 (by kernel_rfl) (by kernel_rfl) (by kernel_rfl) (by kernel_rfl)) ?_
  intro W base args ds gs before hval0 hW hcnd _
  have hval : ∀ (j : Nat) t v, Try.f13.params[j]? = some t → args[j]? = some v → Value.okWide Try.prog W .any base t v := hval0
  have hW' := hW
  obtain ⟨p, q, hA0, hV, rfl, hfz, hnd⟩ := hW
  have hA : DataW.TrodAll enc Try.prog W 0 (fun _ => true) true Try.f13.params.toList args.toList ds p := hA0
  rw [Try.params13] at hA hval
  obtain ⟨v0, vs0, d0, ds0, p0, q0, hargs, rfl, rfl, h0, r0⟩ := trodAll_cons hA
  obtain ⟨rfl, rfl, rfl⟩ := trodAll_nil r0
  obtain rfl : args = #[v0] := by cases args; simp_all
  obtain ⟨rfl, rfl⟩ := trodVars_none hV
  have k0 := h0
  have lt0 : ∀ x ∈ p0, x.block < W.heap.size := by obtain ⟨m, hm⟩ := k0; exact DataW.trod_lt m _ _ _ hm
  have w0 := open_bytes (hval 0 29 v0 rfl rfl) h0
  clear hA0 hval0
  refine (walk_FnRightsText v0 W w0).mono fun e W' ⟨he, bel⟩ => ?_
  subst he
  exact ⟨_, rfl, _, _, _, [], _, [], hW', trodAll_mk1 (shut_bool Try.underlying4 _), (trodAll_cons_mk (Below.trod row_laidOut (by kernel_rfl) (of_decide_eq_true (by kernel_rfl)) k0 bel lt0) trodAll_mk0), rfl, bel.frame _, fun h => by cases h⟩

theorem over_FnRightsText : Rows.fnRightsTextRow.holds Try.pinned (OpenSpec.ofChange Rows.fnRightsTextSpec) :=
  OpenClaim.holds_of_wide 13 Try.f13 rfl rfl rfl rfl rfl rfl rfl ⟨rfl, rfl, rfl, rfl, rfl⟩ rfl rfl rfl rfl rfl (by kernel_rfl) Try.func13 (by kernel_rfl)
    (of_decide_eq_true (by kernel_rfl)) (by unfold Func.isWrapper; first | (rw [if_pos (by decide +kernel)]; kernel_rfl) | (rw [if_neg (by decide +kernel)]; exact ⟨rfl, rfl⟩))
    (fun os started H enc _ => lifted_FnRightsText os started H enc)

theorem FnRightsText_holds : Rows.FnRightsTextSaid := over_FnRightsText

end Go.Proofs.Ytejijkblkopoaaa
