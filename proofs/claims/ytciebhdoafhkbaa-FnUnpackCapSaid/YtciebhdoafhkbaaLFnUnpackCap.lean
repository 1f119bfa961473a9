/- The law FnUnpackCap: whatever its arguments, the call returns true, and every argument reads afterwards as it read before. No condition. -/
import Derived.Test.YtciebhdoafhkbaaCapPlain
import Derived.Test.YtciebhdoafhkbaaDrawCapLaws
namespace Go.Proofs.Ytciebhdoafhkbaa
open Go.ChangeShapes Go.WideShapes Go.ChangeAt Go.RowKit
open Go.ChangeMaps (open_string shut_string)
set_option linter.unusedVariables false

set_option maxHeartbeats 4000000 in
theorem walk_FnUnpackCap (v0 : Value) (w : World) (w0 : BytesIn w v0) :
    Calls Try.prog 11 #[v0] w fun e w' => e = .returned (.bool true) ∧ Below w.heap.size w w' := by
  have hd := drawUnpackCap v0 w w0
  obtain ⟨A, n, cap, bs, rfl, hn, hc, _⟩ := w0
  by_cases h20 : (1048576 : Int) < (n : Int)
  · go_enter Try.func11, Try.ntmps11
    go_wp2_with fail
    go_ret
    exact ⟨rfl, Below.refl _ _⟩
  · go_enter Try.func11, Try.ntmps11
    go_wp2_with fail
    refine hd.mono ?_
    rintro e w1 ⟨z, rfl, hz, hb1⟩
    have hI := impl_UnpackCap z
    have hS := spec_UnpackCap z
    cases h : unpackOk z
    all_goals
      rw [h] at hI hS
      simp only [if_true, if_false, Bool.false_eq_true] at hI hS
    · go_wp2_with fail
      refine (hI _ (by omega)).mono ?_
      rintro e w2 ⟨rfl, hb2⟩
      have hX := IAt.new w2 25 [0, 0, 0, 0]
      have hB2 := below_al (below_next hb1 hb2) (.cells #[.int .i64 0, .int .i64 0, .int .i64 0, .int .i64 0] 25)
      go_wp2_with fail
      refine (hS _ (by omega)).mono ?_
      rintro e w3 ⟨rfl, hb3⟩
      have hX3 := hX.belowSelf hb3
      have hB3 := below_next hB2 hb3
      have hlt := hX3.lt
      clear hb1 hb2 hB2 hX hb3 hI hS
      obtain ⟨c0, c1, c2, c3⟩ := hX3.cells4
      go_wp2_with fail
      refine (laws_alive _).mono ?_
      rintro e w4 ⟨rfl, hb4⟩
      go_wp2_with fail
      go_ret
      exact ⟨rfl, below_next (by repeat (with_reducible first | exact hB3 | refine below_al ?_ _ | refine below_set ?_ (by simp) _)) hb4⟩
    · have h' := h
      unfold unpackOk at h'
      simp only [Bool.and_eq_true, decide_eq_true_eq] at h'
      have hp : capPack (z % 8) (z / 8 % 100) (z / 800 % 16) (z / 12800) = z := by
        unfold capPack
        rw [if_pos h'.2, packN_unpack z h'.1]
      have hv := h'.2
      have hP := impl_PackCap (z % 8) (z / 8 % 100) (z / 800 % 16) (z / 12800)
      rw [hp] at hP
      clear h h' hp
      generalize z % 8 = k at *
      generalize z / 8 % 100 = o at *
      generalize z / 800 % 16 = r at *
      generalize z / 12800 = x at *
      go_wp2_with fail
      refine (hI _ (by omega)).mono ?_
      rintro e w2 ⟨rfl, hb2⟩
      have hX := IAt.new w2 25 [k, o, r, x]
      have hB2 := below_al (below_next hb1 hb2) (.cells #[.int .i64 k, .int .i64 o, .int .i64 r, .int .i64 x] 25)
      go_wp2_with fail
      refine (hS _ (by omega)).mono ?_
      rintro e w3 ⟨rfl, hb3⟩
      have hX3 := hX.belowSelf hb3
      have hB3 := below_next hB2 hb3
      have hlt := hX3.lt
      clear hb1 hb2 hB2 hX hb3 hI hS
      obtain ⟨c0, c1, c2, c3⟩ := hX3.cells4
      go_wp2_with fail
      refine (hP _).mono ?_
      rintro e w4 ⟨rfl, hb4⟩
      have hX4 := IAt.belowSelf (IAt.alloc hX3 _) hb4
      have hB4 := below_next (below_al hB3 _) hb4
      clear c0 c1 c2 c3 hX3 hB3 hb4
      obtain ⟨c0, c1, c2, c3⟩ := hX4.cells4
      go_wp2_with (go_at_call 17; refine (impl_CapValid _ _ _ _ _).mono ?_; rintro e w' ⟨rfl, rfl⟩)
      go_ret
      exact ⟨rfl, below_al hB4 _⟩

set_option maxRecDepth 100000 in
theorem lifted_FnUnpackCap (os : Os) (started : os.Started) (H : Type) (enc : TypeId × Value → H) :
    ReturnsInHanded {} Try.checked os 11 .any (Rows.fnUnpackCapSpec.pre6 enc Try.prog Try.f11 Rows.fnUnpackCapRow.domain false) (Rows.fnUnpackCapSpec.post enc Try.prog Try.f11 false true false false) := by
  refine returnsInHanded_of_change (C := Try.checked) row_own started (by kernel_rfl) Try.func11
    (ChangeSpec.witness6 (enc := enc) (C := Try.checked) false ⟨#[], #[.slice none 0 0], []⟩ 8 (by kernel_rfl) (by kernel_rfl) (by kernel_rfl) (by kernel_rfl)) ?_
  intro W base args ds gs before hval0 hW hcnd _
  have hval : ∀ (j : Nat) t v, Try.f11.params[j]? = some t → args[j]? = some v → Value.okWide Try.prog W .any base t v := hval0
  have hW' := hW
  obtain ⟨p, q, hA0, hV, rfl, hfz, hnd⟩ := hW
  have hA : DataW.TrodAll enc Try.prog W 0 (fun _ => true) true Try.f11.params.toList args.toList ds p := hA0
  rw [Try.params11] at hA hval
  obtain ⟨v0, vs0, d0, ds0, p0, q0, hargs, rfl, rfl, h0, r0⟩ := trodAll_cons hA
  obtain ⟨rfl, rfl, rfl⟩ := trodAll_nil r0
  obtain rfl : args = #[v0] := by cases args; simp_all
  obtain ⟨rfl, rfl⟩ := trodVars_none hV
  have k0 := h0
  have lt0 : ∀ x ∈ p0, x.block < W.heap.size := by obtain ⟨m, hm⟩ := k0; exact DataW.trod_lt m _ _ _ hm
  have w0 := open_bytes (hval 0 36 v0 rfl rfl) h0
  clear hA0 hval0
  refine (walk_FnUnpackCap v0 W w0).mono fun e W' ⟨he, bel⟩ => ?_
  subst he
  exact ⟨_, rfl, _, _, _, [], _, [], hW', trodAll_mk1 (shut_bool Try.underlying4 _), (trodAll_cons_mk (Below.trod row_laidOut (by kernel_rfl) (of_decide_eq_true (by kernel_rfl)) k0 bel lt0) trodAll_mk0), rfl, bel.frame _, fun h => by cases h⟩

theorem over_FnUnpackCap : Rows.fnUnpackCapRow.holds Try.pinned (OpenSpec.ofChange Rows.fnUnpackCapSpec) :=
  OpenClaim.holds_of_wide 11 Try.f11 rfl rfl rfl rfl rfl rfl rfl ⟨rfl, rfl, rfl, rfl, rfl⟩ rfl rfl rfl rfl rfl (by kernel_rfl) Try.func11 (by kernel_rfl)
    (of_decide_eq_true (by kernel_rfl)) (by unfold Func.isWrapper; first | (rw [if_pos (by decide +kernel)]; kernel_rfl) | (rw [if_neg (by decide +kernel)]; exact ⟨rfl, rfl⟩))
    (fun os started H enc _ => lifted_FnUnpackCap os started H enc)

theorem FnUnpackCap_holds : Rows.FnUnpackCapSaid := over_FnUnpackCap

end Go.Proofs.Ytciebhdoafhkbaa
