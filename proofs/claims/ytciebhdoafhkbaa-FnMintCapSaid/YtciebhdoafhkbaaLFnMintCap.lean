/- The law FnMintCap: whatever its arguments, the call returns true, and every argument reads afterwards as it read before. No condition. -/
import Derived.Test.YtciebhdoafhkbaaCapPlain
import Derived.Test.YtciebhdoafhkbaaDrawMint
namespace Go.Proofs.Ytciebhdoafhkbaa
open Go.ChangeShapes Go.WideShapes Go.ChangeAt Go.RowKit
open Go.ChangeMaps (open_string shut_string)
set_option linter.unusedVariables false

set_option maxHeartbeats 4000000 in
theorem walk_FnMintCap (v0 : Value) (w : World) (w0 : BytesIn w v0) :
    Calls Try.prog 10 #[v0] w fun e w' => e = .returned (.bool true) ∧ Below w.heap.size w w' := by
  have hd := drawMintCap v0 w w0
  obtain ⟨A, n, cap, bs, rfl, hn, hc, _⟩ := w0
  by_cases h20 : (1048576 : Int) < (n : Int)
  · go_enter Try.func10, Try.ntmps10
    go_wp2_with fail
    go_ret
    exact ⟨rfl, Below.refl _ _⟩
  · go_enter Try.func10, Try.ntmps10
    go_wp2_with fail
    refine hd.mono ?_
    rintro e w1 ⟨k, o, r, x, i, j, rfl, hb1⟩
    cases h : mintOk k o r x i j
    · go_wp2_with fail
      refine (impl_MintCap_no k o r x i j _ h).mono ?_
      rintro e w2 ⟨rfl, hb2⟩
      have hC := (IAt.new w1 25 [k, o, r, x]).belowSelf hb2
      have hB2 := below_next (below_al hb1 _) hb2
      have hlt := hC.lt
      have hX := IAt.new w2 25 [0, 0, 0, 0]
      have hC' := hC.alloc (.cells #[.int .i64 0, .int .i64 0, .int .i64 0, .int .i64 0] 25)
      have hB3 := below_al hB2 (.cells #[.int .i64 0, .int .i64 0, .int .i64 0, .int .i64 0] 25)
      clear hb1 hb2 hB2
      obtain ⟨c0, c1, c2, c3⟩ := hC.cells4
      go_wp2_with fail
      refine (spec_MintCap_no k o r x i j _ h).mono ?_
      rintro e w3 ⟨rfl, hb3⟩
      have hX3 := hX.belowSelf hb3
      have hB4 := below_next hB3 hb3
      have hlt3 := hX3.lt
      clear c0 c1 c2 c3 hC hC' hX hB3 hb3
      obtain ⟨c0, c1, c2, c3⟩ := hX3.cells4
      go_wp2_with fail
      refine (laws_alive _).mono ?_
      rintro e w4 ⟨rfl, hb4⟩
      go_wp2_with fail
      go_ret
      exact ⟨rfl, below_next (by repeat (with_reducible first | exact hB4 | refine below_al ?_ _ | refine below_set ?_ (by simp) _)) hb4⟩
    · have v1 := minted_valid h
      have v2 := minted_within h
      have v3 := minted_rights h
      have v4 := minted_which h
      have hS := fun W => spec_MintCap_yes k o r x i j W h
      have hM := fun W => impl_MintCap_yes k o r x i j W h
      clear h
      generalize bits .and .i64 r i = R at *
      generalize mintB x j = X at *
      go_wp2_with fail
      refine (hM _).mono ?_
      rintro e w2 ⟨rfl, hb2⟩
      have hC := (IAt.new w1 25 [k, o, r, x]).belowSelf hb2
      have hB2 := below_next (below_al hb1 _) hb2
      have hlt := hC.lt
      have hX := IAt.new w2 25 [k, o, R, X]
      have hC' := hC.alloc (.cells #[.int .i64 k, .int .i64 o, .int .i64 R, .int .i64 X] 25)
      have hB3 := below_al hB2 (.cells #[.int .i64 k, .int .i64 o, .int .i64 R, .int .i64 X] 25)
      clear hb1 hb2 hB2 hd hM
      obtain ⟨c0, c1, c2, c3⟩ := hC.cells4
      go_wp2_with fail
      refine (hS _).mono ?_
      rintro e w3 ⟨rfl, hb3⟩
      have hX3 := hX.belowSelf hb3
      have hC3 := hC'.belowSelf hb3
      have hB4 := below_al (below_next hB3 hb3) (.cells #[.int .i64 k, .int .i64 o, .int .i64 R, .int .i64 X] 25)
      have hX4 := hX3.alloc (.cells #[.int .i64 k, .int .i64 o, .int .i64 R, .int .i64 X] 25)
      have hC4 := hC3.alloc (.cells #[.int .i64 k, .int .i64 o, .int .i64 R, .int .i64 X] 25)
      have hlt3 := hX3.lt
      clear c0 c1 c2 c3 hC hC' hX hB3 hb3 hC3
      obtain ⟨c0, c1, c2, c3⟩ := hX3.cells4
      go_wp2_with fail
      clear c0 c1 c2 c3 hX3
      refine (impl_MintCap_is k o R X 15 7 _).mono ?_
      rintro e w5 ⟨rfl, hb5⟩
      have hX5 := hX4.belowSelf hb5
      have hC5 := hC4.belowSelf hb5
      have hB5 := below_next hB4 hb5
      clear hX4 hC4 hB4 hb5
      have hlt5 := hX5.lt
      have hlc5 := hC5.lt
      obtain ⟨c0, c1, c2, c3⟩ := hX5.cells4
      obtain ⟨d0, d1, d2, d3⟩ := hC5.cells4
      have hw := impl_CapWithin k o R X k o r x
      rw [v2] at hw
      go_wp2_with (go_at_call 17; refine (impl_CapValid _ _ _ _ _).mono ?_; rintro e w' ⟨rfl, rfl⟩)
      refine (hw _).mono ?_
      rintro e w6 ⟨rfl, hb6⟩
      have hX6 := IAt.belowSelf (IAt.alloc (IAt.alloc hX5 _) _) hb6
      have hC6 := IAt.belowSelf (IAt.alloc (IAt.alloc hC5 _) _) hb6
      have hB6 := below_next (below_al (below_al hB5 _) _) hb6
      clear hX5 hC5 hB5 hb6 c0 c1 c2 c3 d0 d1 d2 d3 hw hS
      obtain ⟨c0, c1, c2, c3⟩ := hX6.cells4
      obtain ⟨d0, d1, d2, d3⟩ := hC6.cells4
      cases hX0 : (X == 0)
      · have h2 := minted_once (k := k) (o := o) (R := R) hX0
        rcases v4 with v4 | ⟨v4, v5, v6⟩
        all_goals
          go_wp2_with (go_at_call 31; refine (impl_RightsWithin _ _ _).mono ?_; rintro e w' ⟨rfl, rfl⟩)
          go_ret
          exact ⟨rfl, hB6⟩
      · rcases v4 with v4 | ⟨v4, v5, v6⟩
        all_goals
          go_wp2_with (go_at_call 31; refine (impl_RightsWithin _ _ _).mono ?_; rintro e w' ⟨rfl, rfl⟩)
          go_ret
          exact ⟨rfl, hB6⟩

set_option maxRecDepth 100000 in
theorem lifted_FnMintCap (os : Os) (started : os.Started) (H : Type) (enc : TypeId × Value → H) :
    ReturnsInHanded {} Try.checked os 10 .any (Rows.fnMintCapSpec.pre6 enc Try.prog Try.f10 Rows.fnMintCapRow.domain false) (Rows.fnMintCapSpec.post enc Try.prog Try.f10 false true false false) := by
  refine returnsInHanded_of_change (C := Try.checked) row_own started (by kernel_rfl) Try.func10
    (ChangeSpec.witness6 (enc := enc) (C := Try.checked) false ⟨#[], #[.slice none 0 0], []⟩ 8 (by kernel_rfl) (by kernel_rfl) (by kernel_rfl) (by kernel_rfl)) ?_
  intro W base args ds gs before hval0 hW hcnd _
  have hval : ∀ (j : Nat) t v, Try.f10.params[j]? = some t → args[j]? = some v → Value.okWide Try.prog W .any base t v := hval0
  have hW' := hW
  obtain ⟨p, q, hA0, hV, rfl, hfz, hnd⟩ := hW
  have hA : DataW.TrodAll enc Try.prog W 0 (fun _ => true) true Try.f10.params.toList args.toList ds p := hA0
  rw [Try.params10] at hA hval
  obtain ⟨v0, vs0, d0, ds0, p0, q0, hargs, rfl, rfl, h0, r0⟩ := trodAll_cons hA
  obtain ⟨rfl, rfl, rfl⟩ := trodAll_nil r0
  obtain rfl : args = #[v0] := by cases args; simp_all
  obtain ⟨rfl, rfl⟩ := trodVars_none hV
  have k0 := h0
  have lt0 : ∀ x ∈ p0, x.block < W.heap.size := by obtain ⟨m, hm⟩ := k0; exact DataW.trod_lt m _ _ _ hm
  have w0 := open_bytes (hval 0 36 v0 rfl rfl) h0
  clear hA0 hval0
  refine (walk_FnMintCap v0 W w0).mono fun e W' ⟨he, bel⟩ => ?_
  subst he
  exact ⟨_, rfl, _, _, _, [], _, [], hW', trodAll_mk1 (shut_bool Try.underlying4 _), (trodAll_cons_mk (Below.trod row_laidOut (by kernel_rfl) (of_decide_eq_true (by kernel_rfl)) k0 bel lt0) trodAll_mk0), rfl, bel.frame _, fun h => by cases h⟩

theorem over_FnMintCap : Rows.fnMintCapRow.holds Try.pinned (OpenSpec.ofChange Rows.fnMintCapSpec) :=
  OpenClaim.holds_of_wide 10 Try.f10 rfl rfl rfl rfl rfl rfl rfl ⟨rfl, rfl, rfl, rfl, rfl⟩ rfl rfl rfl rfl rfl (by kernel_rfl) Try.func10 (by kernel_rfl)
    (of_decide_eq_true (by kernel_rfl)) (by unfold Func.isWrapper; first | (rw [if_pos (by decide +kernel)]; kernel_rfl) | (rw [if_neg (by decide +kernel)]; exact ⟨rfl, rfl⟩))
    (fun os started H enc _ => lifted_FnMintCap os started H enc)

theorem FnMintCap_holds : Rows.FnMintCapSaid := over_FnMintCap

end Go.Proofs.Ytciebhdoafhkbaa
