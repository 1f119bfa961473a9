/- The law FnExactMintCap: whatever its arguments, the call returns true, and every argument reads afterwards as it read before. No condition. -/
import Derived.Test.YtciebhdoafhkbaaMint3
namespace Go.Proofs.Ytciebhdoafhkbaa
open Go.ChangeShapes Go.WideShapes Go.ChangeAt Go.RowKit
open Go.ChangeMaps (open_string shut_string)
set_option linter.unusedVariables false

set_option maxHeartbeats 1000000 in
theorem walk_FnExactMintCap (v0 : Value) (a1 a2 : Int) (w : World) (w0 : CapIn w v0) (w1 : (Lit.int .i64 a1).wf = true) (w2 : (Lit.int .i64 a2).wf = true) :
    Calls Try.prog 7 #[v0, .int .i64 a1, .int .i64 a2] w fun e w' => e = .returned (.bool true) ∧ Below w.heap.size w w' := by
  obtain ⟨k, o, r, b, rfl⟩ := w0
  go_enter Try.func7, Try.ntmps7
  go_wp2_with fail
  refine (laws_toCap k o r b _).mono ?_
  rintro e w1 ⟨rfl, hb1⟩
  have hA1 := (IAt.new w 23 [k, o, r, b]).belowSelf hb1
  have hB1 : Below w.heap.size w w1 := below_next (below_al (Below.refl _ w) _) hb1
  clear hb1
  go_wp2_with fail
  refine (spec_MintCap_is k o r b a1 a2 _).mono ?_
  rintro e w2 ⟨rfl, hb2⟩
  have hA2 := hA1.belowSelf hb2
  have hB2 := below_next hB1 hb2
  clear hb2 hA1 hB1
  have hI := impl_MintCap_is k o r b a1 a2
  unfold Minted at hI
  generalize sel (mintOk k o r b a1 a2) k = K at *
  generalize sel (mintOk k o r b a1 a2) o = O at *
  generalize sel (mintOk k o r b a1 a2) (bits .and .i64 r a1) = R at *
  generalize sel (mintOk k o r b a1 a2) (mintB b a2) = X at *
  generalize mintOk k o r b a1 a2 = t at *
  have hA3 := hA2.alloc (.cells #[.int .i64 K, .int .i64 O, .int .i64 R, .int .i64 X] 25)
  have hX3 := IAt.new w2 25 [K, O, R, X]
  have hB3 := below_al hB2 (.cells #[.int .i64 K, .int .i64 O, .int .i64 R, .int .i64 X] 25)
  have hlt := hA2.lt
  obtain ⟨c0, c1, c2, c3⟩ := hA2.cells4
  go_wp2_with fail
  clear c0 c1 c2 c3
  refine (laws_toCap k o r b _).mono ?_
  rintro e w4 ⟨rfl, hb4⟩
  have hX4 := hX3.belowSelf hb4
  have hB4 := below_next hB3 hb4
  clear hb4 hX3 hB3 hA3
  go_wp2_with fail
  refine (hI _).mono ?_
  rintro e w5 ⟨rfl, hb5⟩
  have hX5 := hX4.belowSelf hb5
  have hB5 := below_next hB4 hb5
  clear hb5 hX4 hB4
  have hlt5 := hX5.lt
  obtain ⟨c0, c1, c2, c3⟩ := hX5.cells4
  have hB6 := below_al hB5 (.cells #[.int .i64 K, .int .i64 O, .int .i64 R, .int .i64 X] 25)
  go_wp2_with fail
  refine (laws_eqCap K O R X K O R X _).mono ?_
  rintro e w7 ⟨rfl, hb7⟩
  rw [capEq_refl]
  have hB7 := below_next hB6 hb7
  cases t
  all_goals
    go_wp2_with fail
    go_ret
    exact ⟨rfl, hB7⟩

set_option maxRecDepth 100000 in
theorem lifted_FnExactMintCap (os : Os) (started : os.Started) (H : Type) (enc : TypeId × Value → H) :
    ReturnsInHanded {} Try.checked os 7 .any (Rows.fnExactMintCapSpec.pre6 enc Try.prog Try.f7 Rows.fnExactMintCapRow.domain false) (Rows.fnExactMintCapSpec.post enc Try.prog Try.f7 false true false false) := by
  refine returnsInHanded_of_change (C := Try.checked) row_own started (by kernel_rfl) Try.func7
    (ChangeSpec.witness6 (enc := enc) (C := Try.checked) false ⟨#[], #[.agg #[.int .i64 0, .int .i64 0, .int .i64 0, .int .i64 0], .int .i64 0, .int .i64 0], []⟩ 8 (by kernel_rfl) (by kernel_rfl) (by kernel_rfl) (by kernel_rfl)) ?_
  intro W base args ds gs before hval0 hW hcnd _
  have hval : ∀ (j : Nat) t v, Try.f7.params[j]? = some t → args[j]? = some v → Value.okWide Try.prog W .any base t v := hval0
  have hW' := hW
  obtain ⟨p, q, hA0, hV, rfl, hfz, hnd⟩ := hW
  have hA : DataW.TrodAll enc Try.prog W 0 (fun _ => true) true Try.f7.params.toList args.toList ds p := hA0
  rw [Try.params7] at hA hval
  obtain ⟨v0, vs0, d0, ds0, p0, q0, hargs, rfl, rfl, h0, r0⟩ := trodAll_cons hA
  obtain ⟨v1, vs1, d1, ds1, p1, q1, rfl, rfl, rfl, h1, r1⟩ := trodAll_cons r0
  obtain ⟨v2, vs2, d2, ds2, p2, q2, rfl, rfl, rfl, h2, r2⟩ := trodAll_cons r1
  obtain ⟨rfl, rfl, rfl⟩ := trodAll_nil r2
  obtain rfl : args = #[v0, v1, v2] := by cases args; simp_all
  obtain ⟨rfl, rfl⟩ := trodVars_none hV
  have k0 := h0
  have lt0 : ∀ x ∈ p0, x.block < W.heap.size := by obtain ⟨m, hm⟩ := k0; exact DataW.trod_lt m _ _ _ hm
  have w0 := open_cap (hval 0 23 v0 rfl rfl) h0
  obtain ⟨a1, rfl, rfl, rfl, w1⟩ := open_int Try.underlying3 (hval 1 3 v1 rfl rfl) h1
  obtain ⟨a2, rfl, rfl, rfl, w2⟩ := open_int Try.underlying3 (hval 2 3 v2 rfl rfl) h2
  clear hA0 hval0
  refine (walk_FnExactMintCap v0 a1 a2 W w0 w1 w2).mono fun e W' ⟨he, bel⟩ => ?_
  subst he
  exact ⟨_, rfl, _, _, _, [], _, [], hW', trodAll_mk1 (shut_bool Try.underlying4 _), (trodAll_cons_mk (Below.trod row_laidOut (by kernel_rfl) (of_decide_eq_true (by kernel_rfl)) k0 bel lt0) (trodAll_cons_mk (shut_int Try.underlying3 w1) (trodAll_cons_mk (shut_int Try.underlying3 w2) trodAll_mk0))), rfl, bel.frame _, fun h => by cases h⟩

theorem over_FnExactMintCap : Rows.fnExactMintCapRow.holds Try.pinned (OpenSpec.ofChange Rows.fnExactMintCapSpec) :=
  OpenClaim.holds_of_wide 7 Try.f7 rfl rfl rfl rfl rfl rfl rfl ⟨rfl, rfl, rfl, rfl, rfl⟩ rfl rfl rfl rfl rfl (by kernel_rfl) Try.func7 (by kernel_rfl)
    (of_decide_eq_true (by kernel_rfl)) (by unfold Func.isWrapper; first | (rw [if_pos (by decide +kernel)]; kernel_rfl) | (rw [if_neg (by decide +kernel)]; exact ⟨rfl, rfl⟩))
    (fun os started H enc _ => lifted_FnExactMintCap os started H enc)

theorem FnExactMintCap_holds : Rows.FnExactMintCapSaid := over_FnExactMintCap

end Go.Proofs.Ytciebhdoafhkbaa
