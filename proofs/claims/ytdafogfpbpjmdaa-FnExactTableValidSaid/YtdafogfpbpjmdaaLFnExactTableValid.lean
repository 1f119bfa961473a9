/- The law FnExactTableValid: whatever its arguments, the call returns true, and every argument reads afterwards as it read before. No condition. -/
import Derived.Test.YtdafogfpbpjmdaaTabX
import Derived.Test.YtdafogfpbpjmdaaTabT
namespace Go.Proofs.Ytdafogfpbpjmdaa
open Go.ChangeShapes Go.WideShapes Go.ChangeAt Go.RowKit
open Go.ChangeMaps (open_string shut_string)
set_option linter.unusedVariables false

set_option maxHeartbeats 4000000 in
theorem walk_FnExactTableValid (v0 : Value) (w : World) (w0 : TableIn w v0) :
    Calls Try.prog 3 #[v0] w fun e w' => e = .returned (.bool true) ∧ Below w.heap.size w w' := by
  obtain ⟨⟨bits, guard, gbits, cs⟩, S, c, rfl, hnc, hcm, hR⟩ := w0
  simp only at hnc hcm hR ⊢
  generalize hn : cs.length = n at *
  clear hn
  have hsz := fun W => laws_szTable bits guard gbits S n c 1048576 W (by omega) (by omega) (by omega)
  by_cases hbig : (1048576 : Int) < (n : Int)
  · rw [if_pos hbig] at hsz
    go_enter Try.func3, Try.ntmps3
    go_wp2_with fail
    refine (hsz _).mono ?_
    rintro e w1 ⟨rfl, hb1⟩
    have hB1 := below_next (below_al (Below.refl _ w) _) hb1
    clear hb1
    go_wp2_with fail
    go_ret
    exact ⟨rfl, hB1⟩
  · rw [if_neg hbig] at hsz
    have hge : ¬ (1048576 : Int) - (n : Int) < 0 := by omega
    have hn2 : n ≤ 2000000 := by omega
    have hT := fun W (h : Below w.heap.size w W) => laws_toTable bits guard gbits S n c cs W (hR.below h) hn2
    have hSV := fun A q W (h : CapRd W A n cs) => spec_TableValid bits guard gbits A n q cs W h hn2
    have hIV := fun A q W (h : CapRd W A n cs) => impl_TableValid bits guard gbits A n q cs W h hn2
    have hEQ := fun A q A' q' W (h : CapRd W A n cs) (h' : CapRd W A' n cs) => laws_eqTable bits guard gbits A A' n q q' cs W h h' hn2
    generalize tabOk ⟨bits, guard, gbits, cs⟩ = z at *
    clear hcm hnc hR hn2
    go_enter Try.func3, Try.ntmps3
    go_wp2_with fail
    refine (hsz _).mono ?_
    rintro e w1 ⟨rfl, hb1⟩
    have hX1 := (CAt.new w 24 [.int .i64 bits, .int .i64 guard, .int .i64 gbits, .slice S n c]).below hb1
    have hB1 := below_next (below_al (Below.refl _ w) _) hb1
    obtain ⟨x0, x1, x2, x3⟩ := hX1.cells4
    clear hb1 hsz
    go_wp2_with fail
    refine (hT _ hB1).mono ?_
    rintro e w2 ⟨⟨A2, q2, rfl, hO2⟩, hb2⟩
    have hX2 := hX1.below hb2
    have hB2 := below_next hB1 hb2
    obtain ⟨x0, x1, x2, x3⟩ := hX2.cells4
    clear hb2 hX1 hB1
    go_wp2_with fail
    refine (hSV A2 q2 _ hO2.rd).mono ?_
    rintro e w3 ⟨rfl, hb3⟩
    have hX3 := hX2.below hb3
    have hB3 := below_next hB2 hb3
    obtain ⟨x0, x1, x2, x3⟩ := hX3.cells4
    clear hb3 hX2 hB2 hO2 hSV
    go_wp2_with fail
    refine (hT _ hB3).mono ?_
    rintro e w4 ⟨⟨A4, q4, rfl, hO4⟩, hb4⟩
    have hX4 := hX3.below hb4
    have hB4 := below_next hB3 hb4
    obtain ⟨x0, x1, x2, x3⟩ := hX4.cells4
    clear hb4 hX3 hB3
    go_wp2_with fail
    have hO5 := hO4.rd.below (below_al (Below.refl _ w4) (.cells #[.int .i64 bits, .int .i64 guard, .int .i64 gbits, .slice A4 n q4] 29))
    refine (hIV A4 q4 _ hO5).mono ?_
    rintro e w6 ⟨rfl, hb6⟩
    have hX6 := (hX4.alloc _).below hb6
    have hY6 := (CAt.new w4 29 [.int .i64 bits, .int .i64 guard, .int .i64 gbits, .slice A4 n q4]).below hb6
    have hO6 := hO5.below hb6
    have hB6 := below_next (below_al hB4 _) hb6
    obtain ⟨x0, x1, x2, x3⟩ := hX6.cells4
    obtain ⟨y0, y1, y2, y3⟩ := hY6.cells4
    clear hb6 hX4 hB4 hO4 hO5 hIV
    go_wp2_with fail
    go_region_with (first
      | (go_at_call 17; refine (hT _ (hB6.drew)).mono ?_; rintro e w7 ⟨⟨A7, q7, rfl, hO7⟩, hb7'⟩; have hb7 : Below w6.heap.size w6 w7 := Below.trans (Below.refl _ w6).drew hb7'; obtain ⟨y0', y1', y2', y3'⟩ := (hY6.below hb7).cells4)
      | (go_at_call 19; refine (hEQ A4 q4 A7 q7 _ (hO6.below hb7) hO7.rd).mono ?_; rintro e w8 ⟨rfl, hb8⟩))
    all_goals (go_wp2_with fail)
    all_goals go_ret
    all_goals exact ⟨rfl, below_next (below_next hB6 hb7) hb8⟩

set_option maxRecDepth 100000 in
theorem lifted_FnExactTableValid (os : Os) (started : os.Started) (H : Type) (enc : TypeId × Value → H) :
    ReturnsInHanded {} Try.checked os 3 .any (Rows.fnExactTableValidSpec.pre6 enc Try.prog Try.f3 Rows.fnExactTableValidRow.domain false) (Rows.fnExactTableValidSpec.post enc Try.prog Try.f3 false true false false) := by
  refine returnsInHanded_of_change (C := Try.checked) row_own started (by kernel_rfl) Try.func3
    (ChangeSpec.witness6 (enc := enc) (C := Try.checked) false ⟨#[], #[.agg #[.int .i64 0, .int .i64 0, .int .i64 0, .slice none 0 0]], []⟩ 8 (by kernel_rfl) (by kernel_rfl) (by kernel_rfl) (by kernel_rfl)) ?_
  intro W base args ds gs before hval0 hW hcnd _
  have hval : ∀ (j : Nat) t v, Try.f3.params[j]? = some t → args[j]? = some v → Value.okWide Try.prog W .any base t v := hval0
  have hW' := hW
  obtain ⟨p, q, hA0, hV, rfl, hfz, hnd⟩ := hW
  have hA : DataW.TrodAll enc Try.prog W 0 (fun _ => true) true Try.f3.params.toList args.toList ds p := hA0
  rw [Try.params3] at hA hval
  obtain ⟨v0, vs0, d0, ds0, p0, q0, hargs, rfl, rfl, h0, r0⟩ := trodAll_cons hA
  obtain ⟨rfl, rfl, rfl⟩ := trodAll_nil r0
  obtain rfl : args = #[v0] := by cases args; simp_all
  obtain ⟨rfl, rfl⟩ := trodVars_none hV
  have k0 := h0
  have lt0 : ∀ x ∈ p0, x.block < W.heap.size := by obtain ⟨m, hm⟩ := k0; exact DataW.trod_lt m _ _ _ hm
  have w0 := open_table (hval 0 24 v0 rfl rfl) h0
  clear hA0 hval0
  refine (walk_FnExactTableValid v0 W w0).mono fun e W' ⟨he, bel⟩ => ?_
  subst he
  exact ⟨_, rfl, _, _, _, [], _, [], hW', trodAll_mk1 (shut_bool Try.underlying4 _), (trodAll_cons_mk (Below.trod row_laidOut (by kernel_rfl) (of_decide_eq_true (by kernel_rfl)) k0 bel lt0) trodAll_mk0), rfl, bel.frame _, fun h => by cases h⟩

theorem over_FnExactTableValid : Rows.fnExactTableValidRow.holds Try.pinned (OpenSpec.ofChange Rows.fnExactTableValidSpec) :=
  OpenClaim.holds_of_wide 3 Try.f3 rfl rfl rfl rfl rfl rfl rfl ⟨rfl, rfl, rfl, rfl, rfl⟩ rfl rfl rfl rfl rfl (by kernel_rfl) Try.func3 (by kernel_rfl)
    (of_decide_eq_true (by kernel_rfl)) (by unfold Func.isWrapper; first | (rw [if_pos (by decide +kernel)]; kernel_rfl) | (rw [if_neg (by decide +kernel)]; exact ⟨rfl, rfl⟩))
    (fun os started H enc _ => lifted_FnExactTableValid os started H enc)

theorem FnExactTableValid_holds : Rows.FnExactTableValidSaid := over_FnExactTableValid

end Go.Proofs.Ytdafogfpbpjmdaa
