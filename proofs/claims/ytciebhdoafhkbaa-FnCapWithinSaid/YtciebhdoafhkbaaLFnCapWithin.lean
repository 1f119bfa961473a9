/- The law FnCapWithin: whatever its arguments, the call returns true, and every argument reads afterwards as it read before. No condition. -/
import Derived.Test.YtciebhdoafhkbaaCapPlain
import Derived.Test.YtciebhdoafhkbaaDrawCapLaws
namespace Go.Proofs.Ytciebhdoafhkbaa
open Go.ChangeShapes Go.WideShapes Go.ChangeAt Go.RowKit
open Go.ChangeMaps (open_string shut_string)
set_option linter.unusedVariables false

set_option maxHeartbeats 4000000 in
theorem walk_FnCapWithin (v0 : Value) (w : World) (w0 : BytesIn w v0) :
    Calls Try.prog 14 #[v0] w fun e w' => e = .returned (.bool true) ∧ Below w.heap.size w w' := by
  have hd := drawCapWithin v0 w w0
  obtain ⟨A, n, cap, bs, rfl, hn, hc, _⟩ := w0
  by_cases h20 : (1048576 : Int) < (n : Int)
  · go_enter Try.func14, Try.ntmps14
    go_wp2_with fail
    go_ret
    exact ⟨rfl, Below.refl _ _⟩
  · go_enter Try.func14, Try.ntmps14
    go_wp2_with fail
    refine hd.mono ?_
    rintro e w1 ⟨k, o, r, x, k', o', r', x', rfl, hb1⟩
    have hI := impl_CapWithin k o r x k' o' r' x'
    have hS := spec_CapWithin k o r x k' o' r' x'
    go_wp2_with fail
    refine (hI _).mono ?_
    rintro e w2 ⟨rfl, hb2⟩
    have hA := IAt.belowSelf (IAt.alloc (IAt.new w1 25 [k, o, r, x]) (.cells #[.int .i64 k', .int .i64 o', .int .i64 r', .int .i64 x'] 25)) hb2
    have hC := IAt.belowSelf (IAt.new (w1.alloc (.cells #[.int .i64 k, .int .i64 o, .int .i64 r, .int .i64 x] 25)) 25 [k', o', r', x']) hb2
    rw [show (w1.alloc (.cells #[.int .i64 k, .int .i64 o, .int .i64 r, .int .i64 x] 25)).heap.size = w1.heap.size + 1 by simp] at hC
    have hB := below_next (below_al (below_al hb1 _) _) hb2
    have hlt := hC.lt
    clear hb1 hb2 hd
    generalize w1.heap.size = p at *
    obtain ⟨c0, c1, c2, c3⟩ := hA.cells4
    obtain ⟨d0, d1, d2, d3⟩ := hC.cells4
    go_wp2_with fail
    refine (hS _).mono ?_
    rintro e w3 ⟨rfl, hb3⟩
    clear c0 c1 c2 c3 d0 d1 d2 d3
    have hA3 := hA.belowSelf hb3
    have hC3 := hC.belowSelf hb3
    have hB3 := below_next hB hb3
    clear hA hC hB hb3
    obtain ⟨c0, c1, c2, c3⟩ := hA3.cells4
    obtain ⟨d0, d1, d2, d3⟩ := hC3.cells4
    have hlt3 := hC3.lt
    have hlt4 := hA3.lt
    cases va : capOk k o r x
    · rw [within_bad (Or.inl va)]
      go_wp2_with (go_at_call 15; refine (spec_CapValid _ _ _ _ _).mono ?_; rintro e w' ⟨rfl, rfl⟩)
      refine (laws_alive _).mono ?_
      rintro e w4 ⟨rfl, hb4⟩
      go_wp2_with fail
      go_ret
      exact ⟨rfl, below_next (below_al hB3 _) hb4⟩
    · cases vb : capOk k' o' r' x'
      · rw [within_bad (Or.inr vb)]
        go_wp2_with (go_at_call 15; refine (spec_CapValid _ _ _ _ _).mono ?_; rintro e w' ⟨rfl, rfl⟩)
        refine (laws_alive _).mono ?_
        rintro e w4 ⟨rfl, hb4⟩
        go_wp2_with fail
        go_ret
        exact ⟨rfl, below_next (below_al (below_al hB3 _) _) hb4⟩
      · have SA := within_self va
        have hWA := impl_CapWithin k o r x k o r x
        rw [SA] at hWA
        have K := fun h0 h1 h7 => kin_reached (k' := k') (x' := x') (o' := o') (r' := r') va vb h0 h1 h7
        have hMM := impl_MintCap_is k' o' r' x' r (kinBadge x x')
        unfold Minted at hMM
        clear SA hI hS
        have hK0 : (if x' == x then 0 else x) = kinBadge x x' := rfl
        generalize capWithin k o r x k' o' r' x' = W at *
        generalize kinBadge x x' = j at *
        generalize mintOk k' o' r' x' r j = t at *
        generalize bits .and .i64 r' r = R at *
        generalize mintB x' j = X at *
        cases hx : (x' == x)
        all_goals
          rw [hx] at hK0
          simp only [if_true, if_false, Bool.false_eq_true] at hK0
          subst hK0
          go_wp2_with (go_at_call 15; refine (spec_CapValid _ _ _ _ _).mono ?_; rintro e w' ⟨rfl, rfl⟩)
          refine (hMM _).mono ?_
          rintro e w5 ⟨rfl, hb5⟩
          have hA5 := IAt.belowSelf (IAt.alloc (IAt.alloc hA3 _) _) hb5
          have hC5 := IAt.belowSelf (IAt.alloc (IAt.alloc hC3 _) _) hb5
          have hB5 := below_next (below_al (below_al hB3 _) _) hb5
          clear hb5 hB3 hA3 hC3 c0 c1 c2 c3 d0 d1 d2 d3 hMM
          have hlt5 := hA5.lt
          have hlc5 := hC5.lt
          obtain ⟨c0, c1, c2, c3⟩ := hA5.cells4
          obtain ⟨d0, d1, d2, d3⟩ := hC5.cells4
          generalize hZ : sel t k' = Z0 at *
          generalize hZ1 : sel t o' = Z1 at *
          generalize hZ2 : sel t R = Z2 at *
          generalize hZ3 : sel t X = Z3 at *
          cases h0 : (k' == 0) <;> cases h1 : (k' == 1) <;> cases h7 : (k' == 7)
          all_goals
            have hn0 : (k' != 0) = !(k' == 0) := rfl
            have hn1 : (k' != 1) = !(k' == 1) := rfl
            have hn7 : (k' != 7) = !(k' == 7) := rfl
            rw [h0] at hn0
            rw [h1] at hn1
            rw [h7] at hn7
            simp only [Bool.not_false, Bool.not_true] at hn0 hn1 hn7
            have hA6 := fun o => IAt.alloc hA5 o
            have hZ6 := IAt.new w5 25 [Z0, Z1, Z2, Z3]
            go_wp2_with fail
            refine (hWA _).mono ?_
            rintro e w7 ⟨rfl, hb7⟩
            have hA7 := IAt.belowSelf (hA6 _) hb7
            have hZ7 := IAt.belowSelf hZ6 hb7
            have hB7 := below_next (below_al hB5 _) hb7
            clear hA6 hZ6 hb7 hA5 hC5 hB5 c0 c1 c2 c3 d0 d1 d2 d3
            obtain ⟨c0, c1, c2, c3⟩ := hA7.cells4
            obtain ⟨d0, d1, d2, d3⟩ := hZ7.cells4
          all_goals first
            | (have K' := K h0 h1 h7
               rcases K' with ⟨rfl, rfl⟩ | ⟨rfl, hW⟩
               · go_wp2_with fail
                 go_ret
                 exact ⟨rfl, hB7⟩
               · have e0 : k' = Z0 := hZ
                 have e1 : o' = Z1 := hZ1
                 have e2 : R = Z2 := hZ2
                 have e3 : X = Z3 := hZ3
                 subst e0 e1 e2 e3
                 cases q0 : (k' == k) <;> cases q1 : (o' == o) <;> cases q2 : (R == r) <;> cases q3 : (X == x)
                 all_goals
                   rw [q0, q1, q2, q3] at hW
                   simp only [Bool.and_true, Bool.and_false] at hW
                   subst hW
                   go_wp2_with fail
                   go_ret
                   refine ⟨ret_bool ?_, hB7⟩
                   first | rfl | (simp; done) | (simp [q0, q1, q2, q3]; done) | (simp at q0 q1 q2 q3; simp [q0, q1, q2, q3]; done))
            | (go_wp2_with fail
               go_ret
               exact ⟨rfl, hB7⟩)

set_option maxRecDepth 100000 in
theorem lifted_FnCapWithin (os : Os) (started : os.Started) (H : Type) (enc : TypeId × Value → H) :
    ReturnsInHanded {} Try.checked os 14 .any (Rows.fnCapWithinSpec.pre6 enc Try.prog Try.f14 Rows.fnCapWithinRow.domain false) (Rows.fnCapWithinSpec.post enc Try.prog Try.f14 false true false false) := by
  refine returnsInHanded_of_change (C := Try.checked) row_own started (by kernel_rfl) Try.func14
    (ChangeSpec.witness6 (enc := enc) (C := Try.checked) false ⟨#[], #[.slice none 0 0], []⟩ 8 (by kernel_rfl) (by kernel_rfl) (by kernel_rfl) (by kernel_rfl)) ?_
  intro W base args ds gs before hval0 hW hcnd _
  have hval : ∀ (j : Nat) t v, Try.f14.params[j]? = some t → args[j]? = some v → Value.okWide Try.prog W .any base t v := hval0
  have hW' := hW
  obtain ⟨p, q, hA0, hV, rfl, hfz, hnd⟩ := hW
  have hA : DataW.TrodAll enc Try.prog W 0 (fun _ => true) true Try.f14.params.toList args.toList ds p := hA0
  rw [Try.params14] at hA hval
  obtain ⟨v0, vs0, d0, ds0, p0, q0, hargs, rfl, rfl, h0, r0⟩ := trodAll_cons hA
  obtain ⟨rfl, rfl, rfl⟩ := trodAll_nil r0
  obtain rfl : args = #[v0] := by cases args; simp_all
  obtain ⟨rfl, rfl⟩ := trodVars_none hV
  have k0 := h0
  have lt0 : ∀ x ∈ p0, x.block < W.heap.size := by obtain ⟨m, hm⟩ := k0; exact DataW.trod_lt m _ _ _ hm
  have w0 := open_bytes (hval 0 36 v0 rfl rfl) h0
  clear hA0 hval0
  refine (walk_FnCapWithin v0 W w0).mono fun e W' ⟨he, bel⟩ => ?_
  subst he
  exact ⟨_, rfl, _, _, _, [], _, [], hW', trodAll_mk1 (shut_bool Try.underlying4 _), (trodAll_cons_mk (Below.trod row_laidOut (by kernel_rfl) (of_decide_eq_true (by kernel_rfl)) k0 bel lt0) trodAll_mk0), rfl, bel.frame _, fun h => by cases h⟩

theorem over_FnCapWithin : Rows.fnCapWithinRow.holds Try.pinned (OpenSpec.ofChange Rows.fnCapWithinSpec) :=
  OpenClaim.holds_of_wide 14 Try.f14 rfl rfl rfl rfl rfl rfl rfl ⟨rfl, rfl, rfl, rfl, rfl⟩ rfl rfl rfl rfl rfl (by kernel_rfl) Try.func14 (by kernel_rfl)
    (of_decide_eq_true (by kernel_rfl)) (by unfold Func.isWrapper; first | (rw [if_pos (by decide +kernel)]; kernel_rfl) | (rw [if_neg (by decide +kernel)]; exact ⟨rfl, rfl⟩))
    (fun os started H enc _ => lifted_FnCapWithin os started H enc)

theorem FnCapWithin_holds : Rows.FnCapWithinSaid := over_FnCapWithin

end Go.Proofs.Ytciebhdoafhkbaa
