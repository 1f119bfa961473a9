/- The law FnExactDeriveCap: whatever its arguments, the call returns true, and every argument reads afterwards as it read before. No condition. -/
import Derived.Test.YtpglfbjjmnaojaaDerive
namespace Go.Proofs.Ytpglfbjjmnaojaa
open Go.ChangeShapes Go.WideShapes Go.ChangeAt Go.RowKit
open Go.ChangeMaps (open_string shut_string)
set_option linter.unusedVariables false

set_option maxRecDepth 8000 in
set_option maxHeartbeats 8000000 in
theorem walk_FnExactDeriveCap (v0 : Value) (a1 : Int) (a2 : Int) (a3 : Int) (w : World) (w0 : EntIn w v0) (w1 : (Lit.int .i64 a1).wf = true) (w2 : (Lit.int .i64 a2).wf = true) (w3 : (Lit.int .i64 a3).wf = true) :
    Calls Try.prog 8 #[v0, .int .i64 a1, .int .i64 a2, .int .i64 a3] w fun e w' => e = .returned (.bool true) ∧ Below w.heap.size w w' := by
  obtain ⟨A, n, c, es, rfl, hR⟩ := w0
  have hcn := hR.2.1
  have hcm := hR.2.2.1
  have hsz := fun W => laws_szEntryS A n c 1048576 W (by omega) (by omega) (by omega)
  by_cases hbig : (1048576 : Int) < (n : Int)
  · rw [if_pos hbig] at hsz
    go_enter Try.func8, Try.ntmps8
    go_wp2_with (first | (go_at_call 17; refine (hsz _).mono ?_; rintro e w' ⟨rfl, rfl⟩))
    go_ret
    exact ⟨rfl, Below.refl _ _⟩
  · rw [if_neg hbig] at hsz
    have hge : ¬ (1048576 : Int) - (n : Int) < 0 := by omega
    have hR0 := Lib.hid hR
    clear hcm
    have hT := fun W (h : EntR W A n c es) => laws_toEntryS A n c es W h (by omega)
    have hS := fun A' c' b W (h : EntO W b A' n c' es) => spec_DeriveCap_e A' n c' b es a1 a2 a3 W h (by omega)
    have hI := fun A' c' b W (h : EntO W b A' n c' es) => impl_DeriveCap A' n c' b es a1 a2 a3 W h (by omega)
    have hlen : (derL es a1 a2 a3).length ≤ n + 1 := by have := derL_len es a1 a2 a3; have := hR.1; omega
    generalize derN es a1 a2 a3 = z0 at *
    generalize derOk es a1 a2 a3 = z1 at *
    generalize derL es a1 a2 a3 = L at *
    have hlen' : L.length ≤ 1000000 + 1000000 := by omega
    have hk8 : ¬ ((1 : Int) + 6 * (n : Int) < 0) := by omega
    have hk10 : ¬ ((1 : Int) + 6 * (L.length : Int) < 0) := by omega
    clear hcn hR0
    go_enter Try.func8, Try.ntmps8
    go_wp2_with (first | (go_at_call 17; refine (hsz _).mono ?_; rintro e w' ⟨rfl, rfl⟩))
    refine (hT _ hR).mono ?_
    rintro e w1 ⟨⟨A1, c1, rfl, hO1⟩, hb1⟩
    go_wp2_with fail
    refine (hS A1 c1 _ _ hO1).mono ?_
    rintro e w2 ⟨S, s, rfl, hS2, hb2⟩
    have hB2 := below_next hb1 hb2
    have hz2 := hB2.size
    clear hb1 hb2 hO1 hS
    go_wp2_with fail
    refine (hT _ (hR.below hB2)).mono ?_
    rintro e w3 ⟨⟨A3, c3, rfl, hO3⟩, hb3⟩
    have hB3 := below_next hB2 hb3
    clear hB2
    go_wp2_with fail
    refine (hI A3 c3 _ _ hO3).mono ?_
    rintro e w4 ⟨G, g, rfl, hG4, hb4⟩
    have hz3 := hb3.size
    have hx4 := hO3.below hb4
    have hC4 := below_next hb3 hb4
    have hB4 := below_next hB3 hb4
    have hrow := hO3.row
    clear hb3 hb4 hB3 hO3
    go_wp2_with fail
    refine (laws_eqEntryS G S L.length g s _ _ L _ hG4 (hS2.below hC4) (by omega)).mono ?_
    rintro e w5 ⟨rfl, hb5⟩
    have hx5 := hx4.below hb5
    have hG5 := hG4.below hb5
    have hC5 := below_next hC4 (hb5.mono (Nat.le_refl _))
    have hB5 := below_next hB4 hb5
    clear hb5 hx4 hG4 hC4 hB4
    go_wp2_with fail
    refine (hT _ (hR.below hB5)).mono ?_
    rintro e w6 ⟨⟨A6, c6, rfl, hO6⟩, hb6⟩
    have hx6 := hx5.below hb6
    have hG6 := hG5.below hb6
    have hC6 := below_next hC5 hb6
    have hB6 := below_next hB5 hb6
    clear hb6 hx5 hG5 hC5 hB5
    go_wp2_with fail
    refine (laws_eqEntryS A3 A6 n c3 c6 _ _ es _ hx6 hO6 (by omega)).mono ?_
    rintro e w7 ⟨rfl, hb7⟩
    have hx7 := hx6.below hb7
    have hG7 := hG6.below hb7
    have hC7 := below_next hC6 hb7
    have hB7 := below_next hB6 hb7
    clear hb7 hx6 hG6 hC6 hB6 hO6
    go_wp2_with fail
    refine (laws_markEntryS A3 n c3 _ es 1 _ hx7 (by omega) (by omega) (by omega)).mono ?_
    rintro e w8 ⟨rfl, -, hg8⟩
    have hG8 := hG7.grownFar hg8 (fun x e => (hrow x e).2)
    have hC8 := below_grown hC7 hC7.size hg8 (fun x e => (hrow x e).1)
    have hB8 := below_grown hB7 hB7.size hg8 (fun x e => by have := (hrow x e).1; have := hz2; omega)
    clear hg8 hx7 hG7 hC7 hB7
    go_wp2_with fail
    refine (laws_eqEntryS G S L.length g s _ _ L _ hG8 (hS2.below hC8) (by omega)).mono ?_
    rintro e w9 ⟨rfl, hb9⟩
    have hG9 := hG8.below hb9
    have hC9 := below_next hC8 hb9
    have hB9 := below_next hB8 hb9
    clear hb9 hG8 hC8 hB8
    go_wp2_with fail
    refine (laws_markEntryS G L.length g _ L 1 _ hG9 (by omega) (by omega) (by omega)).mono ?_
    rintro e w10 ⟨rfl, hG10, hg10⟩
    have hC10 := below_grown hC9 hC9.size hg10 (fun x e => by have := (hG9.row x e).1; omega)
    have hB10 := below_grown hB9 hB9.size hg10 (fun x e => by have := (hG9.row x e).1; have := hz2; omega)
    clear hg10 hG9 hC9 hB9
    go_wp2_with fail
    refine (laws_heldEntryS G L.length g _ 1 _ hG10 (by omega) (by omega) (by omega)).mono ?_
    rintro e w' ⟨rfl, rfl⟩
    go_wp2_with fail
    refine (hT _ (hR.below hB10)).mono ?_
    rintro e w11 ⟨⟨A11, c11, rfl, hO11⟩, hb11⟩
    have hG11 := hG10.below hb11
    have hC11 := below_next hC10 hb11
    have hB11 := below_next hB10 hb11
    clear hb11 hG10 hC10 hB10
    go_wp2_with fail
    refine (hI A11 c11 _ _ hO11).mono ?_
    rintro e w12 ⟨H, h, rfl, hH12, hb12⟩
    have hG12 := hG11.below hb12
    have hC12 := below_next hC11 hb12
    have hB12 := below_next hB11 hb12
    clear hb12 hG11 hC11 hB11 hO11
    go_wp2_with fail
    refine (laws_eqEntryS H S L.length h s _ _ L _ hH12 (hS2.below hC12) (by omega)).mono ?_
    rintro e w13 ⟨rfl, hb13⟩
    have hG13 := hG12.below hb13
    have hB13 := below_next hB12 hb13
    clear hb13 hG12 hC12 hB12
    go_wp2_with fail
    refine (laws_heldEntryS G L.length g _ 1 _ hG13 (by omega) (by omega) (by omega)).mono ?_
    rintro e w' ⟨rfl, rfl⟩
    go_wp2_with fail
    go_ret
    exact ⟨rfl, hB13⟩

set_option maxRecDepth 100000 in
theorem lifted_FnExactDeriveCap (os : Os) (started : os.Started) (H : Type) (enc : TypeId × Value → H) :
    ReturnsInHanded {} Try.checked os 8 .any (Rows.fnExactDeriveCapSpec.pre6 enc Try.prog Try.f8 Rows.fnExactDeriveCapRow.domain false) (Rows.fnExactDeriveCapSpec.post enc Try.prog Try.f8 false true false false) := by
  refine returnsInHanded_of_change (C := Try.checked) row_own started (by kernel_rfl) Try.func8
    (ChangeSpec.witness6 (enc := enc) (C := Try.checked) false ⟨#[], #[.slice none 0 0, .int .i64 0, .int .i64 0, .int .i64 0], []⟩ 8 (by kernel_rfl) (by kernel_rfl) (by kernel_rfl) (by kernel_rfl)) ?_
  intro W base args ds gs before hval0 hW hcnd _
  have hval : ∀ (j : Nat) t v, Try.f8.params[j]? = some t → args[j]? = some v → Value.okWide Try.prog W .any base t v := hval0
  have hW' := hW
  obtain ⟨p, q, hA0, hV, rfl, hfz, hnd⟩ := hW
  have hA : DataW.TrodAll enc Try.prog W 0 (fun _ => true) true Try.f8.params.toList args.toList ds p := hA0
  rw [Try.params8] at hA hval
  obtain ⟨v0, vs0, d0, ds0, p0, q0, hargs, rfl, rfl, h0, r0⟩ := trodAll_cons hA
  obtain ⟨v1, vs1, d1, ds1, p1, q1, rfl, rfl, rfl, h1, r1⟩ := trodAll_cons r0
  obtain ⟨v2, vs2, d2, ds2, p2, q2, rfl, rfl, rfl, h2, r2⟩ := trodAll_cons r1
  obtain ⟨v3, vs3, d3, ds3, p3, q3, rfl, rfl, rfl, h3, r3⟩ := trodAll_cons r2
  obtain ⟨rfl, rfl, rfl⟩ := trodAll_nil r3
  obtain rfl : args = #[v0, v1, v2, v3] := by cases args; simp_all
  obtain ⟨rfl, rfl⟩ := trodVars_none hV
  have k0 := h0
  have lt0 : ∀ x ∈ p0, x.block < W.heap.size := by obtain ⟨m, hm⟩ := k0; exact DataW.trod_lt m _ _ _ hm
  have w0 := open_entries (hval 0 22 v0 rfl rfl) h0
  obtain ⟨a1, rfl, rfl, rfl, w1⟩ := open_int Try.underlying3 (hval 1 3 v1 rfl rfl) h1
  obtain ⟨a2, rfl, rfl, rfl, w2⟩ := open_int Try.underlying3 (hval 2 3 v2 rfl rfl) h2
  obtain ⟨a3, rfl, rfl, rfl, w3⟩ := open_int Try.underlying3 (hval 3 3 v3 rfl rfl) h3
  clear hA0 hval0
  refine (walk_FnExactDeriveCap v0 a1 a2 a3 W w0 w1 w2 w3).mono fun e W' ⟨he, bel⟩ => ?_
  subst he
  exact ⟨_, rfl, _, _, _, [], _, [], hW', trodAll_mk1 (shut_bool Try.underlying4 _), (trodAll_cons_mk (Below.trod row_laidOut (by kernel_rfl) (of_decide_eq_true (by kernel_rfl)) k0 bel lt0) (trodAll_cons_mk (shut_int Try.underlying3 w1) (trodAll_cons_mk (shut_int Try.underlying3 w2) (trodAll_cons_mk (shut_int Try.underlying3 w3) trodAll_mk0)))), rfl, bel.frame _, fun h => by cases h⟩

theorem over_FnExactDeriveCap : Rows.fnExactDeriveCapRow.holds Try.pinned (OpenSpec.ofChange Rows.fnExactDeriveCapSpec) :=
  OpenClaim.holds_of_wide 8 Try.f8 rfl rfl rfl rfl rfl rfl rfl ⟨rfl, rfl, rfl, rfl, rfl⟩ rfl rfl rfl rfl rfl (by kernel_rfl) Try.func8 (by kernel_rfl)
    (of_decide_eq_true (by kernel_rfl)) (by unfold Func.isWrapper; first | (rw [if_pos (by decide +kernel)]; kernel_rfl) | (rw [if_neg (by decide +kernel)]; exact ⟨rfl, rfl⟩))
    (fun os started H enc _ => lifted_FnExactDeriveCap os started H enc)

theorem FnExactDeriveCap_holds : Rows.FnExactDeriveCapSaid := over_FnExactDeriveCap

end Go.Proofs.Ytpglfbjjmnaojaa
