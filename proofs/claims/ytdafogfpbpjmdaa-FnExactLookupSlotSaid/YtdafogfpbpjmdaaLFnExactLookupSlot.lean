/- The law FnExactLookupSlot: whatever its arguments, the call returns true, and every argument reads afterwards as it read before. No condition. -/
import Derived.Test.YtdafogfpbpjmdaaLookS
import Derived.Test.YtdafogfpbpjmdaaLookI
namespace Go.Proofs.Ytdafogfpbpjmdaa
open Go.ChangeShapes Go.WideShapes Go.ChangeAt Go.RowKit
open Go.ChangeMaps (open_string shut_string)
set_option linter.unusedVariables false

set_option maxRecDepth 8000 in
set_option maxHeartbeats 4000000 in
theorem walk_FnExactLookupSlot (v0 : Value) (a1 : Int) (a2 : Int) (a3 : Int) (w : World) (w0 : TablesIn w v0) (w1 : (Lit.int .i64 a1).wf = true) (w2 : (Lit.int .i64 a2).wf = true) (w3 : (Lit.int .i64 a3).wf = true) :
    Calls Try.prog 6 #[v0, .int .i64 a1, .int .i64 a2, .int .i64 a3] w fun e w' => e = .returned (.bool true) ∧ Below w.heap.size w w' := by
  obtain ⟨A, n, c, ts, rfl, hnc, hcm, hR⟩ := w0
  have hsz := laws_szTableS A n c ts 1048576 w hR (by omega) (by omega) (by omega)
  have HR := Lib.hid hR
  clear hnc hcm hR
  go_enter Try.func6, Try.ntmps6
  go_wp2_with fail
  refine hsz.mono ?_
  rintro e w1 ⟨⟨r, rfl, -, hr⟩, hb1⟩
  clear hsz
  by_cases hneg : r < 0
  · go_wp2_with fail
    go_ret
    exact ⟨rfl, hb1⟩
  · obtain ⟨hn1, hs1⟩ := hr (by omega)
    have hn2 : n ≤ 2000000 := by omega
    have hs2 : SmallT ts := smallT_of HR.out.1 hs1
    clear hr hs1 hn1
    have hT := fun W (h : Below w.heap.size w W) => laws_toTableR A n c ts W (HR.out.below h) hn2 hs2
    have hSV := fun A q W (h : TabRd W A n ts) => spec_LookupSlot A n q ts a1 a2 a3 W h hn2 hs2
    have hIV := fun A q W (h : TabRd W A n ts) => impl_LookupSlot A n q ts a1 a2 a3 W h hn2 hs2
    have hEQ := fun A q A' q' W (h : TabRd W A n ts) (h' : TabRd W A' n ts) => laws_eqTableS A A' n q q' ts W h h' hn2 hs2
    clear hs2
    generalize look ts a1 a2 a3 = L at *
    rcases L with _ | ⟨t, s⟩
    all_goals
      simp only [lookV] at hSV hIV
      go_wp2_with fail
      refine (hT _ hb1).mono ?_
      rintro e w2 ⟨⟨A2, q2, rfl, hO2⟩, hb2⟩
      have hB2 := below_next hb1 hb2
      clear hb1 hb2
      go_wp2_with fail
      refine (hSV A2 q2 _ hO2).mono ?_
      rintro e w3 ⟨rfl, hb3⟩
      have hB3 := below_next hB2 hb3
      clear hb3 hB2 hO2 hSV
      go_wp2_with fail

      refine (hT _ hB3).mono ?_
      rintro e w4 ⟨⟨A4, q4, rfl, hO4⟩, hb4⟩
      have hB4 := below_next hB3 hb4

      clear hb4 hB3
      go_wp2_with fail
      refine (hIV A4 q4 _ hO4).mono ?_
      rintro e w5 ⟨rfl, hb5⟩
      have hB5 := below_next hB4 hb5
      have hO5 := hO4.below hb5

      clear hb5 hB4 hO4 hIV
      go_wp2_with fail
      have hB6 := hB5
      have hO6 := hO5
      clear hB5 hO5
      refine (hT _ hB6).mono ?_
      rintro e w7 ⟨⟨A7, q7, rfl, hO7⟩, hb7⟩
      have hB7 := below_next hB6 hb7
      have hO8 := hO6.below hb7
      clear hb7 hB6 hO6
      go_wp2_with fail
      refine (hEQ A4 q4 A7 q7 _ hO8 hO7).mono ?_
      rintro e w8 ⟨rfl, hb8⟩
      have hB8 := below_next hB7 hb8
      clear hb8 hB7 hO8 hO7
      go_wp2_with fail
      go_ret
      exact ⟨rfl, hB8⟩

set_option maxRecDepth 100000 in
theorem lifted_FnExactLookupSlot (os : Os) (started : os.Started) (H : Type) (enc : TypeId × Value → H) :
    ReturnsInHanded {} Try.checked os 6 .any (Rows.fnExactLookupSlotSpec.pre6 enc Try.prog Try.f6 Rows.fnExactLookupSlotRow.domain false) (Rows.fnExactLookupSlotSpec.post enc Try.prog Try.f6 false true false false) := by
  refine returnsInHanded_of_change (C := Try.checked) row_own started (by kernel_rfl) Try.func6
    (ChangeSpec.witness6 (enc := enc) (C := Try.checked) false ⟨#[], #[.slice none 0 0, .int .i64 0, .int .i64 0, .int .i64 0], []⟩ 8 (by kernel_rfl) (by kernel_rfl) (by kernel_rfl) (by kernel_rfl)) ?_
  intro W base args ds gs before hval0 hW hcnd _
  have hval : ∀ (j : Nat) t v, Try.f6.params[j]? = some t → args[j]? = some v → Value.okWide Try.prog W .any base t v := hval0
  have hW' := hW
  obtain ⟨p, q, hA0, hV, rfl, hfz, hnd⟩ := hW
  have hA : DataW.TrodAll enc Try.prog W 0 (fun _ => true) true Try.f6.params.toList args.toList ds p := hA0
  rw [Try.params6] at hA hval
  obtain ⟨v0, vs0, d0, ds0, p0, q0, hargs, rfl, rfl, h0, r0⟩ := trodAll_cons hA
  obtain ⟨v1, vs1, d1, ds1, p1, q1, rfl, rfl, rfl, h1, r1⟩ := trodAll_cons r0
  obtain ⟨v2, vs2, d2, ds2, p2, q2, rfl, rfl, rfl, h2, r2⟩ := trodAll_cons r1
  obtain ⟨v3, vs3, d3, ds3, p3, q3, rfl, rfl, rfl, h3, r3⟩ := trodAll_cons r2
  obtain ⟨rfl, rfl, rfl⟩ := trodAll_nil r3
  obtain rfl : args = #[v0, v1, v2, v3] := by cases args; simp_all
  obtain ⟨rfl, rfl⟩ := trodVars_none hV
  have k0 := h0
  have lt0 : ∀ x ∈ p0, x.block < W.heap.size := by obtain ⟨m, hm⟩ := k0; exact DataW.trod_lt m _ _ _ hm
  have w0 := open_tables (hval 0 33 v0 rfl rfl) h0
  obtain ⟨a1, rfl, rfl, rfl, w1⟩ := open_int Try.underlying3 (hval 1 3 v1 rfl rfl) h1
  obtain ⟨a2, rfl, rfl, rfl, w2⟩ := open_int Try.underlying3 (hval 2 3 v2 rfl rfl) h2
  obtain ⟨a3, rfl, rfl, rfl, w3⟩ := open_int Try.underlying3 (hval 3 3 v3 rfl rfl) h3
  clear hA0 hval0
  refine (walk_FnExactLookupSlot v0 a1 a2 a3 W w0 w1 w2 w3).mono fun e W' ⟨he, bel⟩ => ?_
  subst he
  exact ⟨_, rfl, _, _, _, [], _, [], hW', trodAll_mk1 (shut_bool Try.underlying4 _), (trodAll_cons_mk (Below.trod row_laidOut (by kernel_rfl) (of_decide_eq_true (by kernel_rfl)) k0 bel lt0) (trodAll_cons_mk (shut_int Try.underlying3 w1) (trodAll_cons_mk (shut_int Try.underlying3 w2) (trodAll_cons_mk (shut_int Try.underlying3 w3) trodAll_mk0)))), rfl, bel.frame _, fun h => by cases h⟩

theorem over_FnExactLookupSlot : Rows.fnExactLookupSlotRow.holds Try.pinned (OpenSpec.ofChange Rows.fnExactLookupSlotSpec) :=
  OpenClaim.holds_of_wide 6 Try.f6 rfl rfl rfl rfl rfl rfl rfl ⟨rfl, rfl, rfl, rfl, rfl⟩ rfl rfl rfl rfl rfl (by kernel_rfl) Try.func6 (by kernel_rfl)
    (of_decide_eq_true (by kernel_rfl)) (by unfold Func.isWrapper; first | (rw [if_pos (by decide +kernel)]; kernel_rfl) | (rw [if_neg (by decide +kernel)]; exact ⟨rfl, rfl⟩))
    (fun os started H enc _ => lifted_FnExactLookupSlot os started H enc)

theorem FnExactLookupSlot_holds : Rows.FnExactLookupSlotSaid := over_FnExactLookupSlot

end Go.Proofs.Ytdafogfpbpjmdaa
