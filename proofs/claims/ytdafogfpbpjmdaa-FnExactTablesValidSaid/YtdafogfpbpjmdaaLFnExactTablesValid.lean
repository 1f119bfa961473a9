/- The law FnExactTablesValid: whatever its arguments, the call returns true, and every argument reads afterwards as it read before. No condition. -/
import Derived.Test.YtdafogfpbpjmdaaTabR
namespace Go.Proofs.Ytdafogfpbpjmdaa
open Go.ChangeShapes Go.WideShapes Go.ChangeAt Go.RowKit
open Go.ChangeMaps (open_string shut_string)
set_option linter.unusedVariables false

set_option maxRecDepth 8000 in
set_option maxHeartbeats 4000000 in
theorem walk_FnExactTablesValid (v0 : Value) (w : World) (w0 : TablesIn w v0) :
    Calls Try.prog 4 #[v0] w fun e w' => e = .returned (.bool true) ∧ Below w.heap.size w w' := by
  obtain ⟨A, n, c, ts, rfl, hnc, hcm, hR⟩ := w0
  have hsz := laws_szTableS A n c ts 1048576 w hR (by omega) (by omega) (by omega)
  have HR := Lib.hid hR
  clear hnc hcm hR
  go_enter Try.func4, Try.ntmps4
  go_wp2_with fail
  refine hsz.mono ?_
  rintro e w1 ⟨⟨r, rfl, -, hr⟩, hb1⟩
  clear hsz
  by_cases hneg : r < 0
  · go_wp2_with fail
    go_ret
    exact ⟨rfl, hb1⟩
  · obtain ⟨hn1, hs1⟩ := hr (by omega)
    have hn2 : n ≤ 2000000 := by omega
    have hs2 : SmallT ts := smallT_of HR.out.1 hs1
    clear hr hs1 hn1
    have hT := fun W (h : Below w.heap.size w W) => laws_toTableR A n c ts W (HR.out.below h) hn2 hs2
    have hSV := fun A q W (h : TabRd W A n ts) => spec_TablesValid A n q ts W h hn2 hs2
    have hIV := fun A q W (h : TabRd W A n ts) => impl_TablesValid A n q ts W h hn2 hs2
    have hEQ := fun A q A' q' W (h : TabRd W A n ts) (h' : TabRd W A' n ts) => laws_eqTableS A A' n q q' ts W h h' hn2 hs2
    clear hs2
    generalize tabsOk ts = z at *
    go_wp2_with fail
    refine (hT _ hb1).mono ?_
    rintro e w2 ⟨⟨A2, q2, rfl, hO2⟩, hb2⟩
    have hB2 := below_next hb1 hb2
    clear hb1 hb2
    go_wp2_with fail
    refine (hSV A2 q2 _ hO2).mono ?_
    rintro e w3 ⟨rfl, hb3⟩
    have hB3 := below_next hB2 hb3
    clear hb3 hB2 hO2 hSV
    go_wp2_with fail

    refine (hT _ hB3).mono ?_
    rintro e w4 ⟨⟨A4, q4, rfl, hO4⟩, hb4⟩
    have hB4 := below_next hB3 hb4

    clear hb4 hB3
    go_wp2_with fail
    refine (hIV A4 q4 _ hO4).mono ?_
    rintro e w5 ⟨rfl, hb5⟩
    have hB5 := below_next hB4 hb5
    have hO5 := hO4.below hb5

    clear hb5 hB4 hO4 hIV
    go_wp2_with fail
    have hB6 := hB5
    have hO6 := hO5
    clear hB5 hO5
    refine (hT _ hB6).mono ?_
    rintro e w7 ⟨⟨A7, q7, rfl, hO7⟩, hb7⟩
    have hB7 := below_next hB6 hb7
    have hO8 := hO6.below hb7
    clear hb7 hB6 hO6
    go_wp2_with fail
    refine (hEQ A4 q4 A7 q7 _ hO8 hO7).mono ?_
    rintro e w8 ⟨rfl, hb8⟩
    have hB8 := below_next hB7 hb8
    clear hb8 hB7 hO8 hO7
    go_wp2_with fail
    go_ret
    exact ⟨rfl, hB8⟩

set_option maxRecDepth 100000 in
theorem lifted_FnExactTablesValid (os : Os) (started : os.Started) (H : Type) (enc : TypeId × Value → H) :
    ReturnsInHanded {} Try.checked os 4 .any (Rows.fnExactTablesValidSpec.pre6 enc Try.prog Try.f4 Rows.fnExactTablesValidRow.domain false) (Rows.fnExactTablesValidSpec.post enc Try.prog Try.f4 false true false false) := by
  refine returnsInHanded_of_change (C := Try.checked) row_own started (by kernel_rfl) Try.func4
    (ChangeSpec.witness6 (enc := enc) (C := Try.checked) false ⟨#[], #[.slice none 0 0], []⟩ 8 (by kernel_rfl) (by kernel_rfl) (by kernel_rfl) (by kernel_rfl)) ?_
  intro W base args ds gs before hval0 hW hcnd _
  have hval : ∀ (j : Nat) t v, Try.f4.params[j]? = some t → args[j]? = some v → Value.okWide Try.prog W .any base t v := hval0
  have hW' := hW
  obtain ⟨p, q, hA0, hV, rfl, hfz, hnd⟩ := hW
  have hA : DataW.TrodAll enc Try.prog W 0 (fun _ => true) true Try.f4.params.toList args.toList ds p := hA0
  rw [Try.params4] at hA hval
  obtain ⟨v0, vs0, d0, ds0, p0, q0, hargs, rfl, rfl, h0, r0⟩ := trodAll_cons hA
  obtain ⟨rfl, rfl, rfl⟩ := trodAll_nil r0
  obtain rfl : args = #[v0] := by cases args; simp_all
  obtain ⟨rfl, rfl⟩ := trodVars_none hV
  have k0 := h0
  have lt0 : ∀ x ∈ p0, x.block < W.heap.size := by obtain ⟨m, hm⟩ := k0; exact DataW.trod_lt m _ _ _ hm
  have w0 := open_tables (hval 0 33 v0 rfl rfl) h0
  clear hA0 hval0
  refine (walk_FnExactTablesValid v0 W w0).mono fun e W' ⟨he, bel⟩ => ?_
  subst he
  exact ⟨_, rfl, _, _, _, [], _, [], hW', trodAll_mk1 (shut_bool Try.underlying4 _), (trodAll_cons_mk (Below.trod row_laidOut (by kernel_rfl) (of_decide_eq_true (by kernel_rfl)) k0 bel lt0) trodAll_mk0), rfl, bel.frame _, fun h => by cases h⟩

theorem over_FnExactTablesValid : Rows.fnExactTablesValidRow.holds Try.pinned (OpenSpec.ofChange Rows.fnExactTablesValidSpec) :=
  OpenClaim.holds_of_wide 4 Try.f4 rfl rfl rfl rfl rfl rfl rfl ⟨rfl, rfl, rfl, rfl, rfl⟩ rfl rfl rfl rfl rfl (by kernel_rfl) Try.func4 (by kernel_rfl)
    (of_decide_eq_true (by kernel_rfl)) (by unfold Func.isWrapper; first | (rw [if_pos (by decide +kernel)]; kernel_rfl) | (rw [if_neg (by decide +kernel)]; exact ⟨rfl, rfl⟩))
    (fun os started H enc _ => lifted_FnExactTablesValid os started H enc)

theorem FnExactTablesValid_holds : Rows.FnExactTablesValidSaid := over_FnExactTablesValid

end Go.Proofs.Ytdafogfpbpjmdaa
