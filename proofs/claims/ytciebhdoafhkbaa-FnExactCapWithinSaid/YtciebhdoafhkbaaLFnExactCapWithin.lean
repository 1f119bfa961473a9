/- The law FnExactCapWithin: whatever its arguments, the call returns true, and every argument reads afterwards as it read before. No condition. -/
import Derived.Test.YtciebhdoafhkbaaMint2
import Derived.Test.YtciebhdoafhkbaaHeld
namespace Go.Proofs.Ytciebhdoafhkbaa
open Go.ChangeShapes Go.WideShapes Go.ChangeAt Go.RowKit
open Go.ChangeMaps (open_string shut_string)
set_option linter.unusedVariables false

theorem kept_4_4 {B : Nat} {w0 w : World} {c0 c1 : Nat} {T0 T1 : TypeId} {x0_0 x0_1 x0_2 x0_3 x1_0 x1_1 x1_2 x1_3 : Int} (h : Kept B w0 [(c0, T0, [x0_0, x0_1, x0_2, x0_3]), (c1, T1, [x1_0, x1_1, x1_2, x1_3])] w) : Kept B w0 [(c0, T0, [x0_0, x0_1, x0_2, x0_3]), (c1, T1, [x1_0, x1_1, x1_2, x1_3])] w ∧ w.cell? ⟨c0, 0, none⟩ = some (.int .i64 x0_0) ∧ w.cell? ⟨c0, 1, none⟩ = some (.int .i64 x0_1) ∧ w.cell? ⟨c0, 2, none⟩ = some (.int .i64 x0_2) ∧ w.cell? ⟨c0, 3, none⟩ = some (.int .i64 x0_3) ∧ w.cell? ⟨c1, 0, none⟩ = some (.int .i64 x1_0) ∧ w.cell? ⟨c1, 1, none⟩ = some (.int .i64 x1_1) ∧ w.cell? ⟨c1, 2, none⟩ = some (.int .i64 x1_2) ∧ w.cell? ⟨c1, 3, none⟩ = some (.int .i64 x1_3) :=
  ⟨h, h.cell 0 0 rfl rfl, h.cell 0 1 rfl rfl, h.cell 0 2 rfl rfl, h.cell 0 3 rfl rfl, h.cell 1 0 rfl rfl, h.cell 1 1 rfl rfl, h.cell 1 2 rfl rfl, h.cell 1 3 rfl rfl⟩

set_option maxHeartbeats 1000000 in
theorem walk_FnExactCapWithin (v0 v1 : Value) (w : World) (w0 : CapIn w v0) (w1 : CapIn w v1) :
    Calls Try.prog 4 #[v0, v1] w fun e w' => e = .returned (.bool true) ∧ Below w.heap.size w w' := by
  obtain ⟨k, o, r, b, rfl⟩ := w0
  obtain ⟨k', o', r', b', rfl⟩ := w1
  go_enter Try.func4, Try.ntmps4
  go_wp2_with fail
  have hA := IAt.alloc (IAt.new w 23 [k, o, r, b]) (.cells #[.int .i64 k', .int .i64 o', .int .i64 r', .int .i64 b'] 23)
  have hC := IAt.new (w.alloc (.cells #[.int .i64 k, .int .i64 o, .int .i64 r, .int .i64 b] 23)) 23 [k', o', r', b']
  have hB0 := below_al (below_al (Below.refl _ w) (.cells #[.int .i64 k, .int .i64 o, .int .i64 r, .int .i64 b] 23)) (.cells #[.int .i64 k', .int .i64 o', .int .i64 r', .int .i64 b'] 23)
  rw [World.size_alloc] at hC
  simp only [List.map_cons, List.map_nil] at hA hC
  have hS0 : Kept w.heap.size w [(w.heap.size, 23, [k, o, r, b]), (w.heap.size + 1, 23, [k', o', r', b'])] _ := Kept.cons hA (Kept.cons hC (Kept.nil hB0 (by simp; omega)))
  generalize (w.alloc (.cells #[.int .i64 k, .int .i64 o, .int .i64 r, .int .i64 b] 23)).alloc (.cells #[.int .i64 k', .int .i64 o', .int .i64 r', .int .i64 b'] 23) = W at *
  clear hA hC hB0
  generalize hp : w.heap.size = p at *
  have Hp := Lib.hid hp
  clear hp
  go_region_held3 (fun w' => Kept p w [(p, 23, [k, o, r, b]), ((p + 1), 23, [k', o', r', b'])] w' ∧ w'.cell? ⟨p, 0, none⟩ = some (.int .i64 k) ∧ w'.cell? ⟨p, 1, none⟩ = some (.int .i64 o) ∧ w'.cell? ⟨p, 2, none⟩ = some (.int .i64 r) ∧ w'.cell? ⟨p, 3, none⟩ = some (.int .i64 b) ∧ w'.cell? ⟨(p + 1), 0, none⟩ = some (.int .i64 k') ∧ w'.cell? ⟨(p + 1), 1, none⟩ = some (.int .i64 o') ∧ w'.cell? ⟨(p + 1), 2, none⟩ = some (.int .i64 r') ∧ w'.cell? ⟨(p + 1), 3, none⟩ = some (.int .i64 b'))
    (first | exact kept_4_4 (Kept.drew hS0) | exact kept_4_4 (Kept.step (by assumption) (by assumption)) | exact kept_4_4 (Kept.same (by assumption)))
    (first | (go_at_call 16; refine (laws_toCap _ _ _ _ _).mono ?_; rintro e w9 ⟨rfl, hb9⟩) | (go_at_call 18; refine (spec_CapWithin _ _ _ _ _ _ _ _ _).mono ?_; rintro e w9 ⟨rfl, hb9⟩))
  have hS1 : Kept p w [(p, 23, [k, o, r, b]), ((p + 1), 23, [k', o', r', b'])] w9 := And.left (by assumption)
  go_wp2_with fail
  go_region_held3 (fun w' => Kept p w [(p, 23, [k, o, r, b]), ((p + 1), 23, [k', o', r', b'])] w' ∧ w'.cell? ⟨p, 0, none⟩ = some (.int .i64 k) ∧ w'.cell? ⟨p, 1, none⟩ = some (.int .i64 o) ∧ w'.cell? ⟨p, 2, none⟩ = some (.int .i64 r) ∧ w'.cell? ⟨p, 3, none⟩ = some (.int .i64 b) ∧ w'.cell? ⟨(p + 1), 0, none⟩ = some (.int .i64 k') ∧ w'.cell? ⟨(p + 1), 1, none⟩ = some (.int .i64 o') ∧ w'.cell? ⟨(p + 1), 2, none⟩ = some (.int .i64 r') ∧ w'.cell? ⟨(p + 1), 3, none⟩ = some (.int .i64 b'))
    (first | exact kept_4_4 (Kept.drew hS1) | exact kept_4_4 (Kept.step (by assumption) (by assumption)) | exact kept_4_4 (Kept.same (by assumption)))
    (first | (go_at_call 16; refine (laws_toCap _ _ _ _ _).mono ?_; rintro e w8 ⟨rfl, hb8⟩) | (go_at_call 19; refine (impl_CapWithin _ _ _ _ _ _ _ _ _).mono ?_; rintro e w8 ⟨rfl, hb8⟩))
  have hS2 : Kept p w [(p, 23, [k, o, r, b]), ((p + 1), 23, [k', o', r', b'])] w8 := And.left (by assumption)
  go_wp2_with fail
  go_ret
  exact ⟨rfl, Hp.out ▸ hS2.2.1⟩

set_option maxRecDepth 100000 in
theorem lifted_FnExactCapWithin (os : Os) (started : os.Started) (H : Type) (enc : TypeId × Value → H) :
    ReturnsInHanded {} Try.checked os 4 .any (Rows.fnExactCapWithinSpec.pre6 enc Try.prog Try.f4 Rows.fnExactCapWithinRow.domain false) (Rows.fnExactCapWithinSpec.post enc Try.prog Try.f4 false true false false) := by
  refine returnsInHanded_of_change (C := Try.checked) row_own started (by kernel_rfl) Try.func4
    (ChangeSpec.witness6 (enc := enc) (C := Try.checked) false ⟨#[], #[.agg #[.int .i64 0, .int .i64 0, .int .i64 0, .int .i64 0], .agg #[.int .i64 0, .int .i64 0, .int .i64 0, .int .i64 0]], []⟩ 8 (by kernel_rfl) (by kernel_rfl) (by kernel_rfl) (by kernel_rfl)) ?_
  intro W base args ds gs before hval0 hW hcnd _
  have hval : ∀ (j : Nat) t v, Try.f4.params[j]? = some t → args[j]? = some v → Value.okWide Try.prog W .any base t v := hval0
  have hW' := hW
  obtain ⟨p, q, hA0, hV, rfl, hfz, hnd⟩ := hW
  have hA : DataW.TrodAll enc Try.prog W 0 (fun _ => true) true Try.f4.params.toList args.toList ds p := hA0
  rw [Try.params4] at hA hval
  obtain ⟨v0, vs0, d0, ds0, p0, q0, hargs, rfl, rfl, h0, r0⟩ := trodAll_cons hA
  obtain ⟨v1, vs1, d1, ds1, p1, q1, rfl, rfl, rfl, h1, r1⟩ := trodAll_cons r0
  obtain ⟨rfl, rfl, rfl⟩ := trodAll_nil r1
  obtain rfl : args = #[v0, v1] := by cases args; simp_all
  obtain ⟨rfl, rfl⟩ := trodVars_none hV
  have k0 := h0
  have lt0 : ∀ x ∈ p0, x.block < W.heap.size := by obtain ⟨m, hm⟩ := k0; exact DataW.trod_lt m _ _ _ hm
  have w0 := open_cap (hval 0 23 v0 rfl rfl) h0
  have k1 := h1
  have lt1 : ∀ x ∈ p1, x.block < W.heap.size := by obtain ⟨m, hm⟩ := k1; exact DataW.trod_lt m _ _ _ hm
  have w1 := open_cap (hval 1 23 v1 rfl rfl) h1
  clear hA0 hval0
  refine (walk_FnExactCapWithin v0 v1 W w0 w1).mono fun e W' ⟨he, bel⟩ => ?_
  subst he
  exact ⟨_, rfl, _, _, _, [], _, [], hW', trodAll_mk1 (shut_bool Try.underlying4 _), (trodAll_cons_mk (Below.trod row_laidOut (by kernel_rfl) (of_decide_eq_true (by kernel_rfl)) k0 bel lt0) (trodAll_cons_mk (Below.trod row_laidOut (by kernel_rfl) (of_decide_eq_true (by kernel_rfl)) k1 bel lt1) trodAll_mk0)), rfl, bel.frame _, fun h => by cases h⟩

theorem over_FnExactCapWithin : Rows.fnExactCapWithinRow.holds Try.pinned (OpenSpec.ofChange Rows.fnExactCapWithinSpec) :=
  OpenClaim.holds_of_wide 4 Try.f4 rfl rfl rfl rfl rfl rfl rfl ⟨rfl, rfl, rfl, rfl, rfl⟩ rfl rfl rfl rfl rfl (by kernel_rfl) Try.func4 (by kernel_rfl)
    (of_decide_eq_true (by kernel_rfl)) (by unfold Func.isWrapper; first | (rw [if_pos (by decide +kernel)]; kernel_rfl) | (rw [if_neg (by decide +kernel)]; exact ⟨rfl, rfl⟩))
    (fun os started H enc _ => lifted_FnExactCapWithin os started H enc)

theorem FnExactCapWithin_holds : Rows.FnExactCapWithinSaid := over_FnExactCapWithin

end Go.Proofs.Ytciebhdoafhkbaa
