/- The law FnCapValid: whatever its arguments, the call returns true, and every argument reads afterwards as it read before. No condition. -/
import Derived.Test.YtciebhdoafhkbaaMint3
import Derived.Test.YtciebhdoafhkbaaDrawCapLaws
import Derived.Test.YtciebhdoafhkbaaTexts
namespace Go.Proofs.Ytciebhdoafhkbaa
open Go.ChangeShapes Go.WideShapes Go.ChangeAt Go.RowKit
open Go.ChangeMaps (open_string shut_string)
set_option linter.unusedVariables false

theorem capOk_100 (k r b : Int) : capOk k 100 r b = false := by
  unfold capOk
  split
  · simp
  · simp [inB]
theorem capOk_zero : capOk 0 0 0 0 = true := by decide
theorem capOk_bare : capOk 0 0 1 0 = false := by decide

set_option maxHeartbeats 4000000 in
theorem walk_FnCapValid (v0 : Value) (w : World) (w0 : BytesIn w v0) :
    Calls Try.prog 8 #[v0] w fun e w' => e = .returned (.bool true) ∧ Below w.heap.size w w' := by
  have hd := drawCapValid v0 w w0
  obtain ⟨A, n, cap, bs, rfl, hn, hc, _⟩ := w0
  by_cases h20 : (1048576 : Int) < (n : Int)
  · go_enter Try.func8, Try.ntmps8
    go_wp2_with fail
    go_ret
    exact ⟨rfl, Below.refl _ _⟩
  · go_enter Try.func8, Try.ntmps8
    go_wp2_with fail
    refine hd.mono ?_
    rintro e w1 ⟨k, o, r, x, rfl, hb1⟩
    have q1 := capOk_100 k r x
    have q2 := capOk_zero
    have q3 := capOk_bare
    go_wp2_with (first
      | (go_at_call 17; refine (impl_CapValid _ _ _ _ _).mono ?_; rintro e w' ⟨rfl, rfl⟩)
      | (go_at_call 15; refine (spec_CapValid _ _ _ _ _).mono ?_; rintro e w' ⟨rfl, rfl⟩))
    refine (laws_alive _).mono ?_
    rintro e w2 ⟨rfl, hb2⟩
    go_wp2_with fail
    go_ret
    exact ⟨rfl, below_next (by repeat (with_reducible first | exact hb1 | refine below_al ?_ _ | refine below_set ?_ (by simp) _)) hb2⟩

set_option maxRecDepth 100000 in
theorem lifted_FnCapValid (os : Os) (started : os.Started) (H : Type) (enc : TypeId × Value → H) :
    ReturnsInHanded {} Try.checked os 8 .any (Rows.fnCapValidSpec.pre6 enc Try.prog Try.f8 Rows.fnCapValidRow.domain false) (Rows.fnCapValidSpec.post enc Try.prog Try.f8 false true false false) := by
  refine returnsInHanded_of_change (C := Try.checked) row_own started (by kernel_rfl) Try.func8
    (ChangeSpec.witness6 (enc := enc) (C := Try.checked) false ⟨#[], #[.slice none 0 0], []⟩ 8 (by kernel_rfl) (by kernel_rfl) (by kernel_rfl) (by kernel_rfl)) ?_
  intro W base args ds gs before hval0 hW hcnd _
  have hval : ∀ (j : Nat) t v, Try.f8.params[j]? = some t → args[j]? = some v → Value.okWide Try.prog W .any base t v := hval0
  have hW' := hW
  obtain ⟨p, q, hA0, hV, rfl, hfz, hnd⟩ := hW
  have hA : DataW.TrodAll enc Try.prog W 0 (fun _ => true) true Try.f8.params.toList args.toList ds p := hA0
  rw [Try.params8] at hA hval
  obtain ⟨v0, vs0, d0, ds0, p0, q0, hargs, rfl, rfl, h0, r0⟩ := trodAll_cons hA
  obtain ⟨rfl, rfl, rfl⟩ := trodAll_nil r0
  obtain rfl : args = #[v0] := by cases args; simp_all
  obtain ⟨rfl, rfl⟩ := trodVars_none hV
  have k0 := h0
  have lt0 : ∀ x ∈ p0, x.block < W.heap.size := by obtain ⟨m, hm⟩ := k0; exact DataW.trod_lt m _ _ _ hm
  have w0 := open_bytes (hval 0 36 v0 rfl rfl) h0
  clear hA0 hval0
  refine (walk_FnCapValid v0 W w0).mono fun e W' ⟨he, bel⟩ => ?_
  subst he
  exact ⟨_, rfl, _, _, _, [], _, [], hW', trodAll_mk1 (shut_bool Try.underlying4 _), (trodAll_cons_mk (Below.trod row_laidOut (by kernel_rfl) (of_decide_eq_true (by kernel_rfl)) k0 bel lt0) trodAll_mk0), rfl, bel.frame _, fun h => by cases h⟩

theorem over_FnCapValid : Rows.fnCapValidRow.holds Try.pinned (OpenSpec.ofChange Rows.fnCapValidSpec) :=
  OpenClaim.holds_of_wide 8 Try.f8 rfl rfl rfl rfl rfl rfl rfl ⟨rfl, rfl, rfl, rfl, rfl⟩ rfl rfl rfl rfl rfl (by kernel_rfl) Try.func8 (by kernel_rfl)
    (of_decide_eq_true (by kernel_rfl)) (by unfold Func.isWrapper; first | (rw [if_pos (by decide +kernel)]; kernel_rfl) | (rw [if_neg (by decide +kernel)]; exact ⟨rfl, rfl⟩))
    (fun os started H enc _ => lifted_FnCapValid os started H enc)

theorem FnCapValid_holds : Rows.FnCapValidSaid := over_FnCapValid

end Go.Proofs.Ytciebhdoafhkbaa
