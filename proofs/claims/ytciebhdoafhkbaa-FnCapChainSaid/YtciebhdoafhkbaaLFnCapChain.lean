/- The law FnCapChain: whatever its arguments, the call returns true, and every argument reads afterwards as it read before. No condition. -/
import Derived.Test.YtciebhdoafhkbaaCapPlain
import Derived.Test.YtciebhdoafhkbaaDrawCapLaws
import Derived.Test.YtciebhdoafhkbaaHeld
namespace Go.Proofs.Ytciebhdoafhkbaa
open Go.ChangeShapes Go.WideShapes Go.ChangeAt Go.RowKit
open Go.ChangeMaps (open_string shut_string)
set_option linter.unusedVariables false

theorem kept_4_4 {B : Nat} {w0 w : World} {c0 c1 : Nat} {T0 T1 : TypeId} {x0_0 x0_1 x0_2 x0_3 x1_0 x1_1 x1_2 x1_3 : Int} (h : Kept B w0 [(c0, T0, [x0_0, x0_1, x0_2, x0_3]), (c1, T1, [x1_0, x1_1, x1_2, x1_3])] w) : Kept B w0 [(c0, T0, [x0_0, x0_1, x0_2, x0_3]), (c1, T1, [x1_0, x1_1, x1_2, x1_3])] w ∧ w.cell? ⟨c0, 0, none⟩ = some (.int .i64 x0_0) ∧ w.cell? ⟨c0, 1, none⟩ = some (.int .i64 x0_1) ∧ w.cell? ⟨c0, 2, none⟩ = some (.int .i64 x0_2) ∧ w.cell? ⟨c0, 3, none⟩ = some (.int .i64 x0_3) ∧ w.cell? ⟨c1, 0, none⟩ = some (.int .i64 x1_0) ∧ w.cell? ⟨c1, 1, none⟩ = some (.int .i64 x1_1) ∧ w.cell? ⟨c1, 2, none⟩ = some (.int .i64 x1_2) ∧ w.cell? ⟨c1, 3, none⟩ = some (.int .i64 x1_3) :=
  ⟨h, h.cell 0 0 rfl rfl, h.cell 0 1 rfl rfl, h.cell 0 2 rfl rfl, h.cell 0 3 rfl rfl, h.cell 1 0 rfl rfl, h.cell 1 1 rfl rfl, h.cell 1 2 rfl rfl, h.cell 1 3 rfl rfl⟩

/-- Within is transitive. -/
theorem within_trans {k o r x k' o' r' x' k2 o2 r2 x2 : Int} (h : capWithin k o r x k' o' r' x' = true) (h' : capWithin k' o' r' x' k2 o2 r2 x2 = true) : capWithin k o r x k2 o2 r2 x2 = true := by
  unfold capWithin at h h' ⊢
  simp only [Bool.and_eq_true, beq_iff_eq, Bool.or_eq_true] at h h' ⊢
  obtain ⟨⟨⟨⟨⟨a1, a2⟩, a3⟩, a4⟩, a5⟩, a6⟩ := h
  obtain ⟨⟨⟨⟨⟨b1, b2⟩, b3⟩, b4⟩, b5⟩, b6⟩ := h'
  have r1 := capOk_rights a1
  have r2' := capOk_rights a2
  have r3 := capOk_rights b2
  refine ⟨⟨⟨⟨⟨a1, b2⟩, a3.trans b3⟩, a4.trans b4⟩, ?_⟩, by omega⟩
  rw [← rMeet_of r1 r2'] at a5
  rw [← rMeet_of r2' r3] at b5
  rw [← rMeet_of r1 r3]
  have h1 := rMeet_assoc r r' r2
  rw [b5, a5] at h1
  exact h1.symm

set_option maxHeartbeats 4000000 in
theorem walk_FnCapChain (v0 v1 : Value) (w : World) (w0 : BytesIn w v0) (w1 : BytesIn w v1) :
    Calls Try.prog 13 #[v0, v1] w fun e w' => e = .returned (.bool true) ∧ Below w.heap.size w w' := by
  have hd := drawCapWithin v0 w w0
  obtain ⟨A, n, cap, bs, rfl, hn, hc, _⟩ := w0
  obtain ⟨A', n', cap', bs', rfl, hn', hc', _⟩ := w1
  by_cases h20 : (1048576 : Int) < (n : Int)
  · go_enter Try.func13, Try.ntmps13
    go_wp2_with fail
    go_ret
    exact ⟨rfl, Below.refl _ _⟩
  by_cases h21 : (1048576 : Int) < (n' : Int)
  · go_enter Try.func13, Try.ntmps13
    go_wp2_with fail
    go_ret
    exact ⟨rfl, Below.refl _ _⟩
  · go_enter Try.func13, Try.ntmps13
    go_wp2_with fail
    refine hd.mono ?_
    rintro e w1 ⟨k, o, r, x, k', o', r', x', rfl, hb1⟩
    have hA := IAt.alloc (IAt.new w1 25 [k, o, r, x]) (.cells #[.int .i64 k', .int .i64 o', .int .i64 r', .int .i64 x'] 25)
    have hC := IAt.new (w1.alloc (.cells #[.int .i64 k, .int .i64 o, .int .i64 r, .int .i64 x] 25)) 25 [k', o', r', x']
    have hB0 := below_al (below_al hb1 (.cells #[.int .i64 k, .int .i64 o, .int .i64 r, .int .i64 x] 25)) (.cells #[.int .i64 k', .int .i64 o', .int .i64 r', .int .i64 x'] 25)
    rw [World.size_alloc] at hC
    simp only [List.map_cons, List.map_nil] at hA hC
    have hS0 : Kept w.heap.size w [(w1.heap.size, 25, [k, o, r, x]), (w1.heap.size + 1, 25, [k', o', r', x'])] _ := Kept.cons hA (Kept.cons hC (Kept.nil hB0 hB0.size))
    clear hA hC hB0 hb1 hd
    have hM := impl_MintCap_is k o r x
    unfold Minted at hM
    have hI := impl_CapWithin k o r x k' o' r' x'
    have hS := spec_CapWithin k o r x k' o' r' x'
    go_wp2_with fail
    generalize (w1.alloc (.cells #[.int .i64 k, .int .i64 o, .int .i64 r, .int .i64 x] 25)).alloc (.cells #[.int .i64 k', .int .i64 o', .int .i64 r', .int .i64 x'] 25) = W at *
    generalize w1.heap.size = p at *
    generalize hB : w.heap.size = B at *
    have HB := Lib.hid hB
    clear hB
    have HW := Lib.hid (fun i (h : mintOk k o r x i 0 = true) => (mintOk_parts h).2.2.2.1)
    have HV := Lib.hid (fun (hW : capWithin k o r x k' o' r' x' = true) i (h : mintOk k o r x i 0 = true) => within_trans (minted_within h) hW)
    cases hW : capWithin k o r x k' o' r' x'
    all_goals
      rw [hW] at hI hS
      go_region_held3 (fun w' => Kept B w [(p, 25, [k, o, r, x]), ((p + 1), 25, [k', o', r', x'])] w' ∧ w'.cell? ⟨p, 0, none⟩ = some (.int .i64 k) ∧ w'.cell? ⟨p, 1, none⟩ = some (.int .i64 o) ∧ w'.cell? ⟨p, 2, none⟩ = some (.int .i64 r) ∧ w'.cell? ⟨p, 3, none⟩ = some (.int .i64 x) ∧ w'.cell? ⟨(p + 1), 0, none⟩ = some (.int .i64 k') ∧ w'.cell? ⟨(p + 1), 1, none⟩ = some (.int .i64 o') ∧ w'.cell? ⟨(p + 1), 2, none⟩ = some (.int .i64 r') ∧ w'.cell? ⟨(p + 1), 3, none⟩ = some (.int .i64 x'))
        (first | exact kept_4_4 (Kept.drew hS0) | exact kept_4_4 (Kept.step (by assumption) (by assumption)) | exact kept_4_4 (Kept.same (by assumption)))
        (first | (go_at_call 19; refine (hI _).mono ?_; rintro e w9 ⟨rfl, hb9⟩) | (go_at_call 18; refine (hS _).mono ?_; rintro e w9 ⟨rfl, hb9⟩))
      have hS1 : Kept B w [(p, 25, [k, o, r, x]), ((p + 1), 25, [k', o', r', x'])] w9 := And.left (by assumption)
      obtain ⟨hA1, hC1⟩ := And.intro (hS1.at_ 0 rfl) (hS1.at_ 1 rfl)
      obtain ⟨c0, c1, c2, c3⟩ := hA1.cells4
      have hm0 : (0 : Int) ≤ (n' : Int) := by omega
      have hm1 : (n' : Int) ≤ 1048576 := by omega
      have hlt := hC1.lt
      go_wp2_with fail
      refine (hM _ _ _).mono ?_
      rintro e w10 ⟨rfl, hb10⟩
    · generalize sel (mintOk k o r x ((n' : Int) % 16) 0) k = K at *
      generalize sel (mintOk k o r x ((n' : Int) % 16) 0) o = O at *
      generalize sel (mintOk k o r x ((n' : Int) % 16) 0) (bits .and .i64 r ((n' : Int) % 16)) = R at *
      generalize sel (mintOk k o r x ((n' : Int) % 16) 0) (mintB x 0) = X at *
      have hS2 := Kept.step hb10 ⟨hS1, trivial⟩
      have hA2 := hS2.at_ 0 rfl
      have hC2 := hS2.at_ 1 rfl
      clear c0 c1 c2 c3
      obtain ⟨c0, c1, c2, c3⟩ := hA2.cells4
      obtain ⟨d0, d1, d2, d3⟩ := hC2.cells4
      have hlt2 := hA2.lt
      have hlt3 := hC2.lt
      go_wp2_with fail
      refine (hI _).mono ?_
      rintro e w11 ⟨rfl, hb11⟩
      go_wp2_with fail
      refine (laws_alive _).mono ?_
      rintro e w12 ⟨rfl, hb12⟩
      go_wp2_with fail
      go_ret
      exact ⟨rfl, below_next (below_next (below_al (HB.out ▸ hS2.2.1) _) hb11) hb12⟩
    · have hS2 := Kept.step hb10 ⟨hS1, trivial⟩
      have hA2 := hS2.at_ 0 rfl
      have hC2 := hS2.at_ 1 rfl
      have hlt2 := hA2.lt
      have hlt3 := hC2.lt
      clear c0 c1 c2 c3 hlt hM hA1 hC1 hS1 hb10 hb9
      cases ht : mintOk k o r x ((n' : Int) % 16) 0
      · simp only [sel_false]
        obtain ⟨c0, c1, c2, c3⟩ := hA2.cells4
        obtain ⟨d0, d1, d2, d3⟩ := hC2.cells4
        go_wp2_with fail
        refine (hI _).mono ?_
        rintro e w11 ⟨rfl, hb11⟩
        have hX := IAt.belowSelf (IAt.new w10 25 [0, 0, 0, 0]) hb11
        clear c0 c1 c2 c3
        obtain ⟨c0, c1, c2, c3⟩ := hX.cells4
        go_wp2_with fail
        refine (laws_alive _).mono ?_
        rintro e w12 ⟨rfl, hb12⟩
        go_wp2_with fail
        go_ret
        exact ⟨rfl, below_next (below_next (below_al (HB.out ▸ hS2.2.1) _) hb11) hb12⟩
      · simp only [sel_true]
        have hv := HV.out hW _ ht
        have hk0 := HW.out _ ht
        have hK := impl_CapWithin k o (bits .and .i64 r ((n' : Int) % 16)) (mintB x 0) k' o' r' x'
        rw [hv] at hK
        clear hv HV HW ht
        generalize bits .and .i64 r ((n' : Int) % 16) = R at *
        generalize mintB x 0 = X at *
        obtain ⟨c0, c1, c2, c3⟩ := hA2.cells4
        obtain ⟨d0, d1, d2, d3⟩ := hC2.cells4
        go_wp2_with fail
        refine (hI _).mono ?_
        rintro e w11 ⟨rfl, hb11⟩
        have hX := IAt.belowSelf (IAt.new w10 25 [k, o, R, X]) hb11
        have hC3 := (hC2.alloc (.cells #[.int .i64 k, .int .i64 o, .int .i64 R, .int .i64 X] 25)).belowSelf hb11
        clear c0 c1 c2 c3 d0 d1 d2 d3
        obtain ⟨c0, c1, c2, c3⟩ := hX.cells4
        obtain ⟨d0, d1, d2, d3⟩ := hC3.cells4
        go_wp2_with fail
        refine (hK _).mono ?_
        rintro e w12 ⟨rfl, hb12⟩
        go_wp2_with fail
        refine (laws_alive _).mono ?_
        rintro e w13 ⟨rfl, hb13⟩
        go_wp2_with fail
        go_ret
        exact ⟨rfl, below_next (below_next (below_next (below_al (HB.out ▸ hS2.2.1) _) hb11) hb12) hb13⟩

set_option maxRecDepth 100000 in
theorem lifted_FnCapChain (os : Os) (started : os.Started) (H : Type) (enc : TypeId × Value → H) :
    ReturnsInHanded {} Try.checked os 13 .any (Rows.fnCapChainSpec.pre6 enc Try.prog Try.f13 Rows.fnCapChainRow.domain false) (Rows.fnCapChainSpec.post enc Try.prog Try.f13 false true false false) := by
  refine returnsInHanded_of_change (C := Try.checked) row_own started (by kernel_rfl) Try.func13
    (ChangeSpec.witness6 (enc := enc) (C := Try.checked) false ⟨#[], #[.slice none 0 0, .slice none 0 0], []⟩ 8 (by kernel_rfl) (by kernel_rfl) (by kernel_rfl) (by kernel_rfl)) ?_
  intro W base args ds gs before hval0 hW hcnd _
  have hval : ∀ (j : Nat) t v, Try.f13.params[j]? = some t → args[j]? = some v → Value.okWide Try.prog W .any base t v := hval0
  have hW' := hW
  obtain ⟨p, q, hA0, hV, rfl, hfz, hnd⟩ := hW
  have hA : DataW.TrodAll enc Try.prog W 0 (fun _ => true) true Try.f13.params.toList args.toList ds p := hA0
  rw [Try.params13] at hA hval
  obtain ⟨v0, vs0, d0, ds0, p0, q0, hargs, rfl, rfl, h0, r0⟩ := trodAll_cons hA
  obtain ⟨v1, vs1, d1, ds1, p1, q1, rfl, rfl, rfl, h1, r1⟩ := trodAll_cons r0
  obtain ⟨rfl, rfl, rfl⟩ := trodAll_nil r1
  obtain rfl : args = #[v0, v1] := by cases args; simp_all
  obtain ⟨rfl, rfl⟩ := trodVars_none hV
  have k0 := h0
  have lt0 : ∀ x ∈ p0, x.block < W.heap.size := by obtain ⟨m, hm⟩ := k0; exact DataW.trod_lt m _ _ _ hm
  have w0 := open_bytes (hval 0 36 v0 rfl rfl) h0
  have k1 := h1
  have lt1 : ∀ x ∈ p1, x.block < W.heap.size := by obtain ⟨m, hm⟩ := k1; exact DataW.trod_lt m _ _ _ hm
  have w1 := open_bytes (hval 1 36 v1 rfl rfl) h1
  clear hA0 hval0
  refine (walk_FnCapChain v0 v1 W w0 w1).mono fun e W' ⟨he, bel⟩ => ?_
  subst he
  exact ⟨_, rfl, _, _, _, [], _, [], hW', trodAll_mk1 (shut_bool Try.underlying4 _), (trodAll_cons_mk (Below.trod row_laidOut (by kernel_rfl) (of_decide_eq_true (by kernel_rfl)) k0 bel lt0) (trodAll_cons_mk (Below.trod row_laidOut (by kernel_rfl) (of_decide_eq_true (by kernel_rfl)) k1 bel lt1) trodAll_mk0)), rfl, bel.frame _, fun h => by cases h⟩

theorem over_FnCapChain : Rows.fnCapChainRow.holds Try.pinned (OpenSpec.ofChange Rows.fnCapChainSpec) :=
  OpenClaim.holds_of_wide 13 Try.f13 rfl rfl rfl rfl rfl rfl rfl ⟨rfl, rfl, rfl, rfl, rfl⟩ rfl rfl rfl rfl rfl (by kernel_rfl) Try.func13 (by kernel_rfl)
    (of_decide_eq_true (by kernel_rfl)) (by unfold Func.isWrapper; first | (rw [if_pos (by decide +kernel)]; kernel_rfl) | (rw [if_neg (by decide +kernel)]; exact ⟨rfl, rfl⟩))
    (fun os started H enc _ => lifted_FnCapChain os started H enc)

theorem FnCapChain_holds : Rows.FnCapChainSaid := over_FnCapChain

end Go.Proofs.Ytciebhdoafhkbaa
