/- The law FnPackCap: whatever its arguments, the call returns true, and every argument reads afterwards as it read before. No condition. -/
import Derived.Test.YtciebhdoafhkbaaCapPlain
import Derived.Test.YtciebhdoafhkbaaDrawCapLaws
import Derived.Test.YtciebhdoafhkbaaHeld
namespace Go.Proofs.Ytciebhdoafhkbaa
open Go.ChangeShapes Go.WideShapes Go.ChangeAt Go.RowKit
open Go.ChangeMaps (open_string shut_string)
set_option linter.unusedVariables false

theorem kept_4_4_4 {B : Nat} {w0 w : World} {c0 c1 c2 : Nat} {T0 T1 T2 : TypeId} {x0_0 x0_1 x0_2 x0_3 x1_0 x1_1 x1_2 x1_3 x2_0 x2_1 x2_2 x2_3 : Int} (h : Kept B w0 [(c0, T0, [x0_0, x0_1, x0_2, x0_3]), (c1, T1, [x1_0, x1_1, x1_2, x1_3]), (c2, T2, [x2_0, x2_1, x2_2, x2_3])] w) : Kept B w0 [(c0, T0, [x0_0, x0_1, x0_2, x0_3]), (c1, T1, [x1_0, x1_1, x1_2, x1_3]), (c2, T2, [x2_0, x2_1, x2_2, x2_3])] w ∧ w.cell? ⟨c0, 0, none⟩ = some (.int .i64 x0_0) ∧ w.cell? ⟨c0, 1, none⟩ = some (.int .i64 x0_1) ∧ w.cell? ⟨c0, 2, none⟩ = some (.int .i64 x0_2) ∧ w.cell? ⟨c0, 3, none⟩ = some (.int .i64 x0_3) ∧ w.cell? ⟨c1, 0, none⟩ = some (.int .i64 x1_0) ∧ w.cell? ⟨c1, 1, none⟩ = some (.int .i64 x1_1) ∧ w.cell? ⟨c1, 2, none⟩ = some (.int .i64 x1_2) ∧ w.cell? ⟨c1, 3, none⟩ = some (.int .i64 x1_3) ∧ w.cell? ⟨c2, 0, none⟩ = some (.int .i64 x2_0) ∧ w.cell? ⟨c2, 1, none⟩ = some (.int .i64 x2_1) ∧ w.cell? ⟨c2, 2, none⟩ = some (.int .i64 x2_2) ∧ w.cell? ⟨c2, 3, none⟩ = some (.int .i64 x2_3) :=
  ⟨h, h.cell 0 0 rfl rfl, h.cell 0 1 rfl rfl, h.cell 0 2 rfl rfl, h.cell 0 3 rfl rfl, h.cell 1 0 rfl rfl, h.cell 1 1 rfl rfl, h.cell 1 2 rfl rfl, h.cell 1 3 rfl rfl, h.cell 2 0 rfl rfl, h.cell 2 1 rfl rfl, h.cell 2 2 rfl rfl, h.cell 2 3 rfl rfl⟩

theorem unpack_packN {k o r x : Int} (h : capOk k o r x = true) : packN k o r x % 8 = k ∧ packN k o r x / 8 % 100 = o ∧ packN k o r x / 800 % 16 = r ∧ packN k o r x / 12800 = x ∧ 0 ≤ packN k o r x ∧ packN k o r x ≤ 100000000 := by
  have := capOk_bounds h
  unfold packN
  omega
theorem pack_eq {k o r x k' o' r' x' : Int} (h : capOk k o r x = true) : (capPack k' o' r' x' == packN k o r x) = (k == k' && (o == o' && (r == r' && x == x'))) := by
  have h1 := unpack_packN h
  unfold capPack
  split
  · next h2 =>
    have h3 := unpack_packN h2
    rw [Bool.eq_iff_iff]
    simp only [beq_iff_eq, Bool.and_eq_true]
    constructor
    · intro e
      rw [e] at h3
      omega
    · rintro ⟨rfl, rfl, rfl, rfl⟩
      rfl
  · next h2 =>
    rw [Bool.eq_iff_iff]
    simp only [beq_iff_eq, Bool.and_eq_true]
    constructor
    · intro e
      omega
    · rintro ⟨rfl, rfl, rfl, rfl⟩
      exact absurd h h2

set_option maxHeartbeats 4000000 in
theorem walk_FnPackCap (v0 v1 : Value) (w : World) (w0 : BytesIn w v0) (w1 : BytesIn w v1) :
    Calls Try.prog 9 #[v0, v1] w fun e w' => e = .returned (.bool true) ∧ Below w.heap.size w w' := by
  have hd := drawPackCap v0 w w0
  have hw1 := w1
  obtain ⟨A, n, cap, bs, rfl, hn, hc, _⟩ := w0
  obtain ⟨A', n', cap', bs', rfl, hn', hc', _⟩ := w1
  by_cases h20 : (1048576 : Int) < (n : Int)
  · go_enter Try.func9, Try.ntmps9
    go_wp2_with fail
    go_ret
    exact ⟨rfl, Below.refl _ _⟩
  by_cases h21 : (1048576 : Int) < (n' : Int)
  · go_enter Try.func9, Try.ntmps9
    go_wp2_with fail
    go_ret
    exact ⟨rfl, Below.refl _ _⟩
  · go_enter Try.func9, Try.ntmps9
    go_wp2_with fail
    refine hd.mono ?_
    rintro e w1 ⟨k, o, r, x, rfl, hb1⟩
    have hA := IAt.new w1 25 [k, o, r, x]
    have hB1 := below_al hb1 (.cells #[.int .i64 k, .int .i64 o, .int .i64 r, .int .i64 x] 25)
    have hd2 := drawPackCap _ _ (BytesIn.below hw1 hB1)
    clear hb1 hw1 hd
    go_wp2_with fail
    refine hd2.mono ?_
    rintro e w2 ⟨k', o', r', x', rfl, hb2⟩
    have hA2 := hA.belowSelf hb2
    have hB2 := below_next hB1 hb2
    have hlt := hA2.lt
    have hA3 := hA2.alloc (.cells #[.int .i64 k', .int .i64 o', .int .i64 r', .int .i64 x'] 25)
    have hC3 := IAt.new w2 25 [k', o', r', x']
    have hB3 := below_al hB2 (.cells #[.int .i64 k', .int .i64 o', .int .i64 r', .int .i64 x'] 25)
    clear hd2 hB1 hB2 hb2 hA
    obtain ⟨c0, c1, c2, c3⟩ := hA2.cells4
    simp only [List.map_cons, List.map_nil] at hC3
    have hI := impl_PackCap k o r x
    have hS := spec_PackCap k o r x
    have hU := impl_UnpackCap (packN k o r x)
    cases va : capOk k o r x
    · have hn : capPack k o r x = -1 := by simp [capPack, va]
      rw [hn] at hI hS
      clear hn hU
      go_wp2_with fail
      refine (hI _).mono ?_
      rintro e w4 ⟨rfl, hb4⟩
      have hA4 := hA3.belowSelf hb4
      have hB4 := below_next hB3 hb4
      have hlt4 := hA4.lt
      clear c0 c1 c2 c3
      obtain ⟨c0, c1, c2, c3⟩ := hA4.cells4
      go_wp2_with fail
      refine (hS _).mono ?_
      rintro e w5 ⟨rfl, hb5⟩
      go_wp2_with fail
      refine (laws_alive _).mono ?_
      rintro e w6 ⟨rfl, hb6⟩
      go_wp2_with fail
      go_ret
      exact ⟨rfl, below_next (below_next hB4 hb5) hb6⟩
    · have hn : capPack k o r x = packN k o r x := by simp [capPack, va]
      obtain ⟨u1, u2, u3, u4, u5, u6⟩ := unpack_packN va
      have hu : unpackOk (packN k o r x) = true := by
        unfold unpackOk
        rw [u1, u2, u3, u4, va]
        simp [u5]
      rw [hn] at hI hS
      rw [hu, u1, u2, u3, u4] at hU
      simp only [if_true] at hU
      have HP := fun k' o' r' x' => Lib.hid (pack_eq (k' := k') (o' := o') (r' := r') (x' := x') va)
      clear hn hu u1 u2 u3 u4
      generalize packN k o r x = N at *
      go_wp2_with fail
      refine (hI _).mono ?_
      rintro e w4 ⟨rfl, hb4⟩
      have hA4 := hA3.belowSelf hb4
      have hC4 := hC3.belowSelf hb4
      have hB4 := below_next hB3 hb4
      have hlt4 := hA4.lt
      clear c0 c1 c2 c3
      obtain ⟨c0, c1, c2, c3⟩ := hA4.cells4
      go_wp2_with fail
      refine (hS _).mono ?_
      rintro e w5 ⟨rfl, hb5⟩
      have hN0 : ¬ N < 0 := by omega
      go_wp2_with fail
      refine (hU _ (by omega)).mono ?_
      rintro e w6 ⟨rfl, hb6⟩
      have hA6 := IAt.alloc ((hA4.belowSelf hb5).belowSelf hb6) (.cells #[.int .i64 k, .int .i64 o, .int .i64 r, .int .i64 x] 25)
      have hC6 := IAt.alloc ((hC4.belowSelf hb5).belowSelf hb6) (.cells #[.int .i64 k, .int .i64 o, .int .i64 r, .int .i64 x] 25)
      have hU6 := IAt.new w6 25 [k, o, r, x]
      simp only [List.map_cons, List.map_nil] at hU6
      have hB6 := below_al (below_next (below_next hB4 hb5) hb6) (.cells #[.int .i64 k, .int .i64 o, .int .i64 r, .int .i64 x] 25)
      have hlt6 := hA6.lt
      have hS0 : Kept w.heap.size w [(w1.heap.size, 25, [k, o, r, x]), (w2.heap.size, 25, [k', o', r', x']), (w6.heap.size, 25, [k, o, r, x])] _ := Kept.cons hA6 (Kept.cons hC6 (Kept.cons hU6 (Kept.nil hB6 hB6.size)))
      clear hA6 hC6 hU6 hB6 hB4 hA4 hC4 hb4 hb5 hb6 hB3 hA3 hC3 hA2 hI hS hU hlt hlt4 hlt6 c0 c1 c2 c3
      go_wp2_with fail
      generalize w6.alloc (.cells #[.int .i64 k, .int .i64 o, .int .i64 r, .int .i64 x] 25) = W at *
      generalize w1.heap.size = p at *
      generalize w2.heap.size = q at *
      generalize w6.heap.size = u at *
      generalize hB : w.heap.size = B at *
      have HB := Lib.hid hB
      clear hB
      have hp := (HP k' o' r' x').out
      have e5 : u5 = u5 := rfl
      clear e5 HP
      have ht : ∀ a b : Bool, (true && (a && b)) = (a && b) := fun _ _ => rfl
      have hf : ∀ a : Bool, (false && a) = false := fun _ => rfl
      cases q0 : (k == k')
      · rw [q0, hf] at hp
        clear ht hf
        go_region_held3 (fun w' => Kept B w [(p, 25, [k, o, r, x]), (q, 25, [k', o', r', x']), (u, 25, [k, o, r, x])] w' ∧ w'.cell? ⟨p, 0, none⟩ = some (.int .i64 k) ∧ w'.cell? ⟨p, 1, none⟩ = some (.int .i64 o) ∧ w'.cell? ⟨p, 2, none⟩ = some (.int .i64 r) ∧ w'.cell? ⟨p, 3, none⟩ = some (.int .i64 x) ∧ w'.cell? ⟨q, 0, none⟩ = some (.int .i64 k') ∧ w'.cell? ⟨q, 1, none⟩ = some (.int .i64 o') ∧ w'.cell? ⟨q, 2, none⟩ = some (.int .i64 r') ∧ w'.cell? ⟨q, 3, none⟩ = some (.int .i64 x') ∧ w'.cell? ⟨u, 0, none⟩ = some (.int .i64 k) ∧ w'.cell? ⟨u, 1, none⟩ = some (.int .i64 o) ∧ w'.cell? ⟨u, 2, none⟩ = some (.int .i64 r) ∧ w'.cell? ⟨u, 3, none⟩ = some (.int .i64 x))
          (first | exact kept_4_4_4 (Kept.drew hS0) | exact kept_4_4_4 (Kept.step (by assumption) (by assumption)) | exact kept_4_4_4 (Kept.same (by assumption)))
          (first | (go_at_call 21; refine (impl_PackCap _ _ _ _ _).mono ?_; rintro e w9 ⟨rfl, hb9⟩))
        have hS2 : Kept B w [(p, 25, [k, o, r, x]), (q, 25, [k', o', r', x']), (u, 25, [k, o, r, x])] w9 := And.left (by assumption)
        go_wp2_with fail
        go_ret
        exact ⟨rfl, HB.out ▸ hS2.2.1⟩
      rw [q0, ht] at hp
      cases q1 : (o == o')
      · rw [q1, hf] at hp
        clear ht hf
        go_region_held3 (fun w' => Kept B w [(p, 25, [k, o, r, x]), (q, 25, [k', o', r', x']), (u, 25, [k, o, r, x])] w' ∧ w'.cell? ⟨p, 0, none⟩ = some (.int .i64 k) ∧ w'.cell? ⟨p, 1, none⟩ = some (.int .i64 o) ∧ w'.cell? ⟨p, 2, none⟩ = some (.int .i64 r) ∧ w'.cell? ⟨p, 3, none⟩ = some (.int .i64 x) ∧ w'.cell? ⟨q, 0, none⟩ = some (.int .i64 k') ∧ w'.cell? ⟨q, 1, none⟩ = some (.int .i64 o') ∧ w'.cell? ⟨q, 2, none⟩ = some (.int .i64 r') ∧ w'.cell? ⟨q, 3, none⟩ = some (.int .i64 x') ∧ w'.cell? ⟨u, 0, none⟩ = some (.int .i64 k) ∧ w'.cell? ⟨u, 1, none⟩ = some (.int .i64 o) ∧ w'.cell? ⟨u, 2, none⟩ = some (.int .i64 r) ∧ w'.cell? ⟨u, 3, none⟩ = some (.int .i64 x))
          (first | exact kept_4_4_4 (Kept.drew hS0) | exact kept_4_4_4 (Kept.step (by assumption) (by assumption)) | exact kept_4_4_4 (Kept.same (by assumption)))
          (first | (go_at_call 21; refine (impl_PackCap _ _ _ _ _).mono ?_; rintro e w9 ⟨rfl, hb9⟩))
        have hS2 : Kept B w [(p, 25, [k, o, r, x]), (q, 25, [k', o', r', x']), (u, 25, [k, o, r, x])] w9 := And.left (by assumption)
        go_wp2_with fail
        go_ret
        exact ⟨rfl, HB.out ▸ hS2.2.1⟩
      have ht1 : ∀ b : Bool, (true && b) = b := fun _ => rfl
      rw [q1, ht1] at hp
      cases q2 : (r == r')
      · rw [q2, hf] at hp
        clear ht hf ht1
        go_region_held3 (fun w' => Kept B w [(p, 25, [k, o, r, x]), (q, 25, [k', o', r', x']), (u, 25, [k, o, r, x])] w' ∧ w'.cell? ⟨p, 0, none⟩ = some (.int .i64 k) ∧ w'.cell? ⟨p, 1, none⟩ = some (.int .i64 o) ∧ w'.cell? ⟨p, 2, none⟩ = some (.int .i64 r) ∧ w'.cell? ⟨p, 3, none⟩ = some (.int .i64 x) ∧ w'.cell? ⟨q, 0, none⟩ = some (.int .i64 k') ∧ w'.cell? ⟨q, 1, none⟩ = some (.int .i64 o') ∧ w'.cell? ⟨q, 2, none⟩ = some (.int .i64 r') ∧ w'.cell? ⟨q, 3, none⟩ = some (.int .i64 x') ∧ w'.cell? ⟨u, 0, none⟩ = some (.int .i64 k) ∧ w'.cell? ⟨u, 1, none⟩ = some (.int .i64 o) ∧ w'.cell? ⟨u, 2, none⟩ = some (.int .i64 r) ∧ w'.cell? ⟨u, 3, none⟩ = some (.int .i64 x))
          (first | exact kept_4_4_4 (Kept.drew hS0) | exact kept_4_4_4 (Kept.step (by assumption) (by assumption)) | exact kept_4_4_4 (Kept.same (by assumption)))
          (first | (go_at_call 21; refine (impl_PackCap _ _ _ _ _).mono ?_; rintro e w9 ⟨rfl, hb9⟩))
        have hS2 : Kept B w [(p, 25, [k, o, r, x]), (q, 25, [k', o', r', x']), (u, 25, [k, o, r, x])] w9 := And.left (by assumption)
        go_wp2_with fail
        go_ret
        exact ⟨rfl, HB.out ▸ hS2.2.1⟩
      rw [q2, ht1] at hp
      clear ht hf ht1
      cases q3 : (x == x')
      all_goals
        rw [q3] at hp
        go_region_held3 (fun w' => Kept B w [(p, 25, [k, o, r, x]), (q, 25, [k', o', r', x']), (u, 25, [k, o, r, x])] w' ∧ w'.cell? ⟨p, 0, none⟩ = some (.int .i64 k) ∧ w'.cell? ⟨p, 1, none⟩ = some (.int .i64 o) ∧ w'.cell? ⟨p, 2, none⟩ = some (.int .i64 r) ∧ w'.cell? ⟨p, 3, none⟩ = some (.int .i64 x) ∧ w'.cell? ⟨q, 0, none⟩ = some (.int .i64 k') ∧ w'.cell? ⟨q, 1, none⟩ = some (.int .i64 o') ∧ w'.cell? ⟨q, 2, none⟩ = some (.int .i64 r') ∧ w'.cell? ⟨q, 3, none⟩ = some (.int .i64 x') ∧ w'.cell? ⟨u, 0, none⟩ = some (.int .i64 k) ∧ w'.cell? ⟨u, 1, none⟩ = some (.int .i64 o) ∧ w'.cell? ⟨u, 2, none⟩ = some (.int .i64 r) ∧ w'.cell? ⟨u, 3, none⟩ = some (.int .i64 x))
          (first | exact kept_4_4_4 (Kept.drew hS0) | exact kept_4_4_4 (Kept.step (by assumption) (by assumption)) | exact kept_4_4_4 (Kept.same (by assumption)))
          (first | (go_at_call 21; refine (impl_PackCap _ _ _ _ _).mono ?_; rintro e w9 ⟨rfl, hb9⟩))
        have hS2 : Kept B w [(p, 25, [k, o, r, x]), (q, 25, [k', o', r', x']), (u, 25, [k, o, r, x])] w9 := And.left (by assumption)
        go_wp2_with fail
        go_ret
        exact ⟨rfl, HB.out ▸ hS2.2.1⟩

set_option maxRecDepth 100000 in
theorem lifted_FnPackCap (os : Os) (started : os.Started) (H : Type) (enc : TypeId × Value → H) :
    ReturnsInHanded {} Try.checked os 9 .any (Rows.fnPackCapSpec.pre6 enc Try.prog Try.f9 Rows.fnPackCapRow.domain false) (Rows.fnPackCapSpec.post enc Try.prog Try.f9 false true false false) := by
  refine returnsInHanded_of_change (C := Try.checked) row_own started (by kernel_rfl) Try.func9
    (ChangeSpec.witness6 (enc := enc) (C := Try.checked) false ⟨#[], #[.slice none 0 0, .slice none 0 0], []⟩ 8 (by kernel_rfl) (by kernel_rfl) (by kernel_rfl) (by kernel_rfl)) ?_
  intro W base args ds gs before hval0 hW hcnd _
  have hval : ∀ (j : Nat) t v, Try.f9.params[j]? = some t → args[j]? = some v → Value.okWide Try.prog W .any base t v := hval0
  have hW' := hW
  obtain ⟨p, q, hA0, hV, rfl, hfz, hnd⟩ := hW
  have hA : DataW.TrodAll enc Try.prog W 0 (fun _ => true) true Try.f9.params.toList args.toList ds p := hA0
  rw [Try.params9] at hA hval
  obtain ⟨v0, vs0, d0, ds0, p0, q0, hargs, rfl, rfl, h0, r0⟩ := trodAll_cons hA
  obtain ⟨v1, vs1, d1, ds1, p1, q1, rfl, rfl, rfl, h1, r1⟩ := trodAll_cons r0
  obtain ⟨rfl, rfl, rfl⟩ := trodAll_nil r1
  obtain rfl : args = #[v0, v1] := by cases args; simp_all
  obtain ⟨rfl, rfl⟩ := trodVars_none hV
  have k0 := h0
  have lt0 : ∀ x ∈ p0, x.block < W.heap.size := by obtain ⟨m, hm⟩ := k0; exact DataW.trod_lt m _ _ _ hm
  have w0 := open_bytes (hval 0 36 v0 rfl rfl) h0
  have k1 := h1
  have lt1 : ∀ x ∈ p1, x.block < W.heap.size := by obtain ⟨m, hm⟩ := k1; exact DataW.trod_lt m _ _ _ hm
  have w1 := open_bytes (hval 1 36 v1 rfl rfl) h1
  clear hA0 hval0
  refine (walk_FnPackCap v0 v1 W w0 w1).mono fun e W' ⟨he, bel⟩ => ?_
  subst he
  exact ⟨_, rfl, _, _, _, [], _, [], hW', trodAll_mk1 (shut_bool Try.underlying4 _), (trodAll_cons_mk (Below.trod row_laidOut (by kernel_rfl) (of_decide_eq_true (by kernel_rfl)) k0 bel lt0) (trodAll_cons_mk (Below.trod row_laidOut (by kernel_rfl) (of_decide_eq_true (by kernel_rfl)) k1 bel lt1) trodAll_mk0)), rfl, bel.frame _, fun h => by cases h⟩

theorem over_FnPackCap : Rows.fnPackCapRow.holds Try.pinned (OpenSpec.ofChange Rows.fnPackCapSpec) :=
  OpenClaim.holds_of_wide 9 Try.f9 rfl rfl rfl rfl rfl rfl rfl ⟨rfl, rfl, rfl, rfl, rfl⟩ rfl rfl rfl rfl rfl (by kernel_rfl) Try.func9 (by kernel_rfl)
    (of_decide_eq_true (by kernel_rfl)) (by unfold Func.isWrapper; first | (rw [if_pos (by decide +kernel)]; kernel_rfl) | (rw [if_neg (by decide +kernel)]; exact ⟨rfl, rfl⟩))
    (fun os started H enc _ => lifted_FnPackCap os started H enc)

theorem FnPackCap_holds : Rows.FnPackCapSaid := over_FnPackCap

end Go.Proofs.Ytciebhdoafhkbaa
