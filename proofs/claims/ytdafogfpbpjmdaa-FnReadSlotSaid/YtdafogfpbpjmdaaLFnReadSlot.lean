/- The law FnReadSlot: whatever its arguments, the call returns true, and every argument reads afterwards as it read before. No condition. -/
import Derived.Test.YtdafogfpbpjmdaaTabR
import Derived.Test.YtdafogfpbpjmdaaTabsV
import Derived.Test.YtdafogfpbpjmdaaDrawTabLaws
import Derived.Test.YtdafogfpbpjmdaaTexts
namespace Go.Proofs.Ytdafogfpbpjmdaa
open Go.ChangeShapes Go.WideShapes Go.ChangeAt Go.RowKit
open Go.ChangeMaps (open_string shut_string)
set_option linter.unusedVariables false

set_option maxRecDepth 100000 in
set_option maxHeartbeats 16000000 in
theorem walk_FnReadSlot (v0 : Value) (w : World) (w0 : BytesIn w v0) :
    Calls Try.prog 11 #[v0] w fun e w' => e = .returned (.bool true) ∧ Below w.heap.size w w' := by
  have hd := drawReadSlot v0 w w0
  obtain ⟨Ac, nc, capc, bs, rfl, hnc, hcc, _⟩ := w0
  by_cases h20 : (1048576 : Int) < (nc : Int)
  · go_enter Try.func11, Try.ntmps11
    go_wp2_with fail
    go_ret
    exact ⟨rfl, Below.refl _ _⟩
  · go_enter Try.func11, Try.ntmps11
    go_wp2_with fail
    refine hd.mono ?_
    rintro e w1 ⟨A, n, c, ts, i, s, rfl, hT, n1, n2, hnc, hcm, hS, hb1⟩
    have hn : n ≤ 2000000 := by omega
    have hIV := fun W (h : TabRd W A n ts) => impl_ReadSlot A n c ts i s W h hn hS
    have hSV := fun W (h : TabRd W A n ts) => spec_ReadSlot A n c ts i s W h hn hS
    have hTV := fun W (h : TabRd W A n ts) => spec_TablesValid A n c ts W h hn hS
    obtain ⟨ck, co, cr, cb, hrc⟩ : ∃ k o r b, readC ts i s = ⟨k, o, r, b⟩ := ⟨_, _, _, _, rfl⟩
    simp only [hrc] at hIV hSV
    have HRC := Lib.hid hrc
    clear hrc hd
    go_wp2_with fail
    refine (hIV _ hT).mono ?_
    rintro e w2 ⟨rfl, hb2⟩
    have hX := CAt.new w2 41 [.int .i64 ck, .int .i64 co, .int .i64 cr, .int .i64 cb]
    have hba := below_al hb2 (.cells #[.int .i64 ck, .int .i64 co, .int .i64 cr, .int .i64 cb] 41)
    have hT2 := hT.below hba
    have hB2 := below_next hb1 hba
    clear hT hb1 hb2 hba hIV
    go_wp2_with fail
    generalize w2.alloc (.cells #[.int .i64 ck, .int .i64 co, .int .i64 cr, .int .i64 cb] 41) = W2 at *
    generalize w2.heap.size = C at *
    obtain ⟨x0, x1, x2, x3⟩ := hX.cells4
    have fX := hX.free
    go_cut [25] from 20 to 25 (fun v wx => v = .bool false ∧ Below W2.heap.size W2 wx)
    case first =>
      go_region_with (first
        | (go_at_call 25; refine (hSV _ ?_).mono ?_; exact hT2; rintro e w3 ⟨rfl, hb3⟩; obtain ⟨z0, z1, z2, z3⟩ := (CAt.below (w := W2.drew) hX hb3).cells4))
      all_goals (try go_wp2_with fail)
      all_goals go_meet
      all_goals exact ⟨rfl, below_next (Below.refl _ W2).drew hb3⟩
    case rest =>
      obtain ⟨rfl, hb3⟩ := hcut
      obtain ⟨W3, hW3⟩ : ∃ W, W = wc := ⟨_, rfl⟩
      subst hW3
      have hX3 := hX.below hb3
      have hT3 := hT2.below hb3
      have hB3 := below_next hB2 hb3
      clear hX hT2 hB2 hb3 x0 x1 x2 x3 fX hSV
      obtain ⟨x0, x1, x2, x3⟩ := hX3.cells4
      have fX := hX3.free
      go_wp2_with fail
      refine (hTV _ hT3).mono ?_
      rintro e w4 ⟨rfl, hb4⟩
      have hlen := hT3.1
      have hX4 := hX3.below hb4
      have hT4 := hT3.below hb4
      have hB4 := below_next hB3 hb4
      clear hX3 hT3 hB3 hb4 x0 x1 x2 x3 fX hTV
      obtain ⟨x0, x1, x2, x3⟩ := hX4.cells4
      have fX := hX4.free
      cases hv : tabsOk ts
      · have hno : slotB ts i s = false := by simp [slotB, hv]
        have hz : (⟨ck, co, cr, cb⟩ : Cp) = ⟨0, 0, 0, 0⟩ := HRC.out.symm.trans (by unfold readC; rw [hno]; rfl)
        injection hz with z1 z2 z3 z4
        subst z1 z2 z3 z4
        go_wp2_with fail
        refine (laws_alive _).mono ?_
        rintro e wz ⟨rfl, hbz⟩
        go_wp2_with fail
        go_ret
        exact ⟨rfl, below_next hB4 hbz⟩
      by_cases hi0 : i < 0
      · have hno : slotB ts i s = false := by cases hq : slotB ts i s with | false => rfl | true => have := slotB_iff.1 hq; omega
        have hz : (⟨ck, co, cr, cb⟩ : Cp) = ⟨0, 0, 0, 0⟩ := HRC.out.symm.trans (by unfold readC; rw [hno]; rfl)
        injection hz with z1 z2 z3 z4
        subst z1 z2 z3 z4
        go_wp2_with fail
        refine (laws_alive _).mono ?_
        rintro e wz ⟨rfl, hbz⟩
        go_wp2_with fail
        go_ret
        exact ⟨rfl, below_next hB4 hbz⟩
      have hi1 : 0 ≤ i := by omega
      by_cases hin : (n : Int) ≤ i
      · have hno : slotB ts i s = false := by cases hq : slotB ts i s with | false => rfl | true => have := slotB_iff.1 hq; omega
        have hz : (⟨ck, co, cr, cb⟩ : Cp) = ⟨0, 0, 0, 0⟩ := HRC.out.symm.trans (by unfold readC; rw [hno]; rfl)
        injection hz with z1 z2 z3 z4
        subst z1 z2 z3 z4
        go_wp2_with fail
        refine (laws_alive _).mono ?_
        rintro e wz ⟨rfl, hbz⟩
        go_wp2_with fail
        go_ret
        exact ⟨rfl, below_next hB4 hbz⟩
      have hin' : i < (n : Int) := by omega
      by_cases hs0 : s < 0
      · have hno : slotB ts i s = false := by cases hq : slotB ts i s with | false => rfl | true => have := slotB_iff.1 hq; omega
        have hz : (⟨ck, co, cr, cb⟩ : Cp) = ⟨0, 0, 0, 0⟩ := HRC.out.symm.trans (by unfold readC; rw [hno]; rfl)
        injection hz with z1 z2 z3 z4
        subst z1 z2 z3 z4
        go_wp2_with fail
        refine (laws_alive _).mono ?_
        rintro e wz ⟨rfl, hbz⟩
        go_wp2_with fail
        go_ret
        exact ⟨rfl, below_next hB4 hbz⟩
      have hs1 : 0 ≤ s := by omega
      obtain ⟨j, rfl⟩ := Int.eq_ofNat_of_zero_le hi1
      obtain ⟨k, rfl⟩ := Int.eq_ofNat_of_zero_le hs1
      have hj : j < n := by omega
      obtain ⟨g, o, rfl, hgl, hcells⟩ := hT4.2 (by omega)
      obtain ⟨S, cS, t0, t1, t2, t3, -, -, hcap⟩ := hcells j hj
      have hat : tabAt ts (j : Int) = ts.getD j T0 := tabAt_nat _ _
      have hbit := (tabsOk_iff.1 hv).1 j (by omega)
      generalize hL : (ts.getD j T0).slots.length = L at *
      have HL := Lib.hid hL
      clear hL hcells
      by_cases hsl : (L : Int) ≤ (k : Int)
      · have hno : slotB ts j k = false := by cases hq : slotB ts j k with | false => rfl | true => have := slotB_iff.1 hq; rw [hat, HL.out] at this; omega
        have hz : (⟨ck, co, cr, cb⟩ : Cp) = ⟨0, 0, 0, 0⟩ := HRC.out.symm.trans (by unfold readC; rw [hno]; rfl)
        injection hz with z1 z2 z3 z4
        subst z1 z2 z3 z4
        go_wp2_with fail
        refine (laws_alive _).mono ?_
        rintro e wz ⟨rfl, hbz⟩
        go_wp2_with fail
        go_ret
        exact ⟨rfl, below_next hB4 hbz⟩
      have hsl' : (k : Int) < (L : Int) := by omega
      have hkl : k < L := by omega
      have hyes : slotB ts j k = true := slotB_iff.2 ⟨hv, ⟨hi1, by omega⟩, hs1, by rw [hat, HL.out]; exact hsl'⟩
      have hrd : (ts.getD j T0).slots.getD k C0 = ⟨ck, co, cr, cb⟩ := by
        rw [← HRC.out]
        unfold readC
        rw [if_pos hyes, hat, capAt_nat]
      have hcok : capOk ck co cr cb = true := by
        have := (tabOk_iff.1 hbit).2 k (by rw [HL.out]; exact hkl)
        rw [hrd] at this
        exact this
      obtain ⟨gs, os, rfl, hgs, hcc⟩ := hcap.2 (by omega)
      obtain ⟨q0, q1, q2, q3⟩ := hcc k hkl
      rw [hrd] at q0 q1 q2 q3
      simp only at q0 q1 q2 q3
      have hCV := fun W => impl_CapValid ck co cr cb W
      simp only [hcok] at hCV
      have HB4 := Lib.hid hB4
      clear hcap hcc hbit hat hyes hrd hcok hT4 hB4 t0 t1 t2
      go_wp2_with fail
      go_region_with (first
        | (go_at_call 39; refine (hCV _).mono ?_; rintro e w' ⟨rfl, rfl⟩))
      all_goals (try go_wp2_with fail)
      all_goals go_ret
      all_goals exact ⟨rfl, by first | exact below_al HB4.out.drew _ | exact HB4.out.drew⟩

set_option maxRecDepth 100000 in
theorem lifted_FnReadSlot (os : Os) (started : os.Started) (H : Type) (enc : TypeId × Value → H) :
    ReturnsInHanded {} Try.checked os 11 .any (Rows.fnReadSlotSpec.pre6 enc Try.prog Try.f11 Rows.fnReadSlotRow.domain false) (Rows.fnReadSlotSpec.post enc Try.prog Try.f11 false true false false) := by
  refine returnsInHanded_of_change (C := Try.checked) row_own started (by kernel_rfl) Try.func11
    (ChangeSpec.witness6 (enc := enc) (C := Try.checked) false ⟨#[], #[.slice none 0 0], []⟩ 8 (by kernel_rfl) (by kernel_rfl) (by kernel_rfl) (by kernel_rfl)) ?_
  intro W base args ds gs before hval0 hW hcnd _
  have hval : ∀ (j : Nat) t v, Try.f11.params[j]? = some t → args[j]? = some v → Value.okWide Try.prog W .any base t v := hval0
  have hW' := hW
  obtain ⟨p, q, hA0, hV, rfl, hfz, hnd⟩ := hW
  have hA : DataW.TrodAll enc Try.prog W 0 (fun _ => true) true Try.f11.params.toList args.toList ds p := hA0
  rw [Try.params11] at hA hval
  obtain ⟨v0, vs0, d0, ds0, p0, q0, hargs, rfl, rfl, h0, r0⟩ := trodAll_cons hA
  obtain ⟨rfl, rfl, rfl⟩ := trodAll_nil r0
  obtain rfl : args = #[v0] := by cases args; simp_all
  obtain ⟨rfl, rfl⟩ := trodVars_none hV
  have k0 := h0
  have lt0 : ∀ x ∈ p0, x.block < W.heap.size := by obtain ⟨m, hm⟩ := k0; exact DataW.trod_lt m _ _ _ hm
  have w0 := open_bytes (hval 0 53 v0 rfl rfl) h0
  clear hA0 hval0
  refine (walk_FnReadSlot v0 W w0).mono fun e W' ⟨he, bel⟩ => ?_
  subst he
  exact ⟨_, rfl, _, _, _, [], _, [], hW', trodAll_mk1 (shut_bool Try.underlying4 _), (trodAll_cons_mk (Below.trod row_laidOut (by kernel_rfl) (of_decide_eq_true (by kernel_rfl)) k0 bel lt0) trodAll_mk0), rfl, bel.frame _, fun h => by cases h⟩

theorem over_FnReadSlot : Rows.fnReadSlotRow.holds Try.pinned (OpenSpec.ofChange Rows.fnReadSlotSpec) :=
  OpenClaim.holds_of_wide 11 Try.f11 rfl rfl rfl rfl rfl rfl rfl ⟨rfl, rfl, rfl, rfl, rfl⟩ rfl rfl rfl rfl rfl (by kernel_rfl) Try.func11 (by kernel_rfl)
    (of_decide_eq_true (by kernel_rfl)) (by unfold Func.isWrapper; first | (rw [if_pos (by decide +kernel)]; kernel_rfl) | (rw [if_neg (by decide +kernel)]; exact ⟨rfl, rfl⟩))
    (fun os started H enc _ => lifted_FnReadSlot os started H enc)

theorem FnReadSlot_holds : Rows.FnReadSlotSaid := over_FnReadSlot

end Go.Proofs.Ytdafogfpbpjmdaa
