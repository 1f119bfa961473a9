/- The law FnLookupSlot: whatever its arguments, the call returns true, and every argument reads afterwards as it read before. No condition. -/
import Derived.Test.YtdafogfpbpjmdaaLookI
import Derived.Test.YtdafogfpbpjmdaaLookS
import Derived.Test.YtdafogfpbpjmdaaTabR
import Derived.Test.YtdafogfpbpjmdaaDrawLook
import Derived.Test.YtdafogfpbpjmdaaTexts
import Derived.Test.YtdafogfpbpjmdaaHeld
namespace Go.Proofs.Ytdafogfpbpjmdaa
open Go.ChangeShapes Go.WideShapes Go.ChangeAt Go.RowKit
open Go.ChangeMaps (open_string shut_string)
set_option linter.unusedVariables false

theorem heldStep {u w v : World} {P : Prop} (hb : Below w.heap.size w v) (h : Below u.heap.size u w ∧ P) : Below u.heap.size u v := below_next h.1 hb

set_option maxRecDepth 100000 in
set_option maxHeartbeats 16000000 in
theorem walk_FnLookupSlot (v0 : Value) (w : World) (w0 : BytesIn w v0) :
    Calls Try.prog 13 #[v0] w fun e w' => e = .returned (.bool true) ∧ Below w.heap.size w w' := by
  have hd := drawLookupSlot v0 w w0
  obtain ⟨Ac, nc, capc, bs, rfl, hnc, hcc, _⟩ := w0
  by_cases h20 : (1048576 : Int) < (nc : Int)
  · go_enter Try.func13, Try.ntmps13
    go_wp2_with fail
    go_ret
    exact ⟨rfl, Below.refl _ _⟩
  · go_enter Try.func13, Try.ntmps13
    go_wp2_with fail
    refine hd.mono ?_
    rintro e w1 ⟨A, n, c, ts, i, a, d, rfl, hT, n1, n2, hnc, hcm, hS, hb1⟩
    have hn : n ≤ 2000000 := by omega
    have hIV := fun W (h : TabRd W A n ts) => impl_LookupSlot A n c ts i a d W h hn hS
    have hSV := fun W (h : TabRd W A n ts) => spec_LookupSlot A n c ts i a d W h hn hS
    have HS := Lib.hid hS
    clear hd hS
    cases hl : look ts i a d with
    | none =>
      simp only [hl, lookV_none] at hIV hSV
      go_wp2_with fail
      refine (hIV _ hT).mono ?_
      rintro e w2 ⟨rfl, hb2⟩
      have hT2 := hT.below hb2
      have hB2 := below_next hb1 hb2
      clear hT hb1 hb2
      go_wp2_with fail
      refine (hSV _ hT2).mono ?_
      rintro e w3 ⟨rfl, hb3⟩
      have hB3 := below_next hB2 hb3
      clear hT2 hB2 hb3
      go_wp2_with fail
      refine (laws_alive _).mono ?_
      rintro e wz ⟨rfl, hbz⟩
      go_wp2_with fail
      go_ret
      exact ⟨rfl, below_next hB3 hbz⟩
    | some ts' =>
      obtain ⟨t, s⟩ := ts'
      simp only [hl, lookV_some] at hIV hSV
      have hlk : tabsOk ts = true ∧ inB d 1 16 = true ∧ inB a 0 (pw d - 1) = true ∧ lookF ts (d.toNat + 1) i a d = some (t, s) := by
        unfold look at hl
        split at hl
        · next hh =>
          simp only [Bool.and_eq_true] at hh
          exact ⟨hh.1.1, hh.1.2, hh.2, hl⟩
        · cases hl
      obtain ⟨hv, hd16, ha, hlf⟩ := hlk
      obtain ⟨⟨t0, t1⟩, ⟨s0, s1⟩, hmod, -⟩ := look_ends hv _ _ _ _ _ _ hlf
      obtain ⟨a0, -⟩ := inB_iff.1 ha
      clear hl hd16 ha hlf
      have hlen := hT.1
      obtain ⟨j, rfl⟩ := Int.eq_ofNat_of_zero_le t0
      obtain ⟨k, rfl⟩ := Int.eq_ofNat_of_zero_le s0
      have hj : j < n := by omega
      have hj' : (j : Int) < (n : Int) := by omega
      have hat : tabAt ts (j : Int) = ts.getD j T0 := tabAt_nat _ _
      have hyes : slotB ts j k = true := slotB_iff.2 ⟨hv, ⟨t0, t1⟩, s0, s1⟩
      rw [hat] at s1 hmod
      obtain ⟨⟨b0, b1⟩, -⟩ := headOk_iff.1 (tabOk_iff.1 ((tabsOk_iff.1 hv).1 j (by omega))).1
      have hrd : readC ts j k = (ts.getD j T0).slots.getD k C0 := by
        unfold readC
        rw [if_pos hyes, hat, capAt_nat]
      have hRV := fun W (h : TabRd W A n ts) => impl_ReadSlot A n c ts j k W h hn HS.out
      obtain ⟨ck, co, cr, cb, hcc⟩ : ∃ k' o' r' b', (ts.getD j T0).slots.getD k C0 = ⟨k', o', r', b'⟩ := ⟨_, _, _, _, rfl⟩
      rw [hcc] at hrd
      simp only [hrd] at hRV
      have HCC := Lib.hid hcc
      clear hv hyes hat hrd hcc hlen t1
      go_wp2_with fail
      refine (hIV _ hT).mono ?_
      rintro e w2 ⟨rfl, hb2⟩
      have hT2 := hT.below hb2
      have hB2 := below_next hb1 hb2
      clear hT hb1 hb2
      go_wp2_with fail
      refine (hSV _ hT2).mono ?_
      rintro e w3 ⟨rfl, hb3⟩
      have hT3 := hT2.below hb3
      have hB3 := below_next hB2 hb3
      clear hT2 hB2 hb3 hIV hSV
      go_wp2_with fail
      obtain ⟨W3, hW3⟩ : ∃ W, W = w3 := ⟨_, rfl⟩
      subst hW3
      obtain ⟨g, o, rfl, hgl, hcells⟩ := hT3.2 (by omega)
      obtain ⟨S, cS, y0, y1, y2, y3, -, -, hcap⟩ := hcells j hj
      generalize hL : (ts.getD j T0).slots.length = L at *
      obtain ⟨gs, os, rfl, hgs, hcl⟩ := hcap.2 (by omega)
      obtain ⟨q0, q1, q2, q3⟩ := hcl k (by omega)
      rw [HCC.out] at q0 q1 q2 q3
      simp only at q0 q1 q2 q3
      generalize (ts.getD j T0).bits = B at *
      have hpb := pw_wrap (b := B) (by omega)
      have hpb2 := pw_i64 (b := B) (by omega)
      have hpb1 := pw_pos B
      have htm : a.tmod (pw B) = k := (tmod_pw a0).trans hmod
      generalize pw B = P at *
      have hP0 : ¬ P = 0 := by omega
      have hB0 : ¬ B < 0 := by omega
      have hsL : (k : Int) < (L : Int) := by omega
      have HB3 := Lib.hid hB3
      have HSS : ∀ w', Below W3.heap.size W3 w' → Below W3.heap.size W3 w' ∧ w'.cell? ⟨g, o + j * 4, none⟩ = some (.int .i64 B) ∧ w'.cell? ⟨g, o + j * 4 + 3, none⟩ = some (.slice (some ⟨gs, os, none⟩) L cS) ∧ w'.cell? ⟨gs, os + k * 4, none⟩ = some (.int .i64 ck) ∧ w'.cell? ⟨gs, os + k * 4 + 1, none⟩ = some (.int .i64 co) ∧ w'.cell? ⟨gs, os + k * 4 + 2, none⟩ = some (.int .i64 cr) ∧ w'.cell? ⟨gs, os + k * 4 + 3, none⟩ = some (.int .i64 cb) := fun w' hb =>
        ⟨hb, (hb.cell (p := ⟨g, o + j * 4, none⟩) hgl).trans y0, (hb.cell (p := ⟨g, o + j * 4 + 3, none⟩) hgl).trans y3, (hb.cell (p := ⟨gs, os + k * 4, none⟩) hgs).trans q0, (hb.cell (p := ⟨gs, os + k * 4 + 1, none⟩) hgs).trans q1, (hb.cell (p := ⟨gs, os + k * 4 + 2, none⟩) hgs).trans q2, (hb.cell (p := ⟨gs, os + k * 4 + 3, none⟩) hgs).trans q3⟩
      have HRV : ∀ w', Below W3.heap.size W3 w' → _ := fun w' hb => hRV w' (hT3.below hb)
      clear hcells hcap hcl hL hT3 hB3 y0 y1 y2 y3 q0 q1 q2 q3 hmod HCC hgl hgs hRV
      (first
        | (go_region_held3 (fun w' => Below W3.heap.size W3 w' ∧ w'.cell? ⟨g, o + j * 4, none⟩ = some (.int .i64 B) ∧ w'.cell? ⟨g, o + j * 4 + 3, none⟩ = some (.slice (some ⟨gs, os, none⟩) L cS) ∧ w'.cell? ⟨gs, os + k * 4, none⟩ = some (.int .i64 ck) ∧ w'.cell? ⟨gs, os + k * 4 + 1, none⟩ = some (.int .i64 co) ∧ w'.cell? ⟨gs, os + k * 4 + 2, none⟩ = some (.int .i64 cr) ∧ w'.cell? ⟨gs, os + k * 4 + 3, none⟩ = some (.int .i64 cb))
            (first | exact HSS _ (Below.refl _ W3).drew | exact HSS _ (heldStep (by assumption) (by assumption)))
            (first | (go_at_call 26; refine (HRV _ (And.left (by assumption))).mono ?_; rintro e w4 ⟨rfl, hb4⟩)))
        | fail)
      have hB4 : Below W3.heap.size W3 w4 := And.left (by assumption)
      go_wp2_with fail
      go_ret
      exact ⟨rfl, below_next HB3.out hB4⟩

set_option maxRecDepth 100000 in
theorem lifted_FnLookupSlot (os : Os) (started : os.Started) (H : Type) (enc : TypeId × Value → H) :
    ReturnsInHanded {} Try.checked os 13 .any (Rows.fnLookupSlotSpec.pre6 enc Try.prog Try.f13 Rows.fnLookupSlotRow.domain false) (Rows.fnLookupSlotSpec.post enc Try.prog Try.f13 false true false false) := by
  refine returnsInHanded_of_change (C := Try.checked) row_own started (by kernel_rfl) Try.func13
    (ChangeSpec.witness6 (enc := enc) (C := Try.checked) false ⟨#[], #[.slice none 0 0], []⟩ 8 (by kernel_rfl) (by kernel_rfl) (by kernel_rfl) (by kernel_rfl)) ?_
  intro W base args ds gs before hval0 hW hcnd _
  have hval : ∀ (j : Nat) t v, Try.f13.params[j]? = some t → args[j]? = some v → Value.okWide Try.prog W .any base t v := hval0
  have hW' := hW
  obtain ⟨p, q, hA0, hV, rfl, hfz, hnd⟩ := hW
  have hA : DataW.TrodAll enc Try.prog W 0 (fun _ => true) true Try.f13.params.toList args.toList ds p := hA0
  rw [Try.params13] at hA hval
  obtain ⟨v0, vs0, d0, ds0, p0, q0, hargs, rfl, rfl, h0, r0⟩ := trodAll_cons hA
  obtain ⟨rfl, rfl, rfl⟩ := trodAll_nil r0
  obtain rfl : args = #[v0] := by cases args; simp_all
  obtain ⟨rfl, rfl⟩ := trodVars_none hV
  have k0 := h0
  have lt0 : ∀ x ∈ p0, x.block < W.heap.size := by obtain ⟨m, hm⟩ := k0; exact DataW.trod_lt m _ _ _ hm
  have w0 := open_bytes (hval 0 53 v0 rfl rfl) h0
  clear hA0 hval0
  refine (walk_FnLookupSlot v0 W w0).mono fun e W' ⟨he, bel⟩ => ?_
  subst he
  exact ⟨_, rfl, _, _, _, [], _, [], hW', trodAll_mk1 (shut_bool Try.underlying4 _), (trodAll_cons_mk (Below.trod row_laidOut (by kernel_rfl) (of_decide_eq_true (by kernel_rfl)) k0 bel lt0) trodAll_mk0), rfl, bel.frame _, fun h => by cases h⟩

theorem over_FnLookupSlot : Rows.fnLookupSlotRow.holds Try.pinned (OpenSpec.ofChange Rows.fnLookupSlotSpec) :=
  OpenClaim.holds_of_wide 13 Try.f13 rfl rfl rfl rfl rfl rfl rfl ⟨rfl, rfl, rfl, rfl, rfl⟩ rfl rfl rfl rfl rfl (by kernel_rfl) Try.func13 (by kernel_rfl)
    (of_decide_eq_true (by kernel_rfl)) (by unfold Func.isWrapper; first | (rw [if_pos (by decide +kernel)]; kernel_rfl) | (rw [if_neg (by decide +kernel)]; exact ⟨rfl, rfl⟩))
    (fun os started H enc _ => lifted_FnLookupSlot os started H enc)

theorem FnLookupSlot_holds : Rows.FnLookupSlotSaid := over_FnLookupSlot

end Go.Proofs.Ytdafogfpbpjmdaa
