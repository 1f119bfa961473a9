/- The law FnPutSlot: whatever its arguments, the call returns true, and every argument reads afterwards as it read before. No condition. -/
import Derived.Test.YtdafogfpbpjmdaaPutS
import Derived.Test.YtdafogfpbpjmdaaPutJ
import Derived.Test.YtdafogfpbpjmdaaTabL
import Derived.Test.YtdafogfpbpjmdaaTabSame
import Derived.Test.YtdafogfpbpjmdaaTabR
import Derived.Test.YtdafogfpbpjmdaaTabsV
import Derived.Test.YtdafogfpbpjmdaaDrawTabLaws
import Derived.Test.YtdafogfpbpjmdaaTexts
import Derived.Test.YtdafogfpbpjmdaaHeld
namespace Go.Proofs.Ytdafogfpbpjmdaa
open Go.ChangeShapes Go.WideShapes Go.ChangeAt Go.RowKit
open Go.ChangeMaps (open_string shut_string)
set_option linter.unusedVariables false

theorem heldStep {u w v : World} {P : Prop} (hb : Below w.heap.size w v) (h : Below u.heap.size u w ∧ P) : Below u.heap.size u v := below_next h.1 hb

theorem putT_bits {ts : List Tab} {i s : Nat} {c : Cp} (hi : i < ts.length) : ((putT ts i s c).getD i T0).slots.length = (ts.getD i T0).slots.length := put_slots_len hi i

set_option maxRecDepth 100000 in
set_option maxHeartbeats 16000000 in
theorem walk_FnPutSlot (v0 : Value) (w : World) (w0 : BytesIn w v0) :
    Calls Try.prog 14 #[v0] w fun e w' => e = .returned (.bool true) ∧ Below w.heap.size w w' := by
  have hd := drawPutSlot v0 w w0
  obtain ⟨Ac, nc, capc, bs, rfl, hnc, hcc, _⟩ := w0
  by_cases h20 : (1048576 : Int) < (nc : Int)
  · go_enter Try.func14, Try.ntmps14
    go_wp2_with fail
    go_ret
    exact ⟨rfl, Below.refl _ _⟩
  · go_enter Try.func14, Try.ntmps14
    go_wp2_with fail
    refine hd.mono ?_
    rintro e w1 ⟨A, n, c, ts, i, s, x, y, u, v, rfl, hT, n1, n2, hnc, hcm, hS, hb1⟩
    have hn : n ≤ 2000000 := by omega
    have HS := Lib.hid hS
    have hlen := hT.1
    have hIP := fun W (h : TabRd W A n ts) => impl_PutSlot A n c ts i s x y u v W h hn hS
    have hSP := fun W (h : TabRd W A n ts) => spec_PutSlot A n c ts i s x y u v W h hn hS
    have hLle := putL_le (ts := ts) (i := i) (s := s) (x := ⟨x, y, u, v⟩)
    have hLs := putL_small hS (i := i) (s := s) (x := ⟨x, y, u, v⟩)
    obtain ⟨L, hL⟩ : ∃ L, putL ts i s ⟨x, y, u, v⟩ = L := ⟨_, rfl⟩
    simp only [hL] at hIP hSP hLle hLs
    have HL := Lib.hid hL
    have hSM := fun A c A' c' W (h : TabRd W A L.length L) (h' : TabRd W A' L.length L) => laws_sameTables A A' L.length c c' L W h h' (by omega) hLs
    have HLS := Lib.hid hLs
    clear hL hd hS hLs
    have hX := CAt.new w1 41 [.int .i64 x, .int .i64 y, .int .i64 u, .int .i64 v]
    have hba := below_al (Below.refl _ w1) (.cells #[.int .i64 x, .int .i64 y, .int .i64 u, .int .i64 v] 41)
    have hT1 := hT.below hba
    have hB1 := below_next hb1 hba
    obtain ⟨x0, x1, x2, x3⟩ := hX.cells4
    have fX := hX.free
    clear hT hb1 hba
    go_wp2_with fail
    generalize w1.alloc (.cells #[.int .i64 x, .int .i64 y, .int .i64 u, .int .i64 v] 41) = W1 at *
    generalize w1.heap.size = C at *
    refine (hIP _ hT1).mono ?_
    rintro e w2 ⟨⟨A2, c2, rs2, rfl, hO2, hr2⟩, hb2⟩
    have hR2 := hO2.rd
    rw [hr2] at hR2
    have hX2 := hX.below hb2
    have hT2 := hT1.below hb2
    have hB2 := below_next hB1 hb2
    clear hX hT1 hB1 hb2 hO2 hr2 x0 x1 x2 x3 fX hIP
    obtain ⟨x0, x1, x2, x3⟩ := hX2.cells4
    have fX := hX2.free
    go_wp2_with fail
    refine (hSP _ hT2).mono ?_
    rintro e w3 ⟨⟨A3, c3, rs3, rfl, hO3, hr3⟩, hb3⟩
    have hR3' := hO3.rd
    rw [hr3] at hR3'
    have hR3 := hR2.below hb3
    have hX3 := hX2.below hb3
    have hT3 := hT2.below hb3
    have hB3 := below_next hB2 hb3
    clear hX2 hT2 hB2 hb3 hO3 hr3 hR2 x0 x1 x2 x3 fX hSP
    go_wp2_with fail
    refine (hSM _ _ _ _ _ hR3 hR3').mono ?_
    rintro e w4 ⟨rfl, hb4⟩
    have hR4 := hR3.below hb4
    have hX4 := hX3.below hb4
    have hT4 := hT3.below hb4
    have hB4 := below_next hB3 hb4
    clear hX3 hT3 hB3 hb4 hR3 hR3' hSM
    cases hq : (slotB ts i s && cpOk ⟨x, y, u, v⟩)
    · have hL0 : L = [] := by rw [← HL.out]; unfold putL; rw [hq]; rfl
      subst hL0
      go_wp2_with fail
      refine (laws_alive _).mono ?_
      rintro e wz ⟨rfl, hbz⟩
      go_wp2_with fail
      go_ret
      exact ⟨rfl, below_next hB4 hbz⟩
    · simp only [Bool.and_eq_true] at hq
      obtain ⟨hsl, hcok⟩ := hq
      obtain ⟨hv, ⟨i0, i1⟩, s0, s1⟩ := slotB_iff.1 hsl
      obtain ⟨j, rfl⟩ := Int.eq_ofNat_of_zero_le i0
      obtain ⟨k, rfl⟩ := Int.eq_ofNat_of_zero_le s0
      have hat : tabAt ts (j : Int) = ts.getD j T0 := tabAt_nat _ _
      rw [hat] at s1
      have hj : j < ts.length := by omega
      have hk : k < (ts.getD j T0).slots.length := by omega
      have hLL : L = putT ts j k ⟨x, y, u, v⟩ := by
        rw [← HL.out]
        unfold putL
        rw [hsl, hcok]
        simp
      have hLn : L.length = n := by rw [hLL, putT_len, hlen]
      have hvL : tabsOk L = true := by rw [hLL]; exact tabsOk_put hv hj hk hcok
      have hatL : tabAt L (j : Int) = L.getD j T0 := tabAt_nat _ _
      have hkL : (L.getD j T0).slots.length = (ts.getD j T0).slots.length := by rw [hLL]; exact put_slots_len hj j
      have hslL : slotB L j k = true := slotB_iff.2 ⟨hvL, ⟨i0, by omega⟩, s0, by rw [hatL, hkL]; exact s1⟩
      have hrdL : readC L j k = ⟨x, y, u, v⟩ := by
        unfold readC
        rw [if_pos hslL, hatL, capAt_nat, hLL]
        exact put_read hj hk
      obtain ⟨ck, co, cr, cb, hcc⟩ : ∃ k' o' r' b', (ts.getD j T0).slots.getD k C0 = ⟨k', o', r', b'⟩ := ⟨_, _, _, _, rfl⟩
      have hok : cpOk ⟨ck, co, cr, cb⟩ = true := by
        rw [← hcc]
        exact (tabOk_iff.1 ((tabsOk_iff.1 hv).1 j hj)).2 k hk
      have hback : putL L j k ⟨ck, co, cr, cb⟩ = ts := by
        unfold putL
        rw [hslL, hok]
        simp only [Bool.and_self, if_true, Int.toNat_natCast]
        rw [hLL, ← hcc]
        exact put_back hj hk
      have hTV := fun W (h : TabRd W A2 L.length L) => impl_TablesValid A2 L.length c2 L W h (by omega) HLS.out
      rw [hvL] at hTV
      have hRV := fun W (h : TabRd W A2 L.length L) => impl_ReadSlot A2 L.length c2 L j k W h (by omega) HLS.out
      simp only [hrdL] at hRV
      have hPV := fun W (h : TabRd W A2 L.length L) => impl_PutSlot A2 L.length c2 L j k ck co cr cb W h (by omega) HLS.out
      rw [hback] at hPV
      have hSM := fun A' c' W (h : TabRd W A' n ts) (h' : TabRd W A n ts) => laws_sameTables A' A n c' c ts W h h' hn HS.out
      obtain ⟨g, o, rfl, hgl, hcells⟩ := hT4.2 (by omega)
      obtain ⟨S, cS, y0, y1, y2, y3, -, -, hcap⟩ := hcells j (by omega)
      generalize hM : (ts.getD j T0).slots.length = M at *
      obtain ⟨gs, os, rfl, hgs, hcl⟩ := hcap.2 (by omega)
      obtain ⟨q0, q1, q2, q3⟩ := hcl k (by omega)
      rw [hcc] at q0 q1 q2 q3
      simp only at q0 q1 q2 q3
      rw [hLn] at hTV hRV hPV hR4 ⊢
      rw [hlen] at hPV
      obtain ⟨x0, x1, x2, x3⟩ := hX4.cells4
      have hCl := hX4.lt
      obtain ⟨W4, hW4⟩ : ∃ W, W = w4 := ⟨_, rfl⟩
      subst hW4
      have HSS : ∀ w', Below W4.heap.size W4 w' → Below W4.heap.size W4 w' ∧ w'.cell? ⟨C, 0, none⟩ = some (.int .i64 x) ∧ w'.cell? ⟨C, 1, none⟩ = some (.int .i64 y) ∧ w'.cell? ⟨C, 2, none⟩ = some (.int .i64 u) ∧ w'.cell? ⟨C, 3, none⟩ = some (.int .i64 v) ∧ w'.cell? ⟨g, o + j * 4 + 3, none⟩ = some (.slice (some ⟨gs, os, none⟩) M cS) ∧ w'.cell? ⟨gs, os + k * 4, none⟩ = some (.int .i64 ck) ∧ w'.cell? ⟨gs, os + k * 4 + 1, none⟩ = some (.int .i64 co) ∧ w'.cell? ⟨gs, os + k * 4 + 2, none⟩ = some (.int .i64 cr) ∧ w'.cell? ⟨gs, os + k * 4 + 3, none⟩ = some (.int .i64 cb) := fun w' hb =>
        ⟨hb, (hb.cell (p := ⟨C, 0, none⟩) hCl).trans x0, (hb.cell (p := ⟨C, 1, none⟩) hCl).trans x1, (hb.cell (p := ⟨C, 2, none⟩) hCl).trans x2, (hb.cell (p := ⟨C, 3, none⟩) hCl).trans x3, (hb.cell (p := ⟨g, o + j * 4 + 3, none⟩) hgl).trans y3, (hb.cell (p := ⟨gs, os + k * 4, none⟩) hgs).trans q0, (hb.cell (p := ⟨gs, os + k * 4 + 1, none⟩) hgs).trans q1, (hb.cell (p := ⟨gs, os + k * 4 + 2, none⟩) hgs).trans q2, (hb.cell (p := ⟨gs, os + k * 4 + 3, none⟩) hgs).trans q3⟩
      have HTV : ∀ w', Below W4.heap.size W4 w' → _ := fun w' hb => hTV w' (hR4.below hb)
      have HRV : ∀ w', Below W4.heap.size W4 w' → _ := fun w' hb => hRV w' (hR4.below hb)
      have HPV : ∀ w', Below W4.heap.size W4 w' → _ := fun w' hb => hPV w' (hR4.below hb)
      have HSM : ∀ A' c' w', TabRd w' A' n ts → Below W4.heap.size W4 w' → _ := fun A' c' w' h hb => hSM A' c' w' h (hT4.below hb)
      have hj' : (j : Int) < (n : Int) := by omega
      have hk' : (k : Int) < (M : Int) := by omega
      have hn0 : ((n : Int) == 0) = false := by rw [beq_eq_false_iff_ne]; omega
      have HB4 := Lib.hid hB4
      clear hsl hcok hv hat hLL hvL hatL hkL hslL hrdL hcc hok hback hTV hRV hPV hSM hcells hcap hcl hM hX4 hT4 hB4 hR4 y0 y1 y2 y3 q0 q1 q2 q3 x0 x1 x2 x3 hgl hgs hCl hj hk hLle hlen i1 s1
      go_wp2_with fail
      (first
        | (go_region_held3 (fun w' => Below W4.heap.size W4 w' ∧ w'.cell? ⟨C, 0, none⟩ = some (.int .i64 x) ∧ w'.cell? ⟨C, 1, none⟩ = some (.int .i64 y) ∧ w'.cell? ⟨C, 2, none⟩ = some (.int .i64 u) ∧ w'.cell? ⟨C, 3, none⟩ = some (.int .i64 v) ∧ w'.cell? ⟨g, o + j * 4 + 3, none⟩ = some (.slice (some ⟨gs, os, none⟩) M cS) ∧ w'.cell? ⟨gs, os + k * 4, none⟩ = some (.int .i64 ck) ∧ w'.cell? ⟨gs, os + k * 4 + 1, none⟩ = some (.int .i64 co) ∧ w'.cell? ⟨gs, os + k * 4 + 2, none⟩ = some (.int .i64 cr) ∧ w'.cell? ⟨gs, os + k * 4 + 3, none⟩ = some (.int .i64 cb))
            (first | exact HSS _ (Below.refl _ W4).drew | exact HSS _ (heldStep (by assumption) (by assumption)))
            (first
              | (go_at_call 23; refine (HTV _ (And.left (by assumption))).mono ?_; rintro e w5 ⟨rfl, hb5⟩)
              | (go_at_call 26; refine (HRV _ (And.left (by assumption))).mono ?_; rintro e w6 ⟨rfl, hb6⟩)
              | (go_at_call 32; refine (HPV _ (And.left (by assumption))).mono ?_; rintro e w7 ⟨⟨A9, c9, rs9, rfl, hO9, hr9⟩, hb7⟩)
              | (go_at_call 42; refine (HSM _ _ _ (hr9 ▸ hO9.rd) (And.left (by assumption))).mono ?_; rintro e w8 ⟨rfl, hb8⟩)))
        | fail)
      have hB8 : Below W4.heap.size W4 w8 := And.left (by assumption)
      go_wp2_with fail
      go_ret
      exact ⟨rfl, below_next HB4.out hB8⟩

set_option maxRecDepth 100000 in
theorem lifted_FnPutSlot (os : Os) (started : os.Started) (H : Type) (enc : TypeId × Value → H) :
    ReturnsInHanded {} Try.checked os 14 .any (Rows.fnPutSlotSpec.pre6 enc Try.prog Try.f14 Rows.fnPutSlotRow.domain false) (Rows.fnPutSlotSpec.post enc Try.prog Try.f14 false true false false) := by
  refine returnsInHanded_of_change (C := Try.checked) row_own started (by kernel_rfl) Try.func14
    (ChangeSpec.witness6 (enc := enc) (C := Try.checked) false ⟨#[], #[.slice none 0 0], []⟩ 8 (by kernel_rfl) (by kernel_rfl) (by kernel_rfl) (by kernel_rfl)) ?_
  intro W base args ds gs before hval0 hW hcnd _
  have hval : ∀ (j : Nat) t v, Try.f14.params[j]? = some t → args[j]? = some v → Value.okWide Try.prog W .any base t v := hval0
  have hW' := hW
  obtain ⟨p, q, hA0, hV, rfl, hfz, hnd⟩ := hW
  have hA : DataW.TrodAll enc Try.prog W 0 (fun _ => true) true Try.f14.params.toList args.toList ds p := hA0
  rw [Try.params14] at hA hval
  obtain ⟨v0, vs0, d0, ds0, p0, q0, hargs, rfl, rfl, h0, r0⟩ := trodAll_cons hA
  obtain ⟨rfl, rfl, rfl⟩ := trodAll_nil r0
  obtain rfl : args = #[v0] := by cases args; simp_all
  obtain ⟨rfl, rfl⟩ := trodVars_none hV
  have k0 := h0
  have lt0 : ∀ x ∈ p0, x.block < W.heap.size := by obtain ⟨m, hm⟩ := k0; exact DataW.trod_lt m _ _ _ hm
  have w0 := open_bytes (hval 0 53 v0 rfl rfl) h0
  clear hA0 hval0
  refine (walk_FnPutSlot v0 W w0).mono fun e W' ⟨he, bel⟩ => ?_
  subst he
  exact ⟨_, rfl, _, _, _, [], _, [], hW', trodAll_mk1 (shut_bool Try.underlying4 _), (trodAll_cons_mk (Below.trod row_laidOut (by kernel_rfl) (of_decide_eq_true (by kernel_rfl)) k0 bel lt0) trodAll_mk0), rfl, bel.frame _, fun h => by cases h⟩

theorem over_FnPutSlot : Rows.fnPutSlotRow.holds Try.pinned (OpenSpec.ofChange Rows.fnPutSlotSpec) :=
  OpenClaim.holds_of_wide 14 Try.f14 rfl rfl rfl rfl rfl rfl rfl ⟨rfl, rfl, rfl, rfl, rfl⟩ rfl rfl rfl rfl rfl (by kernel_rfl) Try.func14 (by kernel_rfl)
    (of_decide_eq_true (by kernel_rfl)) (by unfold Func.isWrapper; first | (rw [if_pos (by decide +kernel)]; kernel_rfl) | (rw [if_neg (by decide +kernel)]; exact ⟨rfl, rfl⟩))
    (fun os started H enc _ => lifted_FnPutSlot os started H enc)

theorem FnPutSlot_holds : Rows.FnPutSlotSaid := over_FnPutSlot

end Go.Proofs.Ytdafogfpbpjmdaa
