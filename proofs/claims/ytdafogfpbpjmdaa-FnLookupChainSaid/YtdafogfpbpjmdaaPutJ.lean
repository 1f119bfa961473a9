/- PutSlot of the program. No condition beyond those written. -/
import Derived.Test.YtdafogfpbpjmdaaPutI
namespace Go.Proofs.Ytdafogfpbpjmdaa
open Go.RowKit
set_option linter.unusedVariables false

theorem putL_no {ts : List Tab} {i s : Int} {x : Cp} (h : (slotB ts i s && cpOk x) = false) : putL ts i s x = [] := by unfold putL; rw [h]; rfl
theorem slots_pos {ts : List Tab} {n : Nat} (hl : ts.length = n) (h : tabsOk ts = true) {i : Nat} (hi : i < n) : 0 < (ts.getD i T0).slots.length := by
  have h1 := (headOk_iff.1 (tabOk_iff.1 ((tabsOk_iff.1 h).1 i (by omega))).1).2.2.2
  have h2 := pw_pos (ts.getD i T0).bits
  omega

set_option maxRecDepth 8000 in
set_option maxHeartbeats 16000000 in
theorem impl_PutSlot (A : Option Addr) (n c : Nat) (ts : List Tab) (i s : Int) (x y u v : Int) (w : World) (h : TabRd w A n ts) (hn : n ≤ 2000000) (hs : SmallT ts) :
    Calls Try.prog 32 #[.slice A n c, .int .i64 i, .int .i64 s, .agg #[.int .i64 x, .int .i64 y, .int .i64 u, .int .i64 v]] w fun e w' =>
      (∃ (A' : Option Addr) (c' : Nat) (rs : List TR), e = .returned (.slice A' (putL ts i s ⟨x, y, u, v⟩).length c') ∧ TabO w' w.heap.size A' (putL ts i s ⟨x, y, u, v⟩).length c' rs ∧ tabsOf rs = putL ts i s ⟨x, y, u, v⟩) ∧ Below w.heap.size w w' := by
  have hX0 := CAt.new w 41 [.int .i64 x, .int .i64 y, .int .i64 u, .int .i64 v]
  have hB0 := below_al (Below.refl _ w) (.cells #[.int .i64 x, .int .i64 y, .int .i64 u, .int .i64 v] 41)
  have hv := impl_slotted A n c ts i s _ (h.below hB0) hn hs
  have hcv := fun W => impl_CapValid x y u v W
  cases hz : slotB ts i s
  · rw [hz] at hv
    have HP : Hid (putL ts i s ⟨x, y, u, v⟩ = []) := putL_no (by rw [hz]; rfl)
    clear h hs
    go_enter Try.func32, Try.ntmps32
    go_wp2_with fail
    refine hv.mono ?_
    rintro e w1 ⟨rfl, hb1⟩
    have HB1 := Lib.hid (below_next hB0 hb1)
    clear hv hb1 hB0 hX0
    go_wp2_with fail
    go_ret
    exact ⟨⟨_, _, [], by rw [HP.out]; rfl, by rw [HP.out]; exact TabO.nil _ _ _ _ (by decide), by rw [HP.out]; rfl⟩, HB1.out⟩
  cases hc : capOk x y u v
  · rw [hz] at hv
    rw [hc] at hcv
    have HP : Hid (putL ts i s ⟨x, y, u, v⟩ = []) := putL_no (by rw [hz]; exact hc)
    clear h hs
    go_enter Try.func32, Try.ntmps32
    go_wp2_with fail
    refine hv.mono ?_
    rintro e w1 ⟨rfl, hb1⟩
    have hX1 := hX0.below hb1
    have HB1 := Lib.hid (below_next hB0 hb1)
    obtain ⟨x0, x1, x2, x3⟩ := hX1.cells4
    clear hv hb1 hB0 hX0 hX1
    go_wp2_with fail
    refine (hcv _).mono ?_
    rintro e w2 ⟨rfl, rfl⟩
    go_wp2_with fail
    go_ret
    exact ⟨⟨_, _, [], by rw [HP.out]; rfl, by rw [HP.out]; exact TabO.nil _ _ _ _ (by decide), by rw [HP.out]; rfl⟩, below_al HB1.out _⟩
  rw [hz] at hv
  rw [hc] at hcv
  obtain ⟨hok, ⟨i0, i1⟩, ⟨s0, s1⟩⟩ := slotB_iff.1 hz
  obtain ⟨t, rfl⟩ := Int.eq_ofNat_of_zero_le i0
  obtain ⟨k, rfl⟩ := Int.eq_ofNat_of_zero_le s0
  rw [tabAt_nat] at s1
  have hl := h.1
  have htn : t < n := by omega
  have htn' : (t : Int) < (n : Int) := by omega
  have ht0 : (0 : Int) ≤ (t : Int) := by omega
  have hk0 : (0 : Int) ≤ (k : Int) := by omega
  have hkl : k < (ts.getD t T0).slots.length := by omega
  have HP : Hid (putL ts t k ⟨x, y, u, v⟩ = putT ts t k ⟨x, y, u, v⟩) := by
    show _ = _
    unfold putL
    rw [hz, show cpOk ⟨x, y, u, v⟩ = true from hc]
    simp
  have HPOS : Hid (∀ i, i < n → 0 < (ts.getD i T0).slots.length) := fun i hi => slots_pos hl hok hi
  have HSM := Lib.hid hs
  have HL := Lib.hid hl
  have H := Lib.hid h
  have HKL := Lib.hid hkl
  obtain ⟨g, o, rfl, -, -⟩ := h.2 (by omega)
  rw [HP.out]
  clear h hs hl hok i0 i1 s0 s1 hz hc hkl
  go_enter Try.func32, Try.ntmps32
  go_wp2_with fail
  refine hv.mono ?_
  rintro e w1 ⟨rfl, hb1⟩
  have hX1 := hX0.below hb1
  have hB1 := below_next hB0 hb1
  obtain ⟨x0, x1, x2, x3⟩ := hX1.cells4
  clear hv hb1 hB0 hX0
  go_wp2_with fail
  refine (hcv _).mono ?_
  rintro e w2 ⟨rfl, rfl⟩
  have hB2 := below_al hB1 (.cells #[.int .i64 x, .int .i64 y, .int .i64 u, .int .i64 v] 41)
  have hX2 := hX1.alloc (.cells #[.int .i64 x, .int .i64 y, .int .i64 u, .int .i64 v] 41)
  generalize w1.alloc (.cells #[.int .i64 x, .int .i64 y, .int .i64 u, .int .i64 v] 41) = W at *
  clear x0 x1 x2 x3 hX1 hB1 hcv
  obtain ⟨rs, hts, hfl, hcell, hrl, hrs⟩ := (H.out.below hB2).rows (by omega)
  have hcl := clone_tables ⟨g, o, none⟩ n c (flatT rs) W hfl hcell (flatT_one rs) hn
  have HRS := Lib.hid hrs
  have HTS := Lib.hid hts
  have HRL := Lib.hid hrl
  clear hrs hts hcell hfl
  go_wp2_with fail
  refine hcl.mono ?_
  rintro e w3 ⟨⟨A3, rfl, hO3⟩, hb3⟩
  obtain ⟨g3, rfl, hg3, hg3l, -⟩ := hO3.at_ (by omega)
  have hOT : OutT W w3 g3 n rs rs 0 := ⟨hO3, fun _ _ => rfl, fun i hi => absurd hi (by omega), fun _ _ _ => rfl, fun i k hi => absurd hi (by omega), hb3⟩
  have HOT := Lib.hid hOT
  have HX2 := Lib.hid hX2
  have HB2 := Lib.hid hB2
  clear hcl hO3 hb3 hOT hX2 hB2
  have HTN := Lib.hid htn
  go_wp2_with fail
  go_loopw [25] (fun i wr => ∃ (j : Nat) (vs : List TR), j ≤ n ∧ i = .int .i64 j ∧ OutT W wr g3 n rs vs j) (fun i _ => n - (intOf i).toNat)
  case atStart => exact ⟨0, rs, Nat.zero_le _, rfl, HOT.out⟩
  case round =>
    clear HOT
    obtain ⟨j, vs, hj, rfl, hT⟩ := hrel
    by_cases hlt : j < n
    · obtain ⟨hc3, hf3, hgl3⟩ := hT.cell hlt
      have hsl : (rs.getD j TR0).t = ts.getD j T0 := by rw [← tabsOf_get, HTS.out]
      have hpos := HPOS.out j hlt
      have hsm := HSM.out j
      obtain ⟨-, -, hcap⟩ := HRS.out j hlt
      rw [← hsl] at hpos hsm
      obtain ⟨gs, os, hS, -, -⟩ := hcap.2 hpos
      rw [hS] at hcap hc3
      have hcap2 := hcap.below hT.belo
      have hcl := clone_caps ⟨gs, os, none⟩ _ (rs.getD j TR0).c (flatC (rs.getD j TR0).t.slots) wr hcap2.flat.1 hcap2.flat.2 (flatC_one _) hsm
      have hlt' : (j : Int) < (n : Int) := by omega
      have hj0 : (0 : Int) ≤ (j : Int) := by omega
      have HT := Lib.hid hT
      clear hT hcap hcap2 hpos hsm hsl
      generalize hq : (rs.getD j TR0).t.slots.length = q at *
      have HQ := Lib.hid hq
      generalize (rs.getD j TR0).c = cj at *
      clear hq
      go_wp2_with fail
      refine hcl.mono ?_
      rintro e w4 ⟨⟨A4, rfl, hO4⟩, hb4⟩
      have hT4 := HT.out.below hb4
      obtain ⟨hc4, hf4, hgl4⟩ := hT4.cell hlt
      have hput := hT4.put hlt HT.out.belo.size (by rw [HQ.out]; exact hO4) (fun i hi y hy => (RowO.row (HT.out.done i hi) y hy).2)
      rw [HQ.out] at hput
      have HPUT := Lib.hid hput
      clear hput hT4 hO4 hb4 HT hcl hc3 hf3
      go_wp2_with fail
      go_roundw
      case rel => exact ⟨j + 1, _, by omega, by go_num, HPUT.out⟩
      case measure => simp [intOf]; omega
    · have hge : ¬ (j : Int) < (n : Int) := by omega
      have hjn : j = n := by omega
      subst hjn
      have hTO := hT.whole
      have htab := hT.tabs HRL.out
      rw [HTS.out] at htab
      have hX := HX2.out.below hT.belo
      obtain ⟨x0, x1, x2, x3⟩ := hX.cells4
      have hvt : (vs.getD t TR0).t = ts.getD t T0 := by rw [← tabsOf_get, htab]
      obtain ⟨gg, hgg, -, hggl, hcc, hff⟩ := hTO.at_ (by have := HTN.out; omega)
      injection hgg with hgg
      injection hgg with hgg
      subst hgg
      obtain ⟨t0, t1, t2, t3, -, -, -⟩ := hcc t HTN.out
      have hkl : k < (vs.getD t TR0).t.slots.length := by rw [hvt]; exact HKL.out
      obtain ⟨gs, hS, -, hgsl, hsc, hsf⟩ := (hTO.slots t HTN.out).at_ (by omega)
      obtain ⟨y0, y1, y2, y3⟩ := hsc k hkl
      have hTOd : TabO wr.drew W.heap.size (some ⟨g3, 0, none⟩) j j vs := ⟨hTO.row, hTO.slots, hTO.apart⟩
      have hput := hTOd.put HTN.out hkl hS ⟨x, y, u, v⟩
      rw [htab] at hput
      rw [hS] at t3
      have hkq' : (k : Int) < ((vs.getD t TR0).t.slots.length : Int) := by omega
      have hgsW : W.heap.size ≤ gs := (RowO.row (hTO.slots t HTN.out) gs (by rw [hS]; exact rowOf_pos (by omega))).1
      have HPUT := Lib.hid hput
      have HBW := Lib.hid (HB2.out.trans (hT.belo.mono HB2.out.size))
      have HWS := Lib.hid HB2.out.size
      clear hput hTOd hTO htab hX hvt hcc hsc hT HKL hkl hS
      generalize (vs.getD t TR0).t.slots.length = q at *
      generalize ((vs.getD t TR0).t.slots.getD k C0).k = z0 at *
      generalize ((vs.getD t TR0).t.slots.getD k C0).o = z1 at *
      generalize ((vs.getD t TR0).t.slots.getD k C0).r = z2 at *
      generalize ((vs.getD t TR0).t.slots.getD k C0).b = z3 at *
      generalize (vs.getD t TR0).c = ct at *
      go_wp2_with fail
      go_region
      go_wp2_with fail
      go_ret
      have hlen : (putT ts t k ⟨x, y, u, v⟩).length = j := by rw [putT_len]; exact HL.out
      refine ⟨⟨some ⟨g3, 0, none⟩, j, _, by rw [hlen]; rfl, by rw [hlen]; exact HPUT.out.1.more HWS.out, HPUT.out.2⟩, ?_⟩
      have hB := HBW.out
      have hw := HWS.out
      refine Below.drew ?_
      iterate 4 refine Below.setCell ?_ (by exact Nat.le_trans hw hgsW) _
      exact hB

end Go.Proofs.Ytdafogfpbpjmdaa
