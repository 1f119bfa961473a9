/- What markTableS writes and heldTableS reads. No condition beyond those written. -/
import Derived.Test.YtdafogfpbpjmdaaCapM
namespace Go.Proofs.Ytdafogfpbpjmdaa
open Go.RowKit
set_option linter.unusedVariables false

/-- How many numbers the first j tables hold. -/
def numT (rs : List TR) : Nat → Int
  | 0 => 0
  | j + 1 => numT rs j + 3 + 4 * ((rs.getD j TR0).t.slots.length : Int)
def SmallR (rs : List TR) : Prop := ∀ i, (rs.getD i TR0).t.slots.length ≤ 2000000
theorem numT_bounds {rs : List TR} (h : SmallR rs) (j : Nat) : 0 ≤ numT rs j ∧ numT rs j ≤ 8000003 * (j : Int) := by
  induction j with
  | zero => simp [numT]
  | succ j ih =>
    have := h j
    simp only [numT]
    omega
/-- The table that is marked from number K on. -/
def markT (K : Int) (r : TR) : TR := ⟨⟨K, K + 1, K + 1 + 1, marksC (K + 1 + 1 + 1) r.t.slots.length⟩, r.S, r.c⟩
def marksT (k : Int) (rs : List TR) : List TR := (List.range rs.length).map fun t : Nat => markT (k + numT rs t) (rs.getD t TR0)
theorem marksT_len (k : Int) (rs : List TR) : (marksT k rs).length = rs.length := by simp [marksT]
theorem marksT_at (k : Int) (rs : List TR) (j : Nat) (h : j < rs.length) : (marksT k rs).getD j TR0 = markT (k + numT rs j) (rs.getD j TR0) := by simp [marksT, List.getD, h]

/-- Changes of blocks from lo to hi alone. -/
structure InB (lo hi : Nat) (w w' : World) : Prop where
  os : w'.os = w.os
  tape : w'.tape = w.tape
  output : w'.output = w.output
  size : w'.heap.size = w.heap.size
  block : ∀ k, k < lo ∨ hi ≤ k → w'.heap[k]? = w.heap[k]?
section
variable {lo hi base n c : Nat} {w w' w'' w0 : World} {A : Option Addr} {rs : List TR}
theorem InB.refl (lo hi : Nat) (w : World) : InB lo hi w w := ⟨rfl, rfl, rfl, rfl, fun _ _ => rfl⟩
theorem InB.trans (h : InB lo hi w w') (h' : InB lo hi w' w'') : InB lo hi w w'' := ⟨h'.os.trans h.os, h'.tape.trans h.tape, h'.output.trans h.output, h'.size.trans h.size, fun k hk => (h'.block k hk).trans (h.block k hk)⟩
theorem InB.set (w : World) {g i : Nat} (v : Value) (h1 : lo ≤ g) (h2 : g < hi) : InB lo hi w (w.setCell ⟨g, i, none⟩ v) :=
  ⟨rfl, rfl, rfl, by simp, fun k hk => Below.heap_setCell w ⟨g, i, none⟩ v k (by simp; omega)⟩
theorem InB.of_grown {r : Option Nat} (hg : w.grownBy w' r) (hs : w'.heap.size = w.heap.size) (hr : ∀ y, r = some y → lo ≤ y ∧ y < hi) : InB lo hi w w' :=
  ⟨hg.os, hg.tape, hg.output, hs, fun k hk => by
    by_cases hlt : k < w.heap.size
    · exact hg.block k hlt (fun e => by have := hr k e.symm; omega)
    · rw [Array.getElem?_eq_none (by omega), Array.getElem?_eq_none (by omega)]⟩
theorem InB.below {B : Nat} (h : InB lo hi w w') (hb : Below B w0 w) (hB : B ≤ lo) : Below B w0 w' :=
  ⟨h.os.trans hb.os, h.tape.trans hb.tape, h.output.trans hb.output, by rw [h.size]; exact hb.size, fun k hk => (h.block k (Or.inl (by omega))).trans (hb.block k hk)⟩
/-- A list of tables from hi on stands. -/
theorem InB.tabs (h : InB lo hi w w') (ho : TabO w base A n c rs) (hb : hi ≤ base) : TabO w' base A n c rs :=
  ⟨RowO.keepAt ho.row fun g _ _ hg _ => h.block g (Or.inr (by omega)), fun i hi' => RowO.keepAt (ho.slots i hi') fun g _ _ hg _ => h.block g (Or.inr (by omega)), ho.apart⟩
/-- The blocks of a list lie below hi. -/
def RowsLt (hi : Nat) (A : Option Addr) (n : Nat) (rs : List TR) : Prop := (∀ y, rowOf A n = some y → y < hi) ∧ ∀ i, i < n → ∀ y, (rs.getD i TR0).row = some y → y < hi
theorem TabO.rowsLt (h : TabO w base A n c rs) : RowsLt w.heap.size A n rs := ⟨fun y hy => (RowO.row h.row y hy).2, fun i hi y hy => (RowO.row (h.slots i hi) y hy).2⟩
end

set_option maxHeartbeats 8000000 in
theorem laws_markTableS (A : Option Addr) (n c base hi : Nat) (rs : List TR) (k0 : Int) (w : World) (h : TabO w base A n c rs) (hl : RowsLt hi A n rs) (hs : SmallR rs) (hn : n ≤ 2000000) (hk : 0 ≤ k0) (hk2 : k0 ≤ 1000000000) :
    Calls Try.prog 33 #[.slice A n c, .int .i64 k0] w fun e w' => e = .returned (.int .i64 (k0 + numT rs n)) ∧ TabO w' base A n c (marksT k0 rs) ∧ InB base hi w w' := by
  have H0 := Lib.hid h
  have HLT := Lib.hid hl
  have HSM := Lib.hid hs
  have HRL := Lib.hid h.len
  clear h hl hs
  go_enter Try.func33, Try.ntmps33
  go_wp2_with fail
  go_loopw [1, 5] (fun kv i wr => ∃ (j : Nat) (K : Int) (vs : List TR), j ≤ n ∧ i = .int .i64 j ∧ kv = .int .i64 K ∧ K = k0 + numT rs j ∧ TabO wr base A n c vs ∧ (∀ t, t < j → vs.getD t TR0 = markT (k0 + numT rs t) (rs.getD t TR0)) ∧ (∀ t, j ≤ t → vs.getD t TR0 = rs.getD t TR0) ∧ InB base hi w wr)
    (fun _ i _ => n - (intOf i).toNat)
  case atStart => exact ⟨0, k0, rs, Nat.zero_le _, rfl, rfl, by simp [numT], H0.out, fun t ht => by omega, fun _ _ => rfl, InB.refl _ _ _⟩
  case round =>
    obtain ⟨j, K, vs, hj, rfl, rfl, hK, ho, hpre, htodo, hin⟩ := hrel
    by_cases hlt : j < n
    · obtain ⟨g, rfl, hbg, hgl, hc1, hf1⟩ := ho.at_ (by omega)
      obtain ⟨a0, a1, a2, a3, -, -, -⟩ := hc1 j hlt
      have hb := numT_bounds HSM.out j
      have hvl := ho.len
      have hst := ho.heads hlt K (K + 1) (K + 1 + 1)
      have hvj := htodo j (Nat.le_refl _)
      have hgb : rowOf (some (⟨g, 0, none⟩ : Addr)) n = some g := rowOf_pos (by omega)
      have hgh := HLT.out.1 g hgb
      have hsl := hst.slots j hlt
      have hat : (vs.set j ⟨⟨K, K + 1, K + 1 + 1, (vs.getD j TR0).t.slots⟩, (vs.getD j TR0).S, (vs.getD j TR0).c⟩).getD j TR0 = ⟨⟨K, K + 1, K + 1 + 1, (vs.getD j TR0).t.slots⟩, (vs.getD j TR0).S, (vs.getD j TR0).c⟩ := by rw [getD_set_t (by omega), if_pos rfl]
      rw [hat] at hsl
      simp only at hsl
      have hsm := HSM.out j
      have hK0 : 0 ≤ K := by omega
      have hK1 : K ≤ 100000000000000 := by omega
      have hmk := laws_markCapS _ _ _ _ _ (K + 1 + 1 + 1) _ hsl (by rw [hvj]; exact hsm) (by omega) (by omega)
      have HS := Lib.hid hst
      have HP := Lib.hid hpre
      have HIN := Lib.hid (hin.trans ((InB.set wr (i := j * 4) (.int .i64 K) hbg hgh).trans ((InB.set _ (i := j * 4 + 1) (.int .i64 (K + 1)) hbg hgh).trans (InB.set _ (i := j * 4 + 2) (.int .i64 (K + 1 + 1)) hbg hgh))))
      have HTD := Lib.hid htodo
      have HVJ := Lib.hid hvj
      have HV := Lib.hid hvl
      have HAT := Lib.hid hat
      have HK := Lib.hid hK
      have HROW := Lib.hid (fun y hy => HLT.out.2 j hlt y hy)
      have HBR := Lib.hid (fun y hy => (RowO.row hsl y hy).1)
      have hlt' : (j : Int) < (n : Int) := by omega
      have hj0 : (0 : Int) ≤ (j : Int) := by omega
      clear hc1 hst hpre hin htodo hgb ho hK hsl hat hsm hb hvl hvj
      generalize hq : (vs.getD j TR0).t.slots.length = q at *
      have HQ := Lib.hid hq
      generalize hS : (vs.getD j TR0).S = S at *
      generalize hcc : (vs.getD j TR0).c = cc at *
      have HSS := Lib.hid hS
      have HCC := Lib.hid hcc
      clear hq hS hcc
      go_wp2_with fail
      refine hmk.mono ?_
      rintro e w4 ⟨rfl, hC4, hg4, hz4⟩
      have h4 := HS.out.slotsSet (w' := w4) hlt (cs := marksC (K + 1 + 1 + 1) q) (by rw [HAT.out, marksC_len]; exact HQ.out.symm)
        (by rw [HAT.out]; show World.grownBy _ w4 (rowOf S (vs.getD j TR0).t.slots.length); rw [HQ.out]; exact hg4)
        (by rw [HAT.out]; show CapO w4 base S (vs.getD j TR0).t.slots.length cc _; rw [HQ.out]; exact hC4)
      rw [HAT.out, List.set_set] at h4
      simp only at h4
      have hrowj : (rs.getD j TR0).row = rowOf S q := by rw [← HVJ.out]; show rowOf (vs.getD j TR0).S (vs.getD j TR0).t.slots.length = _; rw [HQ.out, HSS.out]
      have hin4 := HIN.out.trans (InB.of_grown hg4 hz4 (fun y hy => ⟨HBR.out y hy, HROW.out y (by rw [hrowj]; exact hy)⟩))
      have hqr : (rs.getD j TR0).t.slots.length = q := by rw [← HVJ.out]; exact HQ.out
      have hmt : (⟨⟨K, K + 1, K + 1 + 1, marksC (K + 1 + 1 + 1) q⟩, S, cc⟩ : TR) = markT K (rs.getD j TR0) := by
        unfold markT
        rw [hqr, ← HVJ.out, HSS.out, HCC.out]
      rw [hmt] at h4
      have H4 := Lib.hid h4
      have HIN4 := Lib.hid hin4
      have HNK : Hid (K + 1 + 1 + 1 + 4 * (q : Int) = k0 + numT rs (j + 1)) := by
        show _ = _
        simp only [numT]
        rw [hqr, HK.out]
        omega
      clear h4 hin4 hqr hmt hrowj hC4 hg4 hz4 hmk a0 a1 a2 a3
      generalize K + 1 + 1 + 1 + 4 * (q : Int) = K2 at *
      go_wp2_with fail
      go_roundw
      case rel =>
        refine ⟨j + 1, K2, vs.set j (markT K (rs.getD j TR0)), by omega, by go_num, rfl, HNK.out, H4.out, fun t ht => ?_, fun t ht => ?_, HIN4.out⟩
        · rw [getD_set_t (by have := HV.out; omega)]
          by_cases e : j = t
          · subst e
            rw [if_pos rfl, HK.out]
          · rw [if_neg e]
            exact HP.out t (by omega)
        · rw [getD_set_t (by have := HV.out; omega), if_neg (by omega)]
          exact HTD.out t (by omega)
      case measure => simp [intOf]; omega
    · have hge : ¬ (j : Int) < (n : Int) := by omega
      have hjn : j = n := by omega
      subst hjn
      have hv : vs = marksT k0 rs := list_ext (d := TR0) (by rw [ho.len, marksT_len]; exact HRL.out.symm) fun t ht => by
        rw [ho.len] at ht
        rw [hpre t ht, marksT_at _ _ _ (by have := HRL.out; omega)]
      subst hv
      subst hK
      have HS := Lib.hid ho
      have HIN := Lib.hid hin
      clear ho hpre hin htodo
      go_wp2_with fail
      go_ret
      exact ⟨rfl, HS.out, HIN.out⟩

set_option maxHeartbeats 8000000 in
theorem laws_heldTableS (A : Option Addr) (n c base : Nat) (rs : List TR) (k0 : Int) (w : World) (h : TabO w base A n c (marksT k0 rs)) (hs : SmallR rs) (hn : n ≤ 2000000) (hk : 0 ≤ k0) (hk2 : k0 ≤ 1000000000) :
    Calls Try.prog 34 #[.slice A n c, .int .i64 k0] w fun e w' => e = .returned (.int .i64 (k0 + numT rs n)) ∧ w = w' := by
  have H := Lib.hid h
  have HSM := Lib.hid hs
  have HRL : Hid (rs.length = n) := by show _ = _; rw [← marksT_len k0 rs]; exact h.len
  clear h hs
  go_enter Try.func34, Try.ntmps34
  go_wp2_with fail
  go_loop [1, 5] (fun kv i => ∃ (j : Nat) (K : Int), j ≤ n ∧ i = .int .i64 j ∧ kv = .int .i64 K ∧ K = k0 + numT rs j) (fun _ i => n - (intOf i).toNat)
  case atStart => exact ⟨0, k0, Nat.zero_le _, rfl, rfl, by simp [numT]⟩
  case round =>
    obtain ⟨j, K, hj, rfl, rfl, hK⟩ := hrel
    by_cases hlt : j < n
    · obtain ⟨g, rfl, _, _, hc1, _⟩ := H.out.at_ (by omega)
      obtain ⟨a0, a1, a2, a3, -, -, -⟩ := hc1 j hlt
      have hat := marksT_at k0 rs j (by have := HRL.out; omega)
      have hsl := H.out.slots j hlt
      have hb := numT_bounds HSM.out j
      have hsm := HSM.out j
      rw [hat, ← hK] at a0 a1 a2 a3 hsl
      simp only [markT, marksC_len] at a0 a1 a2 a3 hsl
      have hK0 : 0 ≤ K := by omega
      have hK1 : K ≤ 100000000000000 := by omega
      have hh := laws_heldCapS _ _ _ _ (K + 1 + 1 + 1) w hsl hsm (by omega) (by omega)
      have HNK : Hid (K + 1 + 1 + 1 + 4 * ((rs.getD j TR0).t.slots.length : Int) = k0 + numT rs (j + 1)) := by
        show _ = _
        simp only [numT]
        rw [hK]
        omega
      have hlt' : (j : Int) < (n : Int) := by omega
      have hj0 : (0 : Int) ≤ (j : Int) := by omega
      have hK3 : 0 ≤ K + 1 + 1 + 1 + 4 * ((rs.getD j TR0).t.slots.length : Int) := by omega
      have hK4 : ¬ K + 1 + 1 + 1 + 4 * ((rs.getD j TR0).t.slots.length : Int) < 0 := by omega
      clear hc1 hK hat hsl hb hsm
      generalize (rs.getD j TR0).t.slots.length = q at *
      generalize (rs.getD j TR0).S = S at *
      generalize (rs.getD j TR0).c = cc at *
      generalize K + 1 + 1 + 1 + 4 * (q : Int) = K2 at *
      go_wp2_with fail
      refine hh.mono ?_
      rintro e w4 ⟨rfl, rfl⟩
      clear a0 a1 a2 a3 hh
      go_wp2_with fail
      go_round
      case rel => exact ⟨j + 1, K2, by omega, by go_num, rfl, HNK.out⟩
      case measure => simp [intOf]; omega
    · have hge : ¬ (j : Int) < (n : Int) := by omega
      have hjn : j = n := by omega
      subst hjn
      subst hK
      go_wp2_with fail
      go_ret
      exact ⟨rfl, rfl⟩

end Go.Proofs.Ytdafogfpbpjmdaa
