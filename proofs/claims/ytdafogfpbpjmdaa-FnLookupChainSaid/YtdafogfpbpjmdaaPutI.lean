/- A capability put into a slot; PutSlot of the program. No condition beyond those written. -/
import Derived.Test.YtdafogfpbpjmdaaTabR
import Derived.Test.YtdafogfpbpjmdaaTabC
import Derived.RegionTactic
import Derived.BigRegion
namespace Go.Proofs.Ytdafogfpbpjmdaa
open Go.RowKit
set_option linter.unusedVariables false

theorem tr_getD_set {rs : List TR} {i j : Nat} {r : TR} (hj : j < rs.length) : (rs.set j r).getD i TR0 = if j = i then r else rs.getD i TR0 := getD_set_t hj
/-- The copy under way: the first j tables have slots of their own. -/
structure OutT (w0 w : World) (g n : Nat) (rs vs : List TR) (j : Nat) : Prop where
  row : RowO w w0.heap.size 29 4 (some ⟨g, 0, none⟩) n n (flatT vs)
  same : ∀ i, i < n → (vs.getD i TR0).t = (rs.getD i TR0).t
  done : ∀ i, i < j → CapO w w0.heap.size (vs.getD i TR0).S (vs.getD i TR0).t.slots.length (vs.getD i TR0).c (vs.getD i TR0).t.slots
  todo : ∀ i, j ≤ i → i < n → vs.getD i TR0 = rs.getD i TR0
  apart : ∀ i k, i < j → k < j → i ≠ k → ∀ y, (vs.getD i TR0).row = some y → (vs.getD k TR0).row ≠ some y
  belo : Below w0.heap.size w0 w
section
variable {w0 w w' : World} {g n j : Nat} {rs vs : List TR}
theorem OutT.len (h : OutT w0 w g n rs vs j) : vs.length = n := by have := h.row.1; rw [flatT_len] at this; omega
theorem OutT.below (h : OutT w0 w g n rs vs j) (hb : Below w.heap.size w w') : OutT w0 w' g n rs vs j :=
  ⟨h.row.below hb, h.same, fun i hi => RowO.below (h.done i hi) hb, h.todo, h.apart, h.belo.trans (hb.mono h.belo.size)⟩
theorem OutT.cell (h : OutT w0 w g n rs vs j) (hj : j < n) : w.cell? ⟨g, j * 4 + 3, none⟩ = some (.slice (rs.getD j TR0).S (rs.getD j TR0).t.slots.length (rs.getD j TR0).c) ∧ w.frozen? ⟨g, j * 4 + 3, none⟩ = false ∧ g < w.heap.size := by
  obtain ⟨x, hx, -, hlt, hc, hf⟩ := h.row.at_ (by omega)
  injection hx with hx
  injection hx with hx
  subst hx
  refine ⟨?_, hf _, hlt⟩
  rw [hc _ (by omega)]
  have := flatG_get (f := TR.cells) (sz := 4) (d := TR0) (fun _ => rfl) vs j 3 (by rw [h.len]; exact hj) (by omega)
  unfold flatT
  rw [this, h.todo j (Nat.le_refl _) hj]
  rfl
theorem OutT.put (h : OutT w0 w g n rs vs j) (hj : j < n) {b c : Nat} {A : Option Addr} (hb : w0.heap.size ≤ b) (hC : CapO w b A (rs.getD j TR0).t.slots.length c (rs.getD j TR0).t.slots)
    (hf : ∀ i, i < j → ∀ y, (vs.getD i TR0).row = some y → y < b) :
    OutT w0 (w.setCell ⟨g, j * 4 + 3, none⟩ (.slice A (rs.getD j TR0).t.slots.length c)) g n rs (vs.set j ⟨(rs.getD j TR0).t, A, c⟩) (j + 1) := by
  have hl := h.len
  have hT : 29 ≠ 41 := by decide
  have hg : rowOf (some (⟨g, 0, none⟩ : Addr)) n = some g := rowOf_pos (by omega)
  have hgb : w0.heap.size ≤ g := (h.row.row g hg).1
  have far : ∀ {B : Option Addr} {m q b' : Nat} {cs : List Cp}, CapO w b' B m q cs → CapO (w.setCell ⟨g, j * 4 + 3, none⟩ (.slice A (rs.getD j TR0).t.slots.length c)) b' B m q cs := by
    intro B m q b' cs hc
    refine RowO.grownRow (r := some g) hc (grown_set _ _ _ _) fun y hy e => ?_
    injection e with e
    subst e
    exact rows_apart hT h.row hc _ hg hy
  have hfl : (flatT vs).set (j * 4 + 3) (.slice A (rs.getD j TR0).t.slots.length c) = flatT (vs.set j ⟨(rs.getD j TR0).t, A, c⟩) := by
    refine flatG_set (f := TR.cells) (sz := 4) (d := TR0) (fun _ => rfl) vs j 3 ⟨(rs.getD j TR0).t, A, c⟩ _ (by omega) (by omega) ?_
    rw [h.todo j (Nat.le_refl _) hj]
    rfl
  have row := RowO.set h.row (j * 4 + 3) (by omega) (.slice A (rs.getD j TR0).t.slots.length c)
  rw [hfl] at row
  refine ⟨row, fun i hi => ?_, fun i hi => ?_, fun i hi hin => ?_, fun i k hi hk hik y hy => ?_, h.belo.setCell hgb _⟩
  · rw [tr_getD_set (by omega)]
    split
    · next e => subst e; rfl
    · exact h.same i hi
  · rw [tr_getD_set (by omega)]
    split
    · exact far (RowO.more hC hb)
    · exact far (h.done i (by omega))
  · rw [tr_getD_set (by omega), if_neg (by omega)]
    exact h.todo i (by omega) hin
  · have hCr : ∀ y, (TR.row ⟨(rs.getD j TR0).t, A, c⟩) = some y → b ≤ y := fun y hy => (RowO.row hC y hy).1
    rw [tr_getD_set (by omega)] at hy
    rw [tr_getD_set (by omega)]
    by_cases e : j = i
    · rw [if_pos e] at hy
      rw [if_neg (by omega)]
      intro hk'
      have := hf k (by omega) y hk'
      have := hCr y hy
      omega
    · rw [if_neg e] at hy
      by_cases e' : j = k
      · rw [if_pos e']
        intro hk'
        have := hf i (by omega) y hy
        have := hCr y hk'
        omega
      · rw [if_neg e']
        exact h.apart i k (by omega) (by omega) hik y hy
theorem OutT.whole (h : OutT w0 w g n rs vs n) : TabO w w0.heap.size (some ⟨g, 0, none⟩) n n vs := ⟨h.row, h.done, h.apart⟩
theorem OutT.tabs (h : OutT w0 w g n rs vs n) (hl : rs.length = n) : tabsOf vs = tabsOf rs := by
  refine list_ext (d := T0) (by rw [tabsOf_len, tabsOf_len, h.len, hl]) fun t ht => ?_
  rw [tabsOf_len, h.len] at ht
  rw [tabsOf_get, tabsOf_get]
  exact h.same t ht
end
/-- A capability written into a slot of a table of the call's own. -/
theorem TabO.put {w : World} {base n c : Nat} {A : Option Addr} {rs : List TR} (h : TabO w base A n c rs) {t k gs : Nat} (ht : t < n) (hk : k < (rs.getD t TR0).t.slots.length) (hS : (rs.getD t TR0).S = some ⟨gs, 0, none⟩) (x : Cp) :
    TabO ((((w.setCell ⟨gs, k * 4, none⟩ (.int .i64 x.k)).setCell ⟨gs, k * 4 + 1, none⟩ (.int .i64 x.o)).setCell ⟨gs, k * 4 + 2, none⟩ (.int .i64 x.r)).setCell ⟨gs, k * 4 + 3, none⟩ (.int .i64 x.b)) base A n c
      (rs.set t ⟨{ (rs.getD t TR0).t with slots := (rs.getD t TR0).t.slots.set k x }, (rs.getD t TR0).S, (rs.getD t TR0).c⟩) ∧
    tabsOf (rs.set t ⟨{ (rs.getD t TR0).t with slots := (rs.getD t TR0).t.slots.set k x }, (rs.getD t TR0).S, (rs.getD t TR0).c⟩) = putT (tabsOf rs) t k x := by
  have hl := h.len
  have hT : 29 ≠ 41 := by decide
  have hct := h.slots t ht
  have hrow : (rs.getD t TR0).row = some gs := by unfold TR.row; rw [hS]; exact rowOf_pos (by omega)
  have hgr : w.grownBy ((((w.setCell ⟨gs, k * 4, none⟩ (.int .i64 x.k)).setCell ⟨gs, k * 4 + 1, none⟩ (.int .i64 x.o)).setCell ⟨gs, k * 4 + 2, none⟩ (.int .i64 x.r)).setCell ⟨gs, k * 4 + 3, none⟩ (.int .i64 x.b)) (some gs) :=
    (((grown_set _ _ _ _).trans (grown_set _ _ _ _)).trans (grown_set _ _ _ _)).trans (grown_set _ _ _ _)
  have hfl : flatT (rs.set t ⟨{ (rs.getD t TR0).t with slots := (rs.getD t TR0).t.slots.set k x }, (rs.getD t TR0).S, (rs.getD t TR0).c⟩) = flatT rs := by
    have he : ∀ i, ((rs.set t ⟨{ (rs.getD t TR0).t with slots := (rs.getD t TR0).t.slots.set k x }, (rs.getD t TR0).S, (rs.getD t TR0).c⟩).getD i TR0).cells = (rs.getD i TR0).cells := fun i => by
      rw [tr_getD_set (by omega)]
      split
      · next e =>
        subst e
        simp [TR.cells]
      · rfl
    apply List.ext_getElem?
    intro q
    by_cases hq : q < n * 4
    · have h4 : q % 4 < 4 := Nat.mod_lt _ (by omega)
      have q1 := flatG_get (f := TR.cells) (sz := 4) (d := TR0) (fun _ => rfl) rs (q / 4) (q % 4) (by omega) h4
      have q2 := flatG_get (f := TR.cells) (sz := 4) (d := TR0) (fun _ => rfl) (rs.set t ⟨{ (rs.getD t TR0).t with slots := (rs.getD t TR0).t.slots.set k x }, (rs.getD t TR0).S, (rs.getD t TR0).c⟩) (q / 4) (q % 4) (by rw [List.length_set]; omega) h4
      rw [show q / 4 * 4 + q % 4 = q by omega] at q1 q2
      unfold flatT
      rw [q1, q2, he]
    · rw [List.getElem?_eq_none (by rw [flatT_len, List.length_set]; omega), List.getElem?_eq_none (by rw [flatT_len]; omega)]
  refine ⟨⟨?_, fun i hi => ?_, fun i m hi hm him y hy => ?_⟩, ?_⟩
  · rw [hfl]
    refine RowO.grownRow (r := some gs) h.row hgr fun y hy e => ?_
    injection e with e
    subst e
    exact rows_apart hT h.row hct _ hy hrow
  · rw [tr_getD_set (by omega)]
    split
    · show CapO _ base (rs.getD t TR0).S ((rs.getD t TR0).t.slots.set k x).length (rs.getD t TR0).c ((rs.getD t TR0).t.slots.set k x)
      rw [List.length_set]
      rw [hS] at hct ⊢
      exact hct.setAll k hk x
    · next e =>
      refine RowO.grownRow (r := some gs) (h.slots i hi) hgr fun y hy e' => ?_
      injection e' with e'
      subst e'
      exact h.apart t i ht hi e _ hrow hy
  · have hr : ∀ i, ((rs.set t ⟨{ (rs.getD t TR0).t with slots := (rs.getD t TR0).t.slots.set k x }, (rs.getD t TR0).S, (rs.getD t TR0).c⟩).getD i TR0).row = (rs.getD i TR0).row := fun i => by
      rw [tr_getD_set (by omega)]
      split
      · next e =>
        subst e
        simp [TR.row]
      · rfl
    rw [hr] at hy ⊢
    exact h.apart i m hi hm him y hy
  · refine list_ext (d := T0) (by rw [tabsOf_len, List.length_set, putT_len, tabsOf_len]) fun i hi => ?_
    rw [tabsOf_len, List.length_set] at hi
    rw [tabsOf_get, tr_getD_set (by omega), putT_get (by rw [tabsOf_len]; omega), tabsOf_get, tabsOf_get]
    split <;> rfl

end Go.Proofs.Ytdafogfpbpjmdaa
