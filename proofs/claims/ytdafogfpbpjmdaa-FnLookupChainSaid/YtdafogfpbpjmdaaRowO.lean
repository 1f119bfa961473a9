/- Rows of cells at the head of a block, whatever lies behind them; lists of integers so held: what eqIntS, sameInts, markIntS, heldIntS, Clip do with them. No condition beyond those written. -/
import Derived.Test.YtdafogfpbpjmdaaInts
namespace Go.Proofs.Ytdafogfpbpjmdaa
open Go.RowKit
set_option linter.unusedVariables false

/-- The slice '.slice A n c' holds the cells vs ('sz' cells an element of type T), at the head of a block from base on. -/
def RowO (w : World) (base : Nat) (T : TypeId) (sz : Nat) (A : Option Addr) (n c : Nat) (vs : List Value) : Prop :=
  vs.length = n * sz ∧ n ≤ c ∧ c ≤ maxLen ∧ (0 < n → ∃ (g : Nat) (cur : Array Value), A = some ⟨g, 0, none⟩ ∧ base ≤ g ∧ w.heap[g]? = some (.cells cur T (0, 0)) ∧ cur.toList.take (n * sz) = vs)

theorem grown_trans {a b c : World} {r : Option Nat} (h : a.grownBy b r) (k : b.grownBy c r) : a.grownBy c r := h.trans k
theorem grown_of_below {a w : World} (h : Below a.heap.size a w) (r : Option Nat) : a.grownBy w r := ⟨h.os, h.tape, h.output, h.size, fun i hi _ => h.block i hi⟩
theorem grown_set (w : World) (g i : Nat) (v : Value) : w.grownBy (w.setCell ⟨g, i, none⟩ v) (some g) :=
  ⟨rfl, rfl, rfl, by simp [World.setCell], fun k hk hne => Below.heap_setCell w ⟨g, i, none⟩ v k (fun e => hne (by rw [e]))⟩
/-- What a call that writes to a new block alone leaves. -/
theorem below_grown {B : Nat} {a w w' : World} {r : Option Nat} (h : Below B a w) (hB : B ≤ w.heap.size) (hg : w.grownBy w' r) (hr : ∀ x, r = some x → B ≤ x) : Below B a w' := h.grown hg hB hr

section
variable {w w' : World} {base n c sz : Nat} {A : Option Addr} {T : TypeId} {vs : List Value}
theorem RowO.len (h : RowO w base T sz A n c vs) : vs.length = n * sz := h.1
theorem RowO.nil (w : World) (base : Nat) (T : TypeId) (sz c : Nat) (A : Option Addr) (hc : c ≤ maxLen) : RowO w base T sz A 0 c [] := ⟨by simp, Nat.zero_le _, hc, fun h => absurd h (by omega)⟩
theorem RowO.at_ (h : RowO w base T sz A n c vs) (hn : 0 < n) :
    ∃ g : Nat, A = some ⟨g, 0, none⟩ ∧ base ≤ g ∧ g < w.heap.size ∧ (∀ j, j < n * sz → w.cell? ⟨g, j, none⟩ = vs[j]?) ∧ (∀ j, w.frozen? ⟨g, j, none⟩ = false) := by
  obtain ⟨hl, _, _, h⟩ := h
  obtain ⟨g, cur, hA, hb, hg, ht⟩ := h hn
  refine ⟨g, hA, hb, (Array.getElem?_eq_some_iff.1 hg).1, fun j hj => ?_, fun j => frozen_of_row w g j cur _ hg⟩
  rw [cell_of_row w g j cur _ (0, 0) hg, ← ht, List.getElem?_take, if_pos hj]
  simp
theorem RowO.keepAt (h : RowO w base T sz A n c vs) (hk : ∀ g, 0 < n → A = some ⟨g, 0, none⟩ → base ≤ g → g < w.heap.size → w'.heap[g]? = w.heap[g]?) : RowO w' base T sz A n c vs :=
  ⟨h.1, h.2.1, h.2.2.1, fun hn => by
    obtain ⟨g, cur, hA, hb, hg, ht⟩ := h.2.2.2 hn
    exact ⟨g, cur, hA, hb, (hk g hn hA hb (Array.getElem?_eq_some_iff.1 hg).1).trans hg, ht⟩⟩
theorem RowO.below (h : RowO w base T sz A n c vs) (hb : Below w.heap.size w w') : RowO w' base T sz A n c vs := h.keepAt fun g _ _ _ hg => hb.block g hg
theorem RowO.alloc (h : RowO w base T sz A n c vs) (o : Obj) : RowO (w.alloc o) base T sz A n c vs := h.below (below_al (Below.refl _ _) o)
theorem RowO.drewN (h : RowO w base T sz A n c vs) (q : Nat) : RowO (w.drewN q) base T sz A n c vs := h
theorem RowO.drew (h : RowO w base T sz A n c vs) : RowO w.drew base T sz A n c vs := h
theorem RowO.more (h : RowO w base T sz A n c vs) {base' : Nat} (hb : base' ≤ base) : RowO w base' T sz A n c vs :=
  ⟨h.1, h.2.1, h.2.2.1, fun hn => by
    obtain ⟨g, cur, hA, hbg, rest⟩ := h.2.2.2 hn
    exact ⟨g, cur, hA, by omega, rest⟩⟩
/-- A change of one other block. -/
theorem RowO.grown (h : RowO w base T sz A n c vs) {r : Option Nat} (hg : w.grownBy w' r) (hr : ∀ x, r = some x → x < base) : RowO w' base T sz A n c vs :=
  h.keepAt fun g _ _ hb hlt => hg.block g hlt (fun e => by have := hr g e.symm; omega)
theorem RowO.grownFar (h : RowO w base T sz A n c vs) {r : Option Nat} (hg : w.grownBy w' r) (hr : ∀ g, A = some ⟨g, 0, none⟩ → r ≠ some g) : RowO w' base T sz A n c vs :=
  h.keepAt fun g _ hA _ hlt => hg.block g hlt (fun e => hr g hA e.symm)
theorem RowO.setLow (h : RowO w base T sz A n c vs) {b i : Nat} (hb : b < base) (v : Value) : RowO (w.setCell ⟨b, i, none⟩ v) base T sz A n c vs :=
  h.grown (grown_set w b i v) (fun x e => by injection e with e; omega)
theorem RowO.set {g : Nat} (h : RowO w base T sz (some ⟨g, 0, none⟩) n c vs) (i : Nat) (hi : i < n * sz) (v : Value) : RowO (w.setCell ⟨g, i, none⟩ v) base T sz (some ⟨g, 0, none⟩) n c (vs.set i v) := by
  obtain ⟨hl, hn, hm, hh⟩ := h
  have hn0 : 0 < n := Nat.pos_of_ne_zero (fun e => by subst e; omega)
  obtain ⟨g', cur, hA, hb, hg, ht⟩ := hh hn0
  injection hA with hA
  injection hA with hA
  subst hA
  refine ⟨by rw [List.length_set]; exact hl, hn, hm, fun _ => ⟨g, cur.setIfInBounds i v, rfl, hb, heap_setCell_same w g _ cur _ v hg, ?_⟩⟩
  rw [Array.toList_setIfInBounds, List.take_set, ht]
theorem RowO.clip (h : RowO w base T sz A n c vs) : RowO w base T sz A n n vs := ⟨h.1, Nat.le_refl _, Nat.le_trans h.2.1 h.2.2.1, h.2.2.2⟩
theorem RowO.of_own (h : w.ownsRow base T sz (.slice A n c) n vs) : RowO w base T sz A n c vs := by
  rcases h.2 with ⟨hv, h0⟩ | ⟨g, cap, cur, hv, hb, hg, hnc, hcm, hs, ht⟩
  · injection hv with h1 h2 h3
    subst h0 h3
    exact ⟨h.1, Nat.le_refl _, by decide, fun h => absurd h (by omega)⟩
  · injection hv with h1 h2 h3
    subst h1 h3
    exact ⟨h.1, hnc, hcm, fun _ => ⟨g, cur, rfl, hb, hg, ht⟩⟩
end

/-- The block of a list that is not empty. -/
def rowOf (A : Option Addr) (n : Nat) : Option Nat := if n = 0 then none else A.map (·.block)
theorem rowOf_pos {g n : Nat} (hn : 0 < n) : rowOf (some ⟨g, 0, none⟩) n = some g := by
  unfold rowOf
  rw [if_neg (by omega)]
  rfl
theorem rowOf_nil (A : Option Addr) : rowOf A 0 = none := rfl
theorem RowO.row {w : World} {base n c sz : Nat} {A : Option Addr} {T : TypeId} {vs : List Value} (h : RowO w base T sz A n c vs) : ∀ g, rowOf A n = some g → base ≤ g ∧ g < w.heap.size := fun g hg => by
  by_cases hn : n = 0
  · subst hn; cases hg
  · obtain ⟨b, rfl, hb, hl, -⟩ := h.at_ (by omega)
    rw [rowOf_pos (by omega)] at hg
    injection hg with hg
    subst hg
    exact ⟨hb, hl⟩

def IntO (w : World) (base : Nat) (A : Option Addr) (n c : Nat) (xs : List Int) : Prop := RowO w base 3 1 A n c (xs.map (Value.int .i64))
section
variable {w w' : World} {base n c : Nat} {A : Option Addr} {xs : List Int}
theorem IntO.len (h : IntO w base A n c xs) : xs.length = n := by have := h.1; simpa using this
theorem IntO.of_own (h : OwnI w base A n c xs) : IntO w base A n c xs := RowO.of_own h
theorem IntO.below (h : IntO w base A n c xs) (hb : Below w.heap.size w w') : IntO w' base A n c xs := RowO.below h hb
theorem IntO.at_ (h : IntO w base A n c xs) (hn : 0 < n) :
    ∃ g : Nat, A = some ⟨g, 0, none⟩ ∧ base ≤ g ∧ g < w.heap.size ∧ (∀ j, j < n → w.cell? ⟨g, j, none⟩ = some (.int .i64 (xs.getD j 0))) ∧ (∀ j, w.frozen? ⟨g, j, none⟩ = false) := by
  obtain ⟨g, h1, h2, h3, h4, h5⟩ := RowO.at_ h hn
  refine ⟨g, h1, h2, h3, fun j hj => ?_, h5⟩
  have hl := h.len
  rw [h4 j (by omega)]
  have hj' : j < xs.length := by omega
  simp [List.getD, hj']
end

end Go.Proofs.Ytdafogfpbpjmdaa
