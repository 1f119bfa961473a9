/- Lists of entries in memory: what reads, writes and calls keep of them. No condition beyond those written. -/
import Derived.Test.YtpglfbjjmnaojaaTreePlain
import Derived.Test.YtpglfbjjmnaojaaBlocks
namespace Go.Proofs.Ytpglfbjjmnaojaa
open Go.RowKit
set_option linter.unusedVariables false

/-- The cells of a list of entries, one behind the other. -/
def flat (es : List Ent) : List Value := es.flatMap Ent.cells
theorem flat_nil : flat [] = [] := rfl
theorem flat_cons (e : Ent) (es : List Ent) : flat (e :: es) = e.cells ++ flat es := rfl
theorem flat_append (a b : List Ent) : flat (a ++ b) = flat a ++ flat b := by simp [flat]
theorem cells_len (e : Ent) : e.cells.length = 6 := rfl
theorem flat_len (es : List Ent) : (flat es).length = es.length * 6 := by
  induction es with
  | nil => rfl
  | cons e es ih => rw [flat_cons, List.length_append, ih, cells_len, List.length_cons]; omega
theorem flat_get (es : List Ent) (i c : Nat) (hi : i < es.length) (hc : c < 6) : (flat es)[i * 6 + c]? = (es.getD i E0).cells[c]? := by
  induction es generalizing i with
  | nil => simp at hi
  | cons e es ih =>
    rw [flat_cons]
    cases i with
    | zero => rw [List.getElem?_append_left (by rw [cells_len]; omega)]; simp
    | succ i =>
      rw [List.getElem?_append_right (by rw [cells_len]; omega), cells_len, show (i + 1) * 6 + c - 6 = i * 6 + c by omega, ih i (by simpa using hi)]
      simp
theorem flat_set (es : List Ent) (i c : Nat) (e' : Ent) (v : Value) (hi : i < es.length) (hc : c < 6) (he : (es.getD i E0).cells.set c v = e'.cells) : (flat es).set (i * 6 + c) v = flat (es.set i e') := by
  induction es generalizing i with
  | nil => simp at hi
  | cons e es ih =>
    cases i with
    | zero =>
      rw [flat_cons, List.set_cons_zero, flat_cons, List.set_append_left _ _ (by rw [cells_len]; omega)]
      simp only [Nat.zero_mul, Nat.zero_add]
      rw [show e.cells.set c v = e'.cells by simpa using he]
    | succ i =>
      rw [flat_cons, List.set_cons_succ, flat_cons, List.set_append_right _ _ (by rw [cells_len]; omega), cells_len, show (i + 1) * 6 + c - 6 = i * 6 + c by omega,
        ih i (by simpa using hi) (by simpa using he)]
theorem flat_one (es : List Ent) : ∀ u ∈ flat es, u.oneCell' = true := by
  intro u hu
  unfold flat at hu
  obtain ⟨e, _, he⟩ := List.mem_flatMap.1 hu
  simp only [Ent.cells, List.mem_cons, List.not_mem_nil, or_false] at he
  rcases he with rfl | rfl | rfl | rfl | rfl | rfl <;> rfl

/-- The six cells of an entry from offset o on in block g. -/
def EntCells (w : World) (g o : Nat) (e : Ent) : Prop :=
  w.cell? ⟨g, o, none⟩ = some (.int .i64 e.k) ∧ w.cell? ⟨g, o + 1, none⟩ = some (.int .i64 e.o) ∧ w.cell? ⟨g, o + 2, none⟩ = some (.int .i64 e.r) ∧ w.cell? ⟨g, o + 3, none⟩ = some (.int .i64 e.b) ∧ w.cell? ⟨g, o + 4, none⟩ = some (.int .i64 e.p) ∧ w.cell? ⟨g, o + 5, none⟩ = some (.bool e.g)

/-- The slice '.slice A n c' reads the entries es, at the head of a block from base on. -/
def EntO (w : World) (base : Nat) (A : Option Addr) (n c : Nat) (es : List Ent) : Prop :=
  es.length = n ∧ n ≤ c ∧ c ≤ maxLen ∧ (0 < n → ∃ (g : Nat) (cur : Array Value), A = some ⟨g, 0, none⟩ ∧ base ≤ g ∧ w.heap[g]? = some (.cells cur 48 (0, 0)) ∧ cur.toList.take (n * 6) = flat es)
section
variable {w w' : World} {base n c : Nat} {A : Option Addr} {es : List Ent}
theorem EntO.len (h : EntO w base A n c es) : es.length = n := h.1
theorem EntO.nil (w : World) (base c : Nat) (A : Option Addr) (hc : c ≤ maxLen) : EntO w base A 0 c [] := ⟨rfl, Nat.zero_le _, hc, fun h => absurd h (by omega)⟩
theorem EntO.at_ (h : EntO w base A n c es) (hn : 0 < n) :
    ∃ g : Nat, A = some ⟨g, 0, none⟩ ∧ base ≤ g ∧ g < w.heap.size ∧ (∀ i, i < n → EntCells w g (i * 6) (es.getD i E0)) ∧ (∀ j, w.frozen? ⟨g, j, none⟩ = false) := by
  obtain ⟨hl, _, _, h⟩ := h
  obtain ⟨g, cur, hA, hb, hg, ht⟩ := h hn
  have hcell : ∀ i, i < n → ∀ d, d < 6 → w.cell? ⟨g, i * 6 + d, none⟩ = (es.getD i E0).cells[d]? := fun i hi d hd => by
    rw [cell_of_row w g _ cur _ (0, 0) hg, ← flat_get es i d (by omega) hd, ← ht, List.getElem?_take, if_pos (by omega)]
    simp
  exact ⟨g, hA, hb, (Array.getElem?_eq_some_iff.1 hg).1, fun i hi => ⟨hcell i hi 0 (by omega), hcell i hi 1 (by omega), hcell i hi 2 (by omega), hcell i hi 3 (by omega), hcell i hi 4 (by omega), hcell i hi 5 (by omega)⟩, fun j => frozen_of_row w g j cur _ hg⟩
theorem EntO.keep (h : EntO w base A n c es) (hk : ∀ k, k < w.heap.size → w'.heap[k]? = w.heap[k]?) : EntO w' base A n c es :=
  ⟨h.1, h.2.1, h.2.2.1, fun hn => by
    obtain ⟨g, cur, hA, hb, hg, ht⟩ := h.2.2.2 hn
    exact ⟨g, cur, hA, hb, (hk g (Array.getElem?_eq_some_iff.1 hg).1).trans hg, ht⟩⟩
theorem EntO.below (h : EntO w base A n c es) (hb : Below w.heap.size w w') : EntO w' base A n c es := h.keep hb.block
theorem EntO.alloc (h : EntO w base A n c es) (o : Obj) : EntO (w.alloc o) base A n c es := h.below (below_al (Below.refl _ _) o)
theorem EntO.drewN (h : EntO w base A n c es) (q : Nat) : EntO (w.drewN q) base A n c es := h
theorem EntO.drew (h : EntO w base A n c es) : EntO w.drew base A n c es := h
theorem EntO.more (h : EntO w base A n c es) {base' : Nat} (hb : base' ≤ base) : EntO w base' A n c es :=
  ⟨h.1, h.2.1, h.2.2.1, fun hn => by
    obtain ⟨g, cur, hA, hbg, rest⟩ := h.2.2.2 hn
    exact ⟨g, cur, hA, by omega, rest⟩⟩
/-- A store to a block below the list's. -/
theorem EntO.setLow (h : EntO w base A n c es) {b i : Nat} (hb : b < base) (v : Value) : EntO (w.setCell ⟨b, i, none⟩ v) base A n c es :=
  ⟨h.1, h.2.1, h.2.2.1, fun hn => by
    obtain ⟨g, cur, hA, hbg, hg, ht⟩ := h.2.2.2 hn
    exact ⟨g, cur, hA, hbg, (Below.heap_setCell w ⟨b, i, none⟩ v g (by show g ≠ b; omega)).trans hg, ht⟩⟩
/-- A store to another block than the list's. -/
theorem EntO.setFar (h : EntO w base A n c es) {b i : Nat} (hb : ∀ g, A = some ⟨g, 0, none⟩ → g ≠ b) (v : Value) : EntO (w.setCell ⟨b, i, none⟩ v) base A n c es :=
  ⟨h.1, h.2.1, h.2.2.1, fun hn => by
    obtain ⟨g, cur, hA, hbg, hg, ht⟩ := h.2.2.2 hn
    exact ⟨g, cur, hA, hbg, (Below.heap_setCell w ⟨b, i, none⟩ v g (by show g ≠ b; exact hb g hA)).trans hg, ht⟩⟩
/-- A store to one field of one entry. -/
theorem EntO.set {g : Nat} (h : EntO w base (some ⟨g, 0, none⟩) n c es) (i d : Nat) (hi : i < n) (hd : d < 6) (e' : Ent) (v : Value) (he : (es.getD i E0).cells.set d v = e'.cells) :
    EntO (w.setCell ⟨g, i * 6 + d, none⟩ v) base (some ⟨g, 0, none⟩) n c (es.set i e') := by
  obtain ⟨hl, hn, hm, hh⟩ := h
  obtain ⟨g', cur, hA, hb, hg, ht⟩ := hh (by omega)
  injection hA with hA
  injection hA with hA
  subst hA
  refine ⟨by rw [List.length_set]; exact hl, hn, hm, fun _ => ⟨g, cur.setIfInBounds (i * 6 + d) v, rfl, hb, heap_setCell_same w g _ cur _ v hg, ?_⟩⟩
  rw [Array.toList_setIfInBounds, ← flat_set es i d e' v (by omega) hd he, ← ht, List.take_set]
/-- A prefix. -/
theorem EntO.take (h : EntO w base A n c es) {m : Nat} (hm : m ≤ n) : EntO w base A m c (es.take m) :=
  ⟨by rw [List.length_take, h.1]; omega, by have := h.2.1; omega, h.2.2.1, fun h0 => by
    obtain ⟨g, cur, hA, hb, hg, ht⟩ := h.2.2.2 (by omega)
    refine ⟨g, cur, hA, hb, hg, ?_⟩
    have e : (flat es).take (m * 6) = flat (es.take m) := by
      have h1 := flat_append (es.take m) (es.drop m)
      rw [List.take_append_drop] at h1
      rw [h1, List.take_left' (by rw [flat_len, List.length_take, h.1]; omega)]
    rw [← e, ← ht, List.take_take]
    congr 1
    omega⟩
theorem EntO.of_own (h : w.ownsRow base 48 6 (.slice A n c) n (flat es)) : EntO w base A n c es := by
  have hl : es.length = n := by have := h.1; rw [flat_len] at this; omega
  rcases h.2 with ⟨hv, h0⟩ | ⟨g, cap, cur, hv, hb, hg, hnc, hcm, hs, ht⟩
  · injection hv with h1 h2 h3
    subst h0
    have := List.eq_nil_of_length_eq_zero hl
    subst this
    exact EntO.nil _ _ _ _ (by subst h3; decide)
  · injection hv with h1 h2 h3
    subst h1 h3
    exact ⟨hl, hnc, hcm, fun _ => ⟨g, cur, rfl, hb, hg, ht⟩⟩
theorem EntO.reads (h : EntO w base A n c es) : Reads w w.heap.size 6 A n (flat es) := by
  refine ⟨by rw [flat_len, h.1], fun hn => ?_⟩
  obtain ⟨g, cur, hA, hb, hg, ht⟩ := h.2.2.2 hn
  refine ⟨g, 0, hA, (Array.getElem?_eq_some_iff.1 hg).1, fun j u hu => ?_⟩
  rw [Nat.zero_add, cell_of_row w g j cur _ (0, 0) hg]
  rw [← ht, List.getElem?_take] at hu
  split at hu
  · simpa using hu
  · cases hu
end

end Go.Proofs.Ytpglfbjjmnaojaa
