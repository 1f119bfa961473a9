/- Lists of integers that a call made: what eqIntS, sameInts, markIntS, heldIntS do with them. No condition beyond those written. -/
import Derived.Test.YtdafogfpbpjmdaaBlocks
namespace Go.Proofs.Ytdafogfpbpjmdaa
open Go.RowKit
set_option linter.unusedVariables false

/-- The slice value '.slice A n c' owns the integers xs, from block base on. -/
def OwnI (w : World) (base : Nat) (A : Option Addr) (n c : Nat) (xs : List Int) : Prop := w.ownsRow base 3 1 (.slice A n c) n (xs.map (Value.int .i64))
section
variable {w w' : World} {base n c : Nat} {A : Option Addr} {xs : List Int} {vs : List Value}
theorem OwnI.len (h : OwnI w base A n c xs) : xs.length = n := by have := h.1; simpa using this
theorem OwnI.nil (w : World) (base : Nat) : OwnI w base none 0 0 [] := World.ownsRow_nil w base 3 1
theorem own_at (h : w.ownsRow base 3 1 (.slice A n c) n vs) (hn : 0 < n) :
    ∃ g : Nat, A = some ⟨g, 0, none⟩ ∧ base ≤ g ∧ g < w.heap.size ∧ (∀ j, j < n → w.cell? ⟨g, j, none⟩ = vs[j]?) ∧ (∀ j, w.frozen? ⟨g, j, none⟩ = false) := by
  rcases h.2 with ⟨_, h0⟩ | ⟨g, cap, cur, hv, hb, hg, _⟩
  · omega
  · injection hv with h1 h2 h3
    subst h1 h3
    exact ⟨g, rfl, hb, (Array.getElem?_eq_some_iff.1 hg).1, fun j hj => h.cellAt j (by omega), fun j => h.frozenAt j⟩
theorem OwnI.at_ (h : OwnI w base A n c xs) (hn : 0 < n) :
    ∃ g : Nat, A = some ⟨g, 0, none⟩ ∧ base ≤ g ∧ g < w.heap.size ∧ (∀ j, j < n → w.cell? ⟨g, j, none⟩ = some (.int .i64 (xs.getD j 0))) ∧ (∀ j, w.frozen? ⟨g, j, none⟩ = false) := by
  obtain ⟨g, h1, h2, h3, h4, h5⟩ := own_at h hn
  refine ⟨g, h1, h2, h3, fun j hj => ?_, h5⟩
  have hl := h.len
  rw [h4 j hj]
  have hj' : j < xs.length := by omega
  simp [List.getD, hj']
theorem OwnI.below (h : OwnI w base A n c xs) (hb : Below w.heap.size w w') : OwnI w' base A n c xs :=
  h.kept (row := none) ⟨hb.os, hb.tape, hb.output, hb.size, fun k hk _ => hb.block k hk⟩ (by cases h' : (Value.slice A n c).ownBlock <;> simp)
theorem OwnI.alloc (h : OwnI w base A n c xs) (o : Obj) : OwnI (w.alloc o) base A n c xs := h.below (below_al (Below.refl _ _) o)
theorem OwnI.drewN (h : OwnI w base A n c xs) (q : Nat) : OwnI (w.drewN q) base A n c xs := h
theorem OwnI.drew (h : OwnI w base A n c xs) : OwnI w.drew base A n c xs := h
/-- A store to a block that is not the list's. -/
theorem OwnI.setOther (h : OwnI w base A n c xs) {b i : Nat} (hb : b < base) (v : Value) : OwnI (w.setCell ⟨b, i, none⟩ v) base A n c xs := ownsRow_setCell_below h hb v
theorem OwnI.more (h : OwnI w base A n c xs) {base' : Nat} (hb : base' ≤ base) : OwnI w base' A n c xs := by
  refine ⟨h.1, ?_⟩
  rcases h.2 with h0 | ⟨g, cap, cur, hv, hbg, rest⟩
  · exact .inl h0
  · exact .inr ⟨g, cap, cur, hv, by omega, rest⟩
end
theorem below_drewN' {B : Nat} {a w : World} (h : Below B a w) (n : Nat) : Below B a (w.drewN n) := ⟨h.os, h.tape, h.output, h.size, h.block⟩

/-- The numbers that markIntS writes. -/
def marks (k : Int) (n : Nat) : List Int := (List.range n).map fun t : Nat => k + (t : Int)
theorem marks_at (k : Int) (n j : Nat) (h : j < n) : (marks k n).getD j 0 = k + j := by simp [marks, List.getD, h]

end Go.Proofs.Ytdafogfpbpjmdaa
