/- A block known whole. No condition beyond those written. -/
import Derived.Test.YtdafogfpbpjmdaaRowO
namespace Go.Proofs.Ytdafogfpbpjmdaa
open Go.RowKit
set_option linter.unusedVariables false

/-- Block c holds the cells vs. -/
def CAt (w : World) (c : Nat) (T : TypeId) (vs : List Value) : Prop := w.heap[c]? = some (.cells vs.toArray T (0, 0))
section
variable {w w' : World} {c : Nat} {T : TypeId} {vs : List Value}
theorem CAt.new (w : World) (T : TypeId) (vs : List Value) : CAt (w.alloc (.cells vs.toArray T)) w.heap.size T vs := heap_alloc_new w _
theorem CAt.lt (h : CAt w c T vs) : c < w.heap.size := (Array.getElem?_eq_some_iff.1 h).1
theorem CAt.below (h : CAt w c T vs) (hb : Below w.heap.size w w') : CAt w' c T vs := (hb.block c h.lt).trans h
theorem CAt.alloc (h : CAt w c T vs) (o : Obj) : CAt (w.alloc o) c T vs := (Below.heap_alloc w o c h.lt).trans h
theorem CAt.cell (h : CAt w c T vs) (j : Nat) : w.cell? ⟨c, j, none⟩ = vs[j]? := by rw [cell_of_row w c j _ _ (0, 0) h]; simp
theorem CAt.free (h : CAt w c T vs) (i : Nat) : w.frozen? ⟨c, i, none⟩ = false := frozen_of_row w c i _ _ h
theorem CAt.cells4 {a0 a1 a2 a3 : Value} (h : CAt w c T [a0, a1, a2, a3]) : w.cell? ⟨c, 0, none⟩ = some a0 ∧ w.cell? ⟨c, 1, none⟩ = some a1 ∧ w.cell? ⟨c, 2, none⟩ = some a2 ∧ w.cell? ⟨c, 3, none⟩ = some a3 :=
  ⟨h.cell 0, h.cell 1, h.cell 2, h.cell 3⟩
theorem CAt.set {i : Nat} (h : CAt w c T vs) (v : Value) : CAt (w.setCell ⟨c, i, none⟩ v) c T (vs.set i v) := by
  have := heap_setCell_same w c i _ T v h
  unfold CAt
  rw [this]
  congr 2
  simp
theorem CAt.setOther {b i : Nat} (h : CAt w c T vs) (hb : c ≠ b) (v : Value) : CAt (w.setCell ⟨b, i, none⟩ v) c T vs := (Below.heap_setCell w ⟨b, i, none⟩ v c hb).trans h
theorem CAt.grown {r : Option Nat} (h : CAt w c T vs) (hg : w.grownBy w' r) (hr : r ≠ some c) : CAt w' c T vs := (hg.block c h.lt (fun e => hr e.symm)).trans h
end

end Go.Proofs.Ytdafogfpbpjmdaa
