/- Blocks of integers that stay while a region that draws its order calls what makes memory. No condition beyond those written. -/
import Derived.Test.YtdafogfpbpjmdaaBlocks
import Derived.Deep.RegionHeld3
namespace Go.Proofs.Ytdafogfpbpjmdaa
open Go.RowKit
set_option linter.unusedVariables false

/-- The blocks of l hold their integers; below B the world is as w0 was. -/
def Kept (B : Nat) (w0 : World) (l : List (Nat × TypeId × List Int)) (w : World) : Prop := (∀ x, x ∈ l → IAt w x.1 x.2.1 x.2.2) ∧ Below B w0 w ∧ B ≤ w.heap.size
section
variable {B : Nat} {w0 w w1 : World} {l : List (Nat × TypeId × List Int)} {R : Prop}
theorem Kept.nil (hb : Below B w0 w) (hB : B ≤ w.heap.size) : Kept B w0 [] w := ⟨by simp, hb, hB⟩
theorem Kept.cons {c : Nat} {T : TypeId} {xs : List Int} (hi : IAt w c T xs) (h : Kept B w0 l w) : Kept B w0 ((c, T, xs) :: l) w := by
  refine ⟨fun x hx => ?_, h.2⟩
  rcases List.mem_cons.1 hx with rfl | hx
  · exact hi
  · exact h.1 x hx
theorem Kept.drew (h : Kept B w0 l w) : Kept B w0 l w.drew := ⟨h.1, h.2.1.drew, h.2.2⟩
theorem Kept.step (hb : Below w.heap.size w w1) (h : Kept B w0 l w ∧ R) : Kept B w0 l w1 :=
  ⟨fun x hx => (h.1.1 x hx).belowSelf hb, h.1.2.1.trans (hb.mono h.1.2.2), Nat.le_trans h.1.2.2 hb.size⟩
theorem Kept.same (h : Kept B w0 l w ∧ R) : Kept B w0 l w := h.1
theorem Kept.at_ (h : Kept B w0 l w) (i : Nat) {c : Nat} {T : TypeId} {xs : List Int} (hi : l[i]? = some (c, T, xs)) : IAt w c T xs := h.1 _ (List.mem_of_getElem? hi)
theorem Kept.cell (h : Kept B w0 l w) (i j : Nat) {c : Nat} {T : TypeId} {xs : List Int} {v : Int} (hi : l[i]? = some (c, T, xs)) (hj : xs[j]? = some v) : w.cell? ⟨c, j, none⟩ = some (.int .i64 v) := by
  obtain ⟨hl, rfl⟩ := List.getElem?_eq_some_iff.1 hj
  exact (h.at_ i hi).cell hl
end

end Go.Proofs.Ytdafogfpbpjmdaa
