/- What a drawn region of a law keeps: blocks of integers, and the shape of what is new; how each kind of operation keeps it. No condition beyond those written. -/
import Derived.Test.YtabjkjbclpokeaaRegion2
import Derived.Test.YtabjkjbclpokeaaDrawRegion
import Derived.Test.YtabjkjbclpokeaaHeld
namespace Go.Proofs.Ytabjkjbclpokeaa
open Go.RowKit
set_option linter.unusedVariables false

theorem Kept.below {B : Nat} {w0 w w1 : World} {l : List (Nat × TypeId × List Int)} (h : Kept B w0 l w) (hb : Below w.heap.size w w1) : Kept B w0 l w1 := Kept.step hb ⟨h, trivial⟩
theorem Kept.set {B c j : Nat} {w0 w : World} {l : List (Nat × TypeId × List Int)} (h : Kept B w0 l w) (hl : ∀ x, x ∈ l → x.1 < c) (hB : B ≤ c) (v : Value) : Kept B w0 l (w.setCell ⟨c, j, none⟩ v) :=
  ⟨fun x hx => (Below.heap_setCell w ⟨c, j, none⟩ v x.1 (by have := hl x hx; show x.1 ≠ c; omega)).trans (h.1 x hx), h.2.1.setCell hB v, by simpa [World.setCell] using h.2.2⟩

/-- The region began at a heap of size S; the blocks of l lie below it. -/
def RG (B S : Nat) (w0 : World) (l : List (Nat × TypeId × List Int)) (f : Nat) (w : World) : Prop := Kept B w0 l w ∧ S ≤ w.heap.size ∧ B ≤ S ∧ ∀ x, x ∈ l → x.1 < S
section
variable {B S f f' c j : Nat} {w0 w w1 : World} {l : List (Nat × TypeId × List Int)}
theorem RG.same (h : RG B S w0 l f w) : RG B S w0 l f' w := h
theorem RG.below (h : RG B S w0 l f w) (hb : Below w.heap.size w w1) : RG B S w0 l f' w1 := ⟨h.1.below hb, Nat.le_trans h.2.1 hb.size, h.2.2⟩
theorem RG.alloc (h : RG B S w0 l f w) (o : Obj) : RG B S w0 l f' (w.alloc o) := h.below (below_al (Below.refl _ _) o)
theorem RG.set (h : RG B S w0 l f w) (hc : S ≤ c) (v : Value) : RG B S w0 l f (w.setCell ⟨c, j, none⟩ v) :=
  ⟨h.1.set (fun x hx => by have := h.2.2.2 x hx; omega) (by have := h.2.2.1; omega) v, by simpa [World.setCell] using h.2.1, h.2.2⟩
theorem RG.keep (h : RG B S w0 l f w) : Kept B w0 l w := h.1
end

/-- What operation i leaves of the worlds' blocks: a store (i in st) keeps shapes, every other operation keeps all that was there. -/
def LeN (st : List Nat) (i : Nat) (w w' : World) : Prop := (i ∉ st → Below w.heap.size w w') ∧ ∀ (g n : Nat) (T : TypeId), VarAt w g n T → VarAt w' g n T
theorem LeN.of {st : List Nat} {i : Nat} {w w' : World} (hb : Below w.heap.size w w') : LeN st i w w' := ⟨fun _ => hb, fun g n T h => h.le (Le.below hb)⟩
theorem LeN.refl (st : List Nat) (i : Nat) (w : World) : LeN st i w w := .of (Below.refl _ _)
theorem LeN.alloc (st : List Nat) (i : Nat) (w : World) (o : Obj) : LeN st i w (w.alloc o) := .of (below_al (Below.refl _ _) o)
theorem VarAt.keepSet {w : World} {c j : Nat} (x : Int) : ∀ (g n : Nat) (T : TypeId), VarAt w g n T → VarAt (w.setCell ⟨c, j, none⟩ (.int .i64 x)) g n T := fun g n T h => by
  by_cases hg : g = c
  · subst hg; exact h.set x
  · exact h.setOther hg _
theorem LeN.set {st : List Nat} {i : Nat} {w w' : World} (hi : i ∈ st) (h : ∀ (g n : Nat) (T : TypeId), VarAt w g n T → VarAt w' g n T) : LeN st i w w' := ⟨fun hn => absurd hi hn, h⟩

/-- A new variable of n integers, from S on. -/
def NewAt (S n : Nat) (T : TypeId) (v : Value) (w : World) : Prop := ∃ g : Nat, v = .pointer (some ⟨g, 0, none⟩) ∧ S ≤ g ∧ VarAt w g n T
/-- A new variable that holds the integers xs. -/
def SetAt (S : Nat) (T : TypeId) (xs : List Int) (v : Value) (w : World) : Prop := ∃ g : Nat, v = .pointer (some ⟨g, 0, none⟩) ∧ S ≤ g ∧ IAt w g T xs
theorem NewAt.le {S n : Nat} {T : TypeId} {v : Value} {w w' : World} {st : List Nat} {i : Nat} (h : NewAt S n T v w) (hl : LeN st i w w') : NewAt S n T v w' := by
  obtain ⟨g, h1, h2, h3⟩ := h
  exact ⟨g, h1, h2, hl.2 _ _ _ h3⟩
theorem SetAt.le {S : Nat} {T : TypeId} {xs : List Int} {v : Value} {w w' : World} {st : List Nat} {i : Nat} (h : SetAt S T xs v w) (hl : LeN st i w w') (hi : i ∉ st) : SetAt S T xs v w' := by
  obtain ⟨g, h1, h2, h3⟩ := h
  exact ⟨g, h1, h2, h3.belowSelf (hl.1 hi)⟩
/-- Four stores into a variable of four integers. -/
theorem VarAt.set4 {w : World} {g : Nat} {T : TypeId} {x y z u : Int} (h : VarAt w g 4 T) : IAt ((((w.setCell ⟨g, 0, none⟩ (.int .i64 x)).setCell ⟨g, 1, none⟩ (.int .i64 y)).setCell ⟨g, 2, none⟩ (.int .i64 z)).setCell ⟨g, 3, none⟩ (.int .i64 u)) g T [x, y, z, u] := by
  obtain ⟨cs, h1, h2, _⟩ := h
  obtain ⟨l⟩ := cs
  match l, h1 with
  | [c0, c1, c2, c3], _ =>
    unfold IAt
    simp [World.setCell, Array.getElem?_modify, h2]
theorem VarAt.set3 {w : World} {g : Nat} {T : TypeId} {x y z : Int} (h : VarAt w g 3 T) : IAt (((w.setCell ⟨g, 0, none⟩ (.int .i64 x)).setCell ⟨g, 1, none⟩ (.int .i64 y)).setCell ⟨g, 2, none⟩ (.int .i64 z)) g T [x, y, z] := by
  obtain ⟨cs, h1, h2, _⟩ := h
  obtain ⟨l⟩ := cs
  match l, h1 with
  | [c0, c1, c2], _ =>
    unfold IAt
    simp [World.setCell, Array.getElem?_modify, h2]
theorem VarAt.new (w : World) (T : TypeId) (xs : List Int) : VarAt (w.alloc (.cells (xs.map (Value.int .i64)).toArray T)) w.heap.size xs.length T := ⟨_, by simp, heap_alloc_new w _, allInts_of xs⟩

end Go.Proofs.Ytabjkjbclpokeaa
