/- What the operations of a drawn region keep: every block keeps its shape, lists of integers keep their contents; how a reader's step keeps it. No condition beyond those written. -/
import Derived.Test.YtpglfbjjmnaojaaRegion
import Derived.Test.YtpglfbjjmnaojaaDrawRights
namespace Go.Proofs.Ytpglfbjjmnaojaa
open Go.RowKit
set_option linter.unusedVariables false

/-- Integers alone. -/
def AllInts (cs : Array Value) : Prop := ∀ v, v ∈ cs.toList → ∃ n : Int, v = .int .i64 n
/-- Every block of cells keeps its type and its size, and holds integers alone if it did; a block of the element type int keeps its contents. -/
def Le (w w' : World) : Prop := ∀ (k : Nat) (T : TypeId) (cs : Array Value), w.heap[k]? = some (.cells cs T (0, 0)) →
  ∃ cs' : Array Value, cs'.size = cs.size ∧ w'.heap[k]? = some (.cells cs' T (0, 0)) ∧ (T = 3 → cs' = cs) ∧ (AllInts cs → AllInts cs')

section
variable {w w' u : World} {b m m' : Nat}
theorem Le.refl (w : World) : Le w w := fun k T cs h => ⟨cs, rfl, h, fun _ => rfl, fun h => h⟩
theorem Le.trans (h : Le w w') (h' : Le w' u) : Le w u := fun k T cs hk => by
  obtain ⟨cs', h1, h2, h3, i3⟩ := h k T cs hk
  obtain ⟨cs'', h4, h5, h6, i6⟩ := h' k T cs' h2
  exact ⟨cs'', h4.trans h1, h5, fun hT => (h6 hT).trans (h3 hT), fun hi => i6 (i3 hi)⟩
theorem Le.below (h : Below w.heap.size w w') : Le w w' := fun k T cs hk => ⟨cs, rfl, (h.block k (Array.getElem?_eq_some_iff.1 hk).1).trans hk, fun _ => rfl, fun h => h⟩
theorem Le.alloc (w : World) (o : Obj) : Le w (w.alloc o) := Le.below ((Below.refl _ _).alloc (Nat.le_refl _) o)
theorem AllInts.set {cs : Array Value} (h : AllInts cs) (i : Nat) (x : Int) : AllInts (cs.setIfInBounds i (.int .i64 x)) := by
  intro v hv
  rw [Array.toList_setIfInBounds] at hv
  rcases List.mem_or_eq_of_mem_set hv with h1 | h1
  · exact h v h1
  · exact ⟨x, h1⟩
theorem Le.setCell (w : World) (c i : Nat) (x : Int) (h : ∀ cs, w.heap[c]? ≠ some (.cells cs 3 (0, 0))) : Le w (w.setCell ⟨c, i, none⟩ (.int .i64 x)) := fun k T cs hk => by
  by_cases hc : k = c
  · subst hc
    refine ⟨cs.setIfInBounds i (.int .i64 x), by simp, by simp [World.setCell, Array.getElem?_modify, hk], fun hT => ?_, fun hi => hi.set i x⟩
    subst hT
    exact absurd hk (h cs)
  · exact ⟨cs, rfl, (Below.heap_setCell w ⟨c, i, none⟩ (.int .i64 x) k hc).trans hk, fun _ => rfl, fun h => h⟩
/-- A reader's step. -/
theorem Le.only (h : Only b w w') (hr : Rd w b m) (hr' : Rd w' b m') : Le w w' := fun k T cs hk => by
  by_cases hc : k = b
  · subst hc
    obtain ⟨A, len, cap, bs, p, h1, _⟩ := hr
    obtain ⟨A', len', cap', bs', p', h1', _⟩ := hr'
    rw [h1] at hk
    injection hk with hk
    injection hk with hcs hT
    subst hcs hT
    refine ⟨#[.slice A' len' cap', .int .i64 p'], rfl, h1', fun hT => absurd hT (by decide), fun hi => ?_⟩
    obtain ⟨n, hn⟩ := hi (.slice A len cap) (by simp)
    cases hn
  · exact ⟨cs, rfl, (h.block k (Array.getElem?_eq_some_iff.1 hk).1 (fun e => hc (by injection e))).trans hk, fun _ => rfl, fun h => h⟩

/-- A list of integers in a block. -/
def IntsAt (w : World) (g : Nat) (xs : List Int) : Prop := w.heap[g]? = some (.cells (xs.map (Value.int .i64)).toArray 3 (0, 0))
theorem IntsAt.le {g : Nat} {xs : List Int} (h : IntsAt w g xs) (hl : Le w w') : IntsAt w' g xs := by
  obtain ⟨cs', _, h2, h3, _⟩ := hl g _ _ h
  unfold IntsAt
  rw [h2, h3 rfl]
theorem IntsAt.cell {g i : Nat} {xs : List Int} (h : IntsAt w g xs) (hi : i < xs.length) : w.cell? ⟨g, i, none⟩ = some (.int .i64 xs[i]) := by
  unfold IntsAt at h
  simp [World.cell?, h, hi]
theorem IntsAt.lt {g : Nat} {xs : List Int} (h : IntsAt w g xs) : g < w.heap.size := (Array.getElem?_eq_some_iff.1 h).1
/-- A variable of n integers in a block of its own. -/
def VarAt (w : World) (g n : Nat) (T : TypeId) : Prop := ∃ cs : Array Value, cs.size = n ∧ w.heap[g]? = some (.cells cs T (0, 0)) ∧ AllInts cs
theorem VarAt.le {g n : Nat} {T : TypeId} (h : VarAt w g n T) (hl : Le w w') : VarAt w' g n T := by
  obtain ⟨cs, h1, h2, h3⟩ := h
  obtain ⟨cs', h4, h5, _, h6⟩ := hl g _ _ h2
  exact ⟨cs', h4.trans h1, h5, h6 h3⟩
theorem VarAt.cell {g n i : Nat} {T : TypeId} (h : VarAt w g n T) (hi : i < n) : ∃ x : Int, w.cell? ⟨g, i, none⟩ = some (.int .i64 x) := by
  obtain ⟨cs, h1, h2, h3⟩ := h
  subst h1
  obtain ⟨x, hx⟩ := h3 cs[i] (by simp)
  exact ⟨x, by simp [World.cell?, h2, hi, hx]⟩
theorem VarAt.free {g n i : Nat} {T : TypeId} (h : VarAt w g n T) : w.frozen? ⟨g, i, none⟩ = false := by
  obtain ⟨cs, h1, h2, _⟩ := h
  simp [World.frozen?, h2]
theorem VarAt.notInts {g n : Nat} {T : TypeId} (h : VarAt w g n T) (hT : T ≠ 3) : ∀ cs, w.heap[g]? ≠ some (.cells cs 3 (0, 0)) := by
  obtain ⟨cs, h1, h2, _⟩ := h
  intro cs' h'
  rw [h2] at h'
  injection h' with h'
  injection h' with _ h'
  exact hT h'
theorem VarAt.set {g n j : Nat} {T : TypeId} (h : VarAt w g n T) (x : Int) : VarAt (w.setCell ⟨g, j, none⟩ (.int .i64 x)) g n T := by
  obtain ⟨cs, h1, h2, h3⟩ := h
  exact ⟨cs.setIfInBounds j (.int .i64 x), by simpa using h1, by simp [World.setCell, Array.getElem?_modify, h2], h3.set j x⟩
theorem VarAt.leSet {g n j : Nat} {T : TypeId} (h : VarAt w g n T) (hT : T ≠ 3) (x : Int) : Le w (w.setCell ⟨g, j, none⟩ (.int .i64 x)) := Le.setCell w g j x (h.notInts hT)
theorem Le.set3 {g n i j k : Nat} {T : TypeId} {x y z : Int} (h : VarAt w g n T) (hT : T ≠ 3) : Le w (((w.setCell ⟨g, i, none⟩ (.int .i64 x)).setCell ⟨g, j, none⟩ (.int .i64 y)).setCell ⟨g, k, none⟩ (.int .i64 z)) :=
  ((h.leSet hT x).trans ((h.set x).leSet hT y)).trans (((h.set x).set y).leSet hT z)
theorem Le.set4 {g n i j k l : Nat} {T : TypeId} {x y z u : Int} (h : VarAt w g n T) (hT : T ≠ 3) : Le w ((((w.setCell ⟨g, i, none⟩ (.int .i64 x)).setCell ⟨g, j, none⟩ (.int .i64 y)).setCell ⟨g, k, none⟩ (.int .i64 z)).setCell ⟨g, l, none⟩ (.int .i64 u)) :=
  (Le.set3 h hT).trans ((((h.set x).set y).set z).leSet hT u)
theorem VarAt.lt {g n : Nat} {T : TypeId} (h : VarAt w g n T) : g < w.heap.size := by
  obtain ⟨cs, h1, h2, _⟩ := h
  exact (Array.getElem?_eq_some_iff.1 h2).1
theorem VarAt.only {g n : Nat} {T : TypeId} (h : VarAt w g n T) (ho : Only b w w') (hb : g ≠ b) : VarAt w' g n T := by
  obtain ⟨cs, h1, h2, h3⟩ := h
  exact ⟨cs, h1, (ho.block g (Array.getElem?_eq_some_iff.1 h2).1 (fun e => hb (by injection e))).trans h2, h3⟩
theorem VarAt.alloc {g n : Nat} {T : TypeId} (h : VarAt w g n T) (o : Obj) : VarAt (w.alloc o) g n T := h.le (Le.alloc w o)
theorem VarAt.setOther {g n c i : Nat} {T : TypeId} (h : VarAt w g n T) (hc : g ≠ c) (x : Value) : VarAt (w.setCell ⟨c, i, none⟩ x) g n T := by
  obtain ⟨cs, h1, h2, h3⟩ := h
  exact ⟨cs, h1, (Below.heap_setCell w ⟨c, i, none⟩ x g hc).trans h2, h3⟩
theorem allInts_of (xs : List Int) : AllInts (xs.map (Value.int .i64)).toArray := by
  intro v hv
  simp at hv
  obtain ⟨n, _, rfl⟩ := hv
  exact ⟨n, rfl⟩
end

theorem slot_eq {a : Act} {t : Nat} {v : Value} (h : a.eval (.tmp t) = v) : a.tmps[t]?.getD undef = v := by
  rw [← h]; simp [Act.eval]
theorem slot_of {a a0 : Act} {t : Nat} {v : Value} (h : a.eval (.tmp t) = a0.eval (.tmp t)) (hv : a0.eval (.tmp t) = v) : a.tmps[t]?.getD undef = v := slot_eq (h.trans hv)

/-- A frame as the list of its slots. -/
theorem act_lit (a : Act) {n : Nat} (h : a.tmps.size = n) : a = ⟨((List.range n).map fun t => a.eval (.tmp t)).toArray, a.defers⟩ := by
  subst h
  obtain ⟨⟨l⟩, d⟩ := a
  simp only [Act.mk.injEq, and_true]
  congr 1
  apply List.ext_getElem
  · simp
  · intro i h1 h2
    simp [Act.eval, Array.getD, h1]

end Go.Proofs.Ytpglfbjjmnaojaa
