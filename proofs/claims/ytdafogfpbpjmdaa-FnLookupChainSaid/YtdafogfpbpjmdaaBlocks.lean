/- Blocks of integers, and capabilities as arguments. No condition beyond those written. -/
import Derived.Test.YtdafogfpbpjmdaaBase
import Derived.Lib.SmallJoins
namespace Go.Proofs.Ytdafogfpbpjmdaa
open Go.ChangeShapes Go.WideShapes Go.ChangeAt Go.RowKit
set_option linter.unusedVariables false

theorem quiet_left {P : Program} {f : FuncId} {args : Array Value} {w : World} {n : Nat} {v : Value}
    (h : Calls P f args (w.drewN n) fun e w' => e = .returned v ∧ w.drewN n = w') : Calls P f args (w.drewN n) fun e w'' => e = .returned v ∧ ∃ m, w'' = w.drewN m :=
  h.mono fun _ _ ⟨he, hm⟩ => ⟨he, n, hm.symm⟩

/-- Block c holds the integers xs, at type T. -/
def IAt (w : World) (c : Nat) (T : TypeId) (xs : List Int) : Prop := w.heap[c]? = some (.cells (xs.map (Value.int .i64)).toArray T (0, 0))
section
variable {w w' : World} {c B : Nat} {T : TypeId} {xs : List Int} {x y z u s t : Int}
theorem IAt.new (w : World) (T : TypeId) (xs : List Int) : IAt (w.alloc (.cells (xs.map (Value.int .i64)).toArray T)) w.heap.size T xs := heap_alloc_new w _
theorem IAt.lt (h : IAt w c T xs) : c < w.heap.size := (Array.getElem?_eq_some_iff.1 h).1
theorem IAt.below (h : IAt w c T xs) (hb : Below B w w') (hc : c < B) : IAt w' c T xs := (hb.block c hc).trans h
theorem IAt.belowSelf (h : IAt w c T xs) (hb : Below w.heap.size w w') : IAt w' c T xs := h.below hb h.lt
theorem IAt.alloc (h : IAt w c T xs) (o : Obj) : IAt (w.alloc o) c T xs := (Below.heap_alloc w o c h.lt).trans h
theorem IAt.cell {i : Nat} (h : IAt w c T xs) (hi : i < xs.length) : w.cell? ⟨c, i, none⟩ = some (.int .i64 xs[i]) := by
  unfold IAt at h
  simp [World.cell?, h, hi]
theorem IAt.free (h : IAt w c T xs) (i : Nat) : w.frozen? ⟨c, i, none⟩ = false := by
  unfold IAt at h
  simp [World.frozen?, h]
theorem IAt.cells3 (h : IAt w c T [x, y, z]) : w.cell? ⟨c, 0, none⟩ = some (.int .i64 x) ∧ w.cell? ⟨c, 1, none⟩ = some (.int .i64 y) ∧ w.cell? ⟨c, 2, none⟩ = some (.int .i64 z) :=
  ⟨h.cell (i := 0) (by simp), h.cell (i := 1) (by simp), h.cell (i := 2) (by simp)⟩
theorem IAt.cells4 (h : IAt w c T [x, y, z, u]) : w.cell? ⟨c, 0, none⟩ = some (.int .i64 x) ∧ w.cell? ⟨c, 1, none⟩ = some (.int .i64 y) ∧ w.cell? ⟨c, 2, none⟩ = some (.int .i64 z) ∧ w.cell? ⟨c, 3, none⟩ = some (.int .i64 u) :=
  ⟨h.cell (i := 0) (by simp), h.cell (i := 1) (by simp), h.cell (i := 2) (by simp), h.cell (i := 3) (by simp)⟩
theorem below_next {w u v : World} (h : Below w.heap.size w u) (h' : Below u.heap.size u v) : Below w.heap.size w v := h.trans (h'.mono h.size)
end

/-- A capability as an argument. -/
def CapIn (w : World) (v : Value) : Prop := ∃ k o r b : Int, v = .agg #[.int .i64 k, .int .i64 o, .int .i64 r, .int .i64 b]
theorem open_cap {H : Type} {enc : TypeId × Value → H} {w : World} {v : Value} {d : DataW H} {p : List MemPlace} (hv : Value.okWide Try.prog w .any 0 48 v) (h : DataW.Trod enc Try.prog w 0 (fun _ => true) true 48 v d p) : CapIn w v := by
  obtain ⟨c0, c1, c2, c3, y0, y1, y2, y3, m, rfl, rfl, rfl, hy0, hy1, hy2, hy3⟩ := Go.Joins.open_agg4 Try.underlying48 (by kernel_rfl) (by kernel_rfl) hv h
  obtain ⟨n0, h0, _, _⟩ := DataW.trod_int Try.underlying3 hy0
  obtain ⟨n1, h1, _, _⟩ := DataW.trod_int Try.underlying3 hy1
  obtain ⟨n2, h2, _, _⟩ := DataW.trod_int Try.underlying3 hy2
  obtain ⟨n3, h3, _, _⟩ := DataW.trod_int Try.underlying3 hy3
  simp at h0 h1 h2 h3
  subst h0 h1 h2 h3
  exact ⟨_, _, _, _, rfl⟩

end Go.Proofs.Ytdafogfpbpjmdaa
