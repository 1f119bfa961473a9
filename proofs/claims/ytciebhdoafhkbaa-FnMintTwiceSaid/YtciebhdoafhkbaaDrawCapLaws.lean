/- The draws of the laws on capabilities: whatever the code, capabilities or a number; nothing that lay before has turned. No condition. -/
import Derived.Test.YtciebhdoafhkbaaDrawKin
import Derived.Test.YtciebhdoafhkbaaDrawGen
namespace Go.Proofs.Ytciebhdoafhkbaa
open Go.RowKit
set_option linter.unusedVariables false

/-- What a draw of one capability, of two, of a capability and two numbers may give. -/
def DrawnCapB (w : World) (e : Ending) (w' : World) : Prop := ∃ k o r x : Int, e = .returned (.agg #[.int .i64 k, .int .i64 o, .int .i64 r, .int .i64 x]) ∧ Below w.heap.size w w'
def DrawnCapsB (w : World) (e : Ending) (w' : World) : Prop :=
  ∃ k o r x k' o' r' x' : Int, e = .returned (.tuple #[.agg #[.int .i64 k, .int .i64 o, .int .i64 r, .int .i64 x], .agg #[.int .i64 k', .int .i64 o', .int .i64 r', .int .i64 x']]) ∧ Below w.heap.size w w'
def DrawnMint (w : World) (e : Ending) (w' : World) : Prop :=
  ∃ k o r x i j : Int, e = .returned (.tuple #[.agg #[.int .i64 k, .int .i64 o, .int .i64 r, .int .i64 x], .int .i64 i, .int .i64 j]) ∧ Below w.heap.size w w'
/-- A number within the bounds of int. -/
def DrawnIntB (w : World) (e : Ending) (w' : World) : Prop := ∃ k : Int, e = .returned (.int .i64 k) ∧ k ≤ 9223372036854775807 ∧ Below w.heap.size w w'

theorem CapAt.var {w : World} {c : Nat} {k o r x : Int} (h : CapAt w c k o r x) : VarAt w c 4 25 := ⟨_, rfl, h, allInts_of [k, o, r, x]⟩
theorem CapAt.below' {w w' : World} {c B : Nat} {k o r x : Int} (h : CapAt w c k o r x) (hb : Below B w w') (hc : c < B) : CapAt w' c k o r x := (hb.block c hc).trans h

set_option maxHeartbeats 1000000 in
theorem drawPackCap (v : Value) (w : World) (h : BytesIn w v) : Calls Try.prog 29 #[v] w (DrawnCapB w) := by
  go_enter Try.func29, Try.ntmps29
  go_wp2_with fail
  refine (open_any _ _ (h.below ((Below.refl _ _).alloc (Nat.le_refl _) _))).mono ?_
  rintro e w1 ⟨b, rfl, hb, h1, hb1⟩
  have hR := (CapAt.new w 0 0 0 0).below' hb1 (by simp)
  have hB : Below w.heap.size w w1 := (((Below.refl _ w).alloc (Nat.le_refl _) _).trans (hb1.mono (by simp)))
  clear hb1
  go_wp2_with fail
  refine (cap_any _ _ _ _ (by omega) h1 (by omega)).mono ?_
  rintro e w2 ⟨k, o, r, x, rfl, h2, ho⟩
  have hb' : w.heap.size < b := by simp at hb; omega
  have hR2 := hR.only ho (by omega)
  obtain ⟨c0, c1, c2, c3⟩ := hR2.cells
  have f0 := hR2.free
  go_wp2_with fail
  refine bodyPost_ret (v := .agg #[.int .i64 k, .int .i64 o, .int .i64 r, .int .i64 x]) (by simp [results, Try.results29, go_sem, c0, c1, c2, c3]) rfl ⟨_, _, _, _, rfl, ?_⟩
  repeat (with_reducible first | exact ho.to_below hB (by omega) | refine below_set ?_ (by simp) _)

set_option maxHeartbeats 1000000 in
theorem drawCapValid (v : Value) (w : World) (h : BytesIn w v) : Calls Try.prog 27 #[v] w (DrawnCapB w) := by
  go_enter Try.func27, Try.ntmps27
  go_wp2_with fail
  refine (open_any _ _ (h.below ((Below.refl _ _).alloc (Nat.le_refl _) _))).mono ?_
  rintro e w1 ⟨b, rfl, hb, h1, hb1⟩
  have hR := (CapAt.new w 0 0 0 0).below' hb1 (by simp)
  have hB : Below w.heap.size w w1 := (((Below.refl _ w).alloc (Nat.le_refl _) _).trans (hb1.mono (by simp)))
  clear hb1
  have hb' : w.heap.size < b := by simp at hb; omega
  go_wp2_with fail
  refine (odd_any _ _ _ _ (by omega) h1 (by omega)).mono ?_
  rintro e w2 ⟨t, rfl, h2, ho2⟩
  have hR2 := hR.only ho2 (by omega)
  obtain ⟨c0, c1, c2, c3⟩ := hR2.cells
  have f0 := hR2.free
  cases t
  · clear c0 c1 c2 c3 f0
    go_wp2_with fail
    refine (cap_any _ _ _ _ (by omega) h2 (by omega)).mono ?_
    rintro e w3 ⟨k, o, r, x, rfl, h3, ho⟩
    have hR3 := hR2.only ho (by omega)
    obtain ⟨c0, c1, c2, c3⟩ := hR3.cells
    have f0 := hR3.free
    go_wp2_with fail
    refine bodyPost_ret (v := .agg #[.int .i64 k, .int .i64 o, .int .i64 r, .int .i64 x]) (by simp [results, Try.results27, go_sem, c0, c1, c2, c3]) rfl ⟨_, _, _, _, rfl, ?_⟩
    repeat (with_reducible first | exact (ho2.trans ho).to_below hB (by omega) | refine below_set ?_ (by simp) _)
  · go_wp2_with fail
    refine bodyPost_ret (v := .agg #[.int .i64 0, .int .i64 0, .int .i64 0, .int .i64 0]) (by simp [results, Try.results27, go_sem, c0, c1, c2, c3]) rfl ⟨_, _, _, _, rfl, ?_⟩
    repeat (with_reducible first | exact ho2.to_below hB (by omega) | refine below_set ?_ (by simp) _)

set_option maxHeartbeats 1000000 in
theorem drawCapWithin (v : Value) (w : World) (h : BytesIn w v) : Calls Try.prog 36 #[v] w (DrawnCapsB w) := by
  go_enter Try.func36, Try.ntmps36
  go_wp2_with fail
  refine (open_any _ _ (h.below (((Below.refl _ _).alloc (Nat.le_refl _) _).alloc (by simp) _))).mono ?_
  rintro e w1 ⟨b, rfl, hb, h1, hb1⟩
  have hR := ((CapAt.new w 0 0 0 0).alloc (.cells #[.int .i64 0, .int .i64 0, .int .i64 0, .int .i64 0] 25)).below' hb1 (by simp; omega)
  have hS := (CapAt.new (w.alloc (.cells #[.int .i64 0, .int .i64 0, .int .i64 0, .int .i64 0] 25)) 0 0 0 0).below' hb1 (by simp)
  have hB : Below w.heap.size w w1 := ((((Below.refl _ w).alloc (Nat.le_refl _) _).alloc (by simp) _).trans (hb1.mono (by simp; omega)))
  clear hb1
  rw [show (w.alloc (.cells #[.int .i64 0, .int .i64 0, .int .i64 0, .int .i64 0] 25)).heap.size = w.heap.size + 1 by simp] at hS
  have hb' : w.heap.size + 1 < b := by simp at hb; omega
  go_wp2_with fail
  refine (kin_any _ _ _ (by omega) h1).mono ?_
  rintro e w2 ⟨k, o, r, x, k', o', r', x', rfl, h2, ho⟩
  have hR2 := hR.only ho (by omega)
  have hS2 := hS.only ho (by omega)
  obtain ⟨c0, c1, c2, c3⟩ := hR2.cells
  obtain ⟨d0, d1, d2, d3⟩ := hS2.cells
  have f0 := hR2.free
  have g0 := hS2.free
  go_wp2_with fail
  refine bodyPost_ret (v := .tuple #[.agg #[.int .i64 k, .int .i64 o, .int .i64 r, .int .i64 x], .agg #[.int .i64 k', .int .i64 o', .int .i64 r', .int .i64 x']]) (by simp [results, Try.results36, go_sem, c0, c1, c2, c3, d0, d1, d2, d3]) rfl ⟨_, _, _, _, _, _, _, _, rfl, ?_⟩
  repeat (with_reducible first | exact ho.to_below hB (by omega) | refine below_set ?_ (by simp) _)

theorem capPack_bounds (k o r b : Int) : -1 ≤ capPack k o r b ∧ capPack k o r b ≤ 100000000 := by
  unfold capPack packN
  split
  · next h =>
    have := capOk_bounds h
    omega
  · omega

set_option maxHeartbeats 4000000 in
theorem drawUnpackCap (v : Value) (w : World) (h : BytesIn w v) : Calls Try.prog 32 #[v] w (DrawnIntB w) := by
  go_enter Try.func32, Try.ntmps32
  go_wp2_with fail
  refine (open_any _ _ h).mono ?_
  rintro e w1 ⟨b, rfl, hb, h1, hb1⟩
  go_wp2_with fail
  refine (cap_any _ _ _ _ (by omega) h1 (by omega)).mono ?_
  rintro e w2 ⟨k, o, r, x, rfl, h2, ho⟩
  go_wp2_with fail
  refine (spec_PackCap _ _ _ _ _).mono ?_
  rintro e w3 ⟨rfl, hb3⟩
  have hn := capPack_bounds k o r x
  generalize capPack k o r x = n at *
  have h3 := h2.below hb3
  have ho3 := ho.trans (.of_below hb3)
  clear hb3 ho h2 h1
  go_wp2_with fail
  refine (pick_any _ _ _ _ (by omega) h3).mono ?_
  rintro e w4 ⟨k4, rfl, hk4, hk4', h4, ho4⟩
  go_wp2_with fail
  refine (pick_any _ _ _ _ (by omega) h4).mono ?_
  rintro e w5 ⟨k5, rfl, hk5, hk5', h5, ho5⟩
  go_wp2_with fail
  refine (pick_any _ _ _ _ (by omega) ((h5.alloc _).alloc _)).mono ?_
  rintro e w6 ⟨k6, rfl, hk6, hk6', h6, ho6⟩
  have hb5 := h5.lt
  have A : IntsAt w6 w5.heap.size [n, n + 12800 * k4, k5 * 999, -1, 0, 9223372036854775807] := ((IntsAt.new w5 _).le (Le.alloc _ _)).only ho6 (by omega)
  have B : IntsAt w6 (w5.heap.size + 1) [0, 0, 1, 1, 2, 3, 4, 5] := by
    have := (IntsAt.new (w5.alloc (.cells #[.int .i64 n, .int .i64 (n + 12800 * k4), .int .i64 (k5 * 999), .int .i64 (-1), .int .i64 0, .int .i64 9223372036854775807] 3)) [0, 0, 1, 1, 2, 3, 4, 5]).only ho6 (by simp; omega)
    simpa using this
  have fin : Below w.heap.size w w6 := (((ho3.trans (ho4.trans ho5)).alloc _).alloc _ |>.trans ho6).to_below hb1 hb
  have x0 : w6.cell? ⟨w5.heap.size, 0, none⟩ = some (.int .i64 (n)) := A.cell (by simp)
  have x1 : w6.cell? ⟨w5.heap.size, 1, none⟩ = some (.int .i64 (n + 12800 * k4)) := A.cell (by simp)
  have x2 : w6.cell? ⟨w5.heap.size, 2, none⟩ = some (.int .i64 (k5 * 999)) := A.cell (by simp)
  have x3 : w6.cell? ⟨w5.heap.size, 3, none⟩ = some (.int .i64 (-1)) := A.cell (by simp)
  have x4 : w6.cell? ⟨w5.heap.size, 4, none⟩ = some (.int .i64 (0)) := A.cell (by simp)
  have x5 : w6.cell? ⟨w5.heap.size, 5, none⟩ = some (.int .i64 (9223372036854775807)) := A.cell (by simp)
  have y0 : w6.cell? ⟨w5.heap.size + 1, 0, none⟩ = some (.int .i64 (0)) := B.cell (by simp)
  have y1 : w6.cell? ⟨w5.heap.size + 1, 1, none⟩ = some (.int .i64 (0)) := B.cell (by simp)
  have y2 : w6.cell? ⟨w5.heap.size + 1, 2, none⟩ = some (.int .i64 (1)) := B.cell (by simp)
  have y3 : w6.cell? ⟨w5.heap.size + 1, 3, none⟩ = some (.int .i64 (1)) := B.cell (by simp)
  have y4 : w6.cell? ⟨w5.heap.size + 1, 4, none⟩ = some (.int .i64 (2)) := B.cell (by simp)
  have y5 : w6.cell? ⟨w5.heap.size + 1, 5, none⟩ = some (.int .i64 (3)) := B.cell (by simp)
  have y6 : w6.cell? ⟨w5.heap.size + 1, 6, none⟩ = some (.int .i64 (4)) := B.cell (by simp)
  have y7 : w6.cell? ⟨w5.heap.size + 1, 7, none⟩ = some (.int .i64 (5)) := B.cell (by simp)
  have hk : k6 = 0 ∨ k6 = 1 ∨ k6 = 2 ∨ k6 = 3 ∨ k6 = 4 ∨ k6 = 5 ∨ k6 = 6 ∨ k6 = 7 := by omega
  clear A B
  rcases hk with rfl | rfl | rfl | rfl | rfl | rfl | rfl | rfl
  all_goals
    go_wp2_with fail
    go_ret
    exact ⟨_, rfl, by omega, fin⟩

end Go.Proofs.Ytciebhdoafhkbaa
