/- The draws of capabilities: whatever the code, some capability comes back; nothing that lay before has turned. No condition. -/
import Derived.Test.YtdafogfpbpjmdaaDrawRights
import Derived.Test.YtdafogfpbpjmdaaMint2
namespace Go.Proofs.Ytdafogfpbpjmdaa
open Go.RowKit
set_option linter.unusedVariables false

/-- Block c holds a capability. -/
def CapAt (w : World) (c : Nat) (k o r b : Int) : Prop := w.heap[c]? = some (.cells #[.int .i64 k, .int .i64 o, .int .i64 r, .int .i64 b] 41 (0, 0))

section
variable {w w' : World} {c b : Nat} {k o r x : Int}
theorem CapAt.lt (h : CapAt w c k o r x) : c < w.heap.size := (Array.getElem?_eq_some_iff.1 h).1
theorem CapAt.cells (h : CapAt w c k o r x) : w.cell? ⟨c, 0, none⟩ = some (.int .i64 k) ∧ w.cell? ⟨c, 1, none⟩ = some (.int .i64 o) ∧ w.cell? ⟨c, 2, none⟩ = some (.int .i64 r) ∧ w.cell? ⟨c, 3, none⟩ = some (.int .i64 x) := by
  unfold CapAt at h
  simp [World.cell?, h]
theorem CapAt.free (h : CapAt w c k o r x) (i : Nat) : w.frozen? ⟨c, i, none⟩ = false := by
  unfold CapAt at h
  simp [World.frozen?, h]
theorem CapAt.only (h : CapAt w c k o r x) (ho : Only b w w') (hb : c ≠ b) : CapAt w' c k o r x := (ho.block c h.lt (fun e => hb (by injection e))).trans h
theorem CapAt.alloc (h : CapAt w c k o r x) (y : Obj) : CapAt (w.alloc y) c k o r x := (Below.heap_alloc w y c h.lt).trans h
theorem CapAt.new (w : World) (k o r x : Int) : CapAt (w.alloc (.cells #[.int .i64 k, .int .i64 o, .int .i64 r, .int .i64 x] 41)) w.heap.size k o r x := heap_alloc_new w _
end

theorem Rd.setOther {w : World} {b c i m : Nat} (h : Rd w b m) (hp : b < c) (x : Value) : Rd (w.setCell ⟨c, i, none⟩ x) b m := h.keep fun k hk => Below.heap_setCell w ⟨c, i, none⟩ x k (by show k ≠ c; omega)
theorem CapAt.setOther {w : World} {c c' i : Nat} {k o r x : Int} (h : CapAt w c k o r x) (hp : c ≠ c') (y : Value) : CapAt (w.setCell ⟨c', i, none⟩ y) c k o r x := (Below.heap_setCell w ⟨c', i, none⟩ y c hp).trans h
theorem CapAt.set3 {w : World} {c : Nat} {k o r x : Int} (h : CapAt w c k o r x) (y : Int) : CapAt (w.setCell ⟨c, 3, none⟩ (.int .i64 y)) c k o r y := by
  unfold CapAt at h ⊢
  simp [World.setCell, Array.getElem?_modify, h]

/-- A capability that a draw may give. -/
def DrawnCap (b m : Nat) (w : World) (e : Ending) (w' : World) : Prop := ∃ k o r x : Int, e = .returned (.agg #[.int .i64 k, .int .i64 o, .int .i64 r, .int .i64 x]) ∧ Rd w' b m ∧ Only b w w'

set_option maxHeartbeats 2000000 in
theorem cap_any (n : Int) (b m : Nat) (w : World) (hm : m ≤ 800000000) (h : Rd w b m) (hn : n ≤ 1000000) :
    Calls Try.prog 68 #[.pointer (some ⟨b, 0, none⟩), .int .i64 n] w (DrawnCap b (m + 20) w) := by
  have hb := h.lt
  go_enter Try.func68, Try.ntmps68
  go_wp2_with fail
  refine (pick_any _ _ _ _ (by omega) (h.alloc _)).mono ?_
  rintro e w1 ⟨k1, rfl, a1, b1, h1, o1⟩
  have e1 := o1.cell w.heap.size
  go_wp2_with fail
  refine (pick_any _ _ _ _ (by omega) h1).mono ?_
  rintro e w2 ⟨k2, rfl, a2, b2, h2, o2⟩
  go_wp2_with fail
  refine (rights_any _ _ _ _ (by omega) h2 (by omega)).mono ?_
  rintro e w3 ⟨k3, rfl, _, _, h3, o3⟩
  go_wp2_with fail
  refine (spec_badged _ _).mono ?_
  rintro e w' ⟨rfl, rfl⟩
  have hbR := hb
  have hlt3 : w.heap.size < w3.heap.size := by have := o1.size; have := o2.size; have := o3.size; simp at *; omega
  have hR : CapAt w3 w.heap.size 0 0 0 0 := (((CapAt.new w 0 0 0 0).only o1 (by omega)).only o2 (by omega)).only o3 (by omega)
  have hO : Only b w w3 := ((Only.refl b w).alloc _).trans (o1.trans (o2.trans o3))
  have hC := CapAt.new w3 (1 + k1) k2 k3 0
  have hR1 := hR.alloc (.cells #[.int .i64 (1 + k1), .int .i64 k2, .int .i64 k3, .int .i64 0] 41)
  have hO1 := hO.alloc (.cells #[.int .i64 (1 + k1), .int .i64 k2, .int .i64 k3, .int .i64 0] 41)
  have hRd := h3.alloc (.cells #[.int .i64 (1 + k1), .int .i64 k2, .int .i64 k3, .int .i64 0] 41)
  have hb3 := h3.lt
  clear e1 h1 h2 h3 o1 o2 o3 hR hO h
  have hlc := hC.lt
  cases hbg : badgedB (1 + k1)
  · go_wp2_with fail
    generalize w3.alloc (.cells #[.int .i64 (1 + k1), .int .i64 k2, .int .i64 k3, .int .i64 0] 41) = W at *
    generalize w3.heap.size = c at *
    refine (odd_any _ _ _ _ (by omega) hRd hn).mono ?_
    rintro e W1 ⟨q, rfl, hRd1, q1⟩
    have hO2 := hO1.trans q1
    have hC2 := hC.only q1 (by omega)
    have hR2 := hR1.only q1 (by omega)
    obtain ⟨c0, c1, c2, c3⟩ := hC2.cells
    have f0 := hC2.free
    obtain ⟨g0, g1, g2, g3⟩ := hR2.cells
    have d0 := hR2.free
    have lc := hC2.lt
    cases q
    · go_wp2_with fail
      refine bodyPost_ret (v := .agg #[.int .i64 (1 + k1), .int .i64 (k2), .int .i64 (k3), .int .i64 (0)]) (by simp [results, Try.results68, go_sem, g0, g1, g2, g3]) rfl ⟨_, _, _, _, rfl, (((((hRd1.more (by omega)).setOther hbR _).setOther hbR _).setOther hbR _).setOther hbR _), (((((hO2).setNew (Nat.le_refl _) _).setNew (Nat.le_refl _) _).setNew (Nat.le_refl _) _).setNew (Nat.le_refl _) _)⟩
    · clear c0 c1 c2 c3 f0 g0 g1 g2 g3 d0
      go_wp2_with fail
      refine (pick_any _ _ _ _ (by omega) hRd1).mono ?_
      rintro e W2 ⟨k5, rfl, a5, b5, hRd2, q2⟩
      have hO3 := hO2.trans q2
      have hC3 := hC2.only q2 (by omega)
      have hR3 := hR2.only q2 (by omega)
      obtain ⟨c0, c1, c2, c3⟩ := hC3.cells
      have f0 := hC3.free
      obtain ⟨g0, g1, g2, g3⟩ := hR3.cells
      have d0 := hR3.free
      have lc3 := hC3.lt
      clear hRd hRd1 q1 q2 hO1 hO2 hC hC2 hR1 hR2
      have hk5 : k5 = 0 ∨ k5 = 1 ∨ k5 = 2 ∨ k5 = 3 ∨ k5 = 4 := by omega
      rcases hk5 with rfl | rfl | rfl | rfl | rfl
      · clear c0 c1 c2 c3 f0 g0 g1 g2 g3 d0
        go_wp2_with fail
        refine (pick_any _ _ _ _ (by omega) (hRd2.alloc _)).mono ?_
        rintro e W4 ⟨k6, rfl, a6, b6, hRd4, q4⟩
        have hC4 := (hC3.alloc _).only q4 (by omega)
        have hR4 := (hR3.alloc _).only q4 (by omega)
        have hO4 := (hO3.alloc _).trans q4
        obtain ⟨c0, c1, c2, c3⟩ := hC4.cells
        have f0 := hC4.free
        obtain ⟨g0, g1, g2, g3⟩ := hR4.cells
        have d0 := hR4.free
        have x0 := q4.cell W2.heap.size 0 (by simp) (by have := hRd2.lt; omega)
        have x1 := q4.cell W2.heap.size 1 (by simp) (by have := hRd2.lt; omega)
        have x2 := q4.cell W2.heap.size 2 (by simp) (by have := hRd2.lt; omega)
        have hk6 : k6 = 0 ∨ k6 = 1 ∨ k6 = 2 := by omega
        rcases hk6 with rfl | rfl | rfl
        · go_wp2_with fail
          refine bodyPost_ret (v := .agg #[.int .i64 (-1), .int .i64 (k2), .int .i64 (k3), .int .i64 (0)]) (by simp [results, Try.results68, go_sem, g0, g1, g2, g3]) rfl ⟨_, _, _, _, rfl, ((((((hRd4.setOther (by omega) _).more (by omega)).setOther hbR _).setOther hbR _).setOther hbR _).setOther hbR _), (((((hO4.setNew (by omega) _).setNew (Nat.le_refl _) _).setNew (Nat.le_refl _) _).setNew (Nat.le_refl _) _).setNew (Nat.le_refl _) _)⟩
        · go_wp2_with fail
          refine bodyPost_ret (v := .agg #[.int .i64 (8), .int .i64 (k2), .int .i64 (k3), .int .i64 (0)]) (by simp [results, Try.results68, go_sem, g0, g1, g2, g3]) rfl ⟨_, _, _, _, rfl, ((((((hRd4.setOther (by omega) _).more (by omega)).setOther hbR _).setOther hbR _).setOther hbR _).setOther hbR _), (((((hO4.setNew (by omega) _).setNew (Nat.le_refl _) _).setNew (Nat.le_refl _) _).setNew (Nat.le_refl _) _).setNew (Nat.le_refl _) _)⟩
        · go_wp2_with fail
          refine bodyPost_ret (v := .agg #[.int .i64 (0), .int .i64 (k2), .int .i64 (k3), .int .i64 (0)]) (by simp [results, Try.results68, go_sem, g0, g1, g2, g3]) rfl ⟨_, _, _, _, rfl, ((((((hRd4.setOther (by omega) _).more (by omega)).setOther hbR _).setOther hbR _).setOther hbR _).setOther hbR _), (((((hO4.setNew (by omega) _).setNew (Nat.le_refl _) _).setNew (Nat.le_refl _) _).setNew (Nat.le_refl _) _).setNew (Nat.le_refl _) _)⟩
      · clear c0 c1 c2 c3 f0 g0 g1 g2 g3 d0
        go_wp2_with fail
        refine (pick_any _ _ _ _ (by omega) (hRd2.alloc _)).mono ?_
        rintro e W4 ⟨k6, rfl, a6, b6, hRd4, q4⟩
        have hC4 := (hC3.alloc _).only q4 (by omega)
        have hR4 := (hR3.alloc _).only q4 (by omega)
        have hO4 := (hO3.alloc _).trans q4
        obtain ⟨c0, c1, c2, c3⟩ := hC4.cells
        have f0 := hC4.free
        obtain ⟨g0, g1, g2, g3⟩ := hR4.cells
        have d0 := hR4.free
        have x0 := q4.cell W2.heap.size 0 (by simp) (by have := hRd2.lt; omega)
        have x1 := q4.cell W2.heap.size 1 (by simp) (by have := hRd2.lt; omega)
        have hk6 : k6 = 0 ∨ k6 = 1 := by omega
        rcases hk6 with rfl | rfl
        · go_wp2_with fail
          refine bodyPost_ret (v := .agg #[.int .i64 (1 + k1), .int .i64 (-1), .int .i64 (k3), .int .i64 (0)]) (by simp [results, Try.results68, go_sem, g0, g1, g2, g3]) rfl ⟨_, _, _, _, rfl, ((((((hRd4.setOther (by omega) _).more (by omega)).setOther hbR _).setOther hbR _).setOther hbR _).setOther hbR _), (((((hO4.setNew (by omega) _).setNew (Nat.le_refl _) _).setNew (Nat.le_refl _) _).setNew (Nat.le_refl _) _).setNew (Nat.le_refl _) _)⟩
        · go_wp2_with fail
          refine bodyPost_ret (v := .agg #[.int .i64 (1 + k1), .int .i64 (100), .int .i64 (k3), .int .i64 (0)]) (by simp [results, Try.results68, go_sem, g0, g1, g2, g3]) rfl ⟨_, _, _, _, rfl, ((((((hRd4.setOther (by omega) _).more (by omega)).setOther hbR _).setOther hbR _).setOther hbR _).setOther hbR _), (((((hO4.setNew (by omega) _).setNew (Nat.le_refl _) _).setNew (Nat.le_refl _) _).setNew (Nat.le_refl _) _).setNew (Nat.le_refl _) _)⟩
      · go_wp2_with fail
        refine bodyPost_ret (v := .agg #[.int .i64 (1 + k1), .int .i64 (k2), .int .i64 (16), .int .i64 (0)]) (by simp [results, Try.results68, go_sem, g0, g1, g2, g3]) rfl ⟨_, _, _, _, rfl, ((((((hRd2.setOther (by omega) _).more (by omega)).setOther hbR _).setOther hbR _).setOther hbR _).setOther hbR _), (((((hO3.setNew (by omega) _).setNew (Nat.le_refl _) _).setNew (Nat.le_refl _) _).setNew (Nat.le_refl _) _).setNew (Nat.le_refl _) _)⟩
      · clear c0 c1 c2 c3 f0 g0 g1 g2 g3 d0
        go_wp2_with fail
        refine (pick_any _ _ _ _ (by omega) (hRd2.alloc _)).mono ?_
        rintro e W4 ⟨k6, rfl, a6, b6, hRd4, q4⟩
        have hC4 := (hC3.alloc _).only q4 (by omega)
        have hR4 := (hR3.alloc _).only q4 (by omega)
        have hO4 := (hO3.alloc _).trans q4
        obtain ⟨c0, c1, c2, c3⟩ := hC4.cells
        have f0 := hC4.free
        obtain ⟨g0, g1, g2, g3⟩ := hR4.cells
        have d0 := hR4.free
        have x0 := q4.cell W2.heap.size 0 (by simp) (by have := hRd2.lt; omega)
        have x1 := q4.cell W2.heap.size 1 (by simp) (by have := hRd2.lt; omega)
        have hk6 : k6 = 0 ∨ k6 = 1 := by omega
        rcases hk6 with rfl | rfl
        · go_wp2_with fail
          refine bodyPost_ret (v := .agg #[.int .i64 (1 + k1), .int .i64 (k2), .int .i64 (k3), .int .i64 (-1)]) (by simp [results, Try.results68, go_sem, g0, g1, g2, g3]) rfl ⟨_, _, _, _, rfl, ((((((hRd4.setOther (by omega) _).more (by omega)).setOther hbR _).setOther hbR _).setOther hbR _).setOther hbR _), (((((hO4.setNew (by omega) _).setNew (Nat.le_refl _) _).setNew (Nat.le_refl _) _).setNew (Nat.le_refl _) _).setNew (Nat.le_refl _) _)⟩
        · go_wp2_with fail
          refine bodyPost_ret (v := .agg #[.int .i64 (1 + k1), .int .i64 (k2), .int .i64 (k3), .int .i64 (1000)]) (by simp [results, Try.results68, go_sem, g0, g1, g2, g3]) rfl ⟨_, _, _, _, rfl, ((((((hRd4.setOther (by omega) _).more (by omega)).setOther hbR _).setOther hbR _).setOther hbR _).setOther hbR _), (((((hO4.setNew (by omega) _).setNew (Nat.le_refl _) _).setNew (Nat.le_refl _) _).setNew (Nat.le_refl _) _).setNew (Nat.le_refl _) _)⟩
      · go_wp2_with fail
        refine bodyPost_ret (v := .agg #[.int .i64 (6), .int .i64 (0), .int .i64 (0), .int .i64 (1)]) (by simp [results, Try.results68, go_sem, g0, g1, g2, g3]) rfl ⟨_, _, _, _, rfl, (((((((((hRd2.setOther (by omega) _).setOther (by omega) _).setOther (by omega) _).setOther (by omega) _).more (by omega)).setOther hbR _).setOther hbR _).setOther hbR _).setOther hbR _), (((((((((hO3.setNew (by omega) _).setNew (by omega) _).setNew (by omega) _).setNew (by omega) _)).setNew (Nat.le_refl _) _).setNew (Nat.le_refl _) _).setNew (Nat.le_refl _) _).setNew (Nat.le_refl _) _)⟩
  · go_wp2_with fail
    generalize w3.alloc (.cells #[.int .i64 (1 + k1), .int .i64 k2, .int .i64 k3, .int .i64 0] 41) = W5 at *
    generalize w3.heap.size = c at *
    refine (pick_any _ _ _ _ (by omega) hRd).mono ?_
    rintro e W ⟨kb, rfl, ab, bb, hRd5, q5⟩
    have hO5 := hO1.trans q5
    have hC5 := hC.only q5 (by omega)
    have hR5 := hR1.only q5 (by omega)
    clear hRd hO1 hC hR1 q5
    cases hkb : (kb == 0)
    · have hRd := hRd5
      have hO1 := hO5
      have hC := hC5
      have hR1 := hR5
      clear hRd5 hO5 hC5 hR5
      go_wp2_with fail
      refine (odd_any _ _ _ _ (by omega) hRd hn).mono ?_
      rintro e W1 ⟨q, rfl, hRd1, q1⟩
      have hO2 := hO1.trans q1
      have hC2 := hC.only q1 (by omega)
      have hR2 := hR1.only q1 (by omega)
      obtain ⟨c0, c1, c2, c3⟩ := hC2.cells
      have f0 := hC2.free
      obtain ⟨g0, g1, g2, g3⟩ := hR2.cells
      have d0 := hR2.free
      have lc := hC2.lt
      cases q
      · go_wp2_with fail
        refine bodyPost_ret (v := .agg #[.int .i64 (1 + k1), .int .i64 (k2), .int .i64 (k3), .int .i64 (0)]) (by simp [results, Try.results68, go_sem, g0, g1, g2, g3]) rfl ⟨_, _, _, _, rfl, (((((hRd1.more (by omega)).setOther hbR _).setOther hbR _).setOther hbR _).setOther hbR _), (((((hO2).setNew (Nat.le_refl _) _).setNew (Nat.le_refl _) _).setNew (Nat.le_refl _) _).setNew (Nat.le_refl _) _)⟩
      · clear c0 c1 c2 c3 f0 g0 g1 g2 g3 d0
        go_wp2_with fail
        refine (pick_any _ _ _ _ (by omega) hRd1).mono ?_
        rintro e W2 ⟨k5, rfl, a5, b5, hRd2, q2⟩
        have hO3 := hO2.trans q2
        have hC3 := hC2.only q2 (by omega)
        have hR3 := hR2.only q2 (by omega)
        obtain ⟨c0, c1, c2, c3⟩ := hC3.cells
        have f0 := hC3.free
        obtain ⟨g0, g1, g2, g3⟩ := hR3.cells
        have d0 := hR3.free
        have lc3 := hC3.lt
        clear hRd hRd1 q1 q2 hO1 hO2 hC hC2 hR1 hR2
        have hk5 : k5 = 0 ∨ k5 = 1 ∨ k5 = 2 ∨ k5 = 3 ∨ k5 = 4 := by omega
        rcases hk5 with rfl | rfl | rfl | rfl | rfl
        · clear c0 c1 c2 c3 f0 g0 g1 g2 g3 d0
          go_wp2_with fail
          refine (pick_any _ _ _ _ (by omega) (hRd2.alloc _)).mono ?_
          rintro e W4 ⟨k6, rfl, a6, b6, hRd4, q4⟩
          have hC4 := (hC3.alloc _).only q4 (by omega)
          have hR4 := (hR3.alloc _).only q4 (by omega)
          have hO4 := (hO3.alloc _).trans q4
          obtain ⟨c0, c1, c2, c3⟩ := hC4.cells
          have f0 := hC4.free
          obtain ⟨g0, g1, g2, g3⟩ := hR4.cells
          have d0 := hR4.free
          have x0 := q4.cell W2.heap.size 0 (by simp) (by have := hRd2.lt; omega)
          have x1 := q4.cell W2.heap.size 1 (by simp) (by have := hRd2.lt; omega)
          have x2 := q4.cell W2.heap.size 2 (by simp) (by have := hRd2.lt; omega)
          have hk6 : k6 = 0 ∨ k6 = 1 ∨ k6 = 2 := by omega
          rcases hk6 with rfl | rfl | rfl
          · go_wp2_with fail
            refine bodyPost_ret (v := .agg #[.int .i64 (-1), .int .i64 (k2), .int .i64 (k3), .int .i64 (0)]) (by simp [results, Try.results68, go_sem, g0, g1, g2, g3]) rfl ⟨_, _, _, _, rfl, ((((((hRd4.setOther (by omega) _).more (by omega)).setOther hbR _).setOther hbR _).setOther hbR _).setOther hbR _), (((((hO4.setNew (by omega) _).setNew (Nat.le_refl _) _).setNew (Nat.le_refl _) _).setNew (Nat.le_refl _) _).setNew (Nat.le_refl _) _)⟩
          · go_wp2_with fail
            refine bodyPost_ret (v := .agg #[.int .i64 (8), .int .i64 (k2), .int .i64 (k3), .int .i64 (0)]) (by simp [results, Try.results68, go_sem, g0, g1, g2, g3]) rfl ⟨_, _, _, _, rfl, ((((((hRd4.setOther (by omega) _).more (by omega)).setOther hbR _).setOther hbR _).setOther hbR _).setOther hbR _), (((((hO4.setNew (by omega) _).setNew (Nat.le_refl _) _).setNew (Nat.le_refl _) _).setNew (Nat.le_refl _) _).setNew (Nat.le_refl _) _)⟩
          · go_wp2_with fail
            refine bodyPost_ret (v := .agg #[.int .i64 (0), .int .i64 (k2), .int .i64 (k3), .int .i64 (0)]) (by simp [results, Try.results68, go_sem, g0, g1, g2, g3]) rfl ⟨_, _, _, _, rfl, ((((((hRd4.setOther (by omega) _).more (by omega)).setOther hbR _).setOther hbR _).setOther hbR _).setOther hbR _), (((((hO4.setNew (by omega) _).setNew (Nat.le_refl _) _).setNew (Nat.le_refl _) _).setNew (Nat.le_refl _) _).setNew (Nat.le_refl _) _)⟩
        · clear c0 c1 c2 c3 f0 g0 g1 g2 g3 d0
          go_wp2_with fail
          refine (pick_any _ _ _ _ (by omega) (hRd2.alloc _)).mono ?_
          rintro e W4 ⟨k6, rfl, a6, b6, hRd4, q4⟩
          have hC4 := (hC3.alloc _).only q4 (by omega)
          have hR4 := (hR3.alloc _).only q4 (by omega)
          have hO4 := (hO3.alloc _).trans q4
          obtain ⟨c0, c1, c2, c3⟩ := hC4.cells
          have f0 := hC4.free
          obtain ⟨g0, g1, g2, g3⟩ := hR4.cells
          have d0 := hR4.free
          have x0 := q4.cell W2.heap.size 0 (by simp) (by have := hRd2.lt; omega)
          have x1 := q4.cell W2.heap.size 1 (by simp) (by have := hRd2.lt; omega)
          have hk6 : k6 = 0 ∨ k6 = 1 := by omega
          rcases hk6 with rfl | rfl
          · go_wp2_with fail
            refine bodyPost_ret (v := .agg #[.int .i64 (1 + k1), .int .i64 (-1), .int .i64 (k3), .int .i64 (0)]) (by simp [results, Try.results68, go_sem, g0, g1, g2, g3]) rfl ⟨_, _, _, _, rfl, ((((((hRd4.setOther (by omega) _).more (by omega)).setOther hbR _).setOther hbR _).setOther hbR _).setOther hbR _), (((((hO4.setNew (by omega) _).setNew (Nat.le_refl _) _).setNew (Nat.le_refl _) _).setNew (Nat.le_refl _) _).setNew (Nat.le_refl _) _)⟩
          · go_wp2_with fail
            refine bodyPost_ret (v := .agg #[.int .i64 (1 + k1), .int .i64 (100), .int .i64 (k3), .int .i64 (0)]) (by simp [results, Try.results68, go_sem, g0, g1, g2, g3]) rfl ⟨_, _, _, _, rfl, ((((((hRd4.setOther (by omega) _).more (by omega)).setOther hbR _).setOther hbR _).setOther hbR _).setOther hbR _), (((((hO4.setNew (by omega) _).setNew (Nat.le_refl _) _).setNew (Nat.le_refl _) _).setNew (Nat.le_refl _) _).setNew (Nat.le_refl _) _)⟩
        · go_wp2_with fail
          refine bodyPost_ret (v := .agg #[.int .i64 (1 + k1), .int .i64 (k2), .int .i64 (16), .int .i64 (0)]) (by simp [results, Try.results68, go_sem, g0, g1, g2, g3]) rfl ⟨_, _, _, _, rfl, ((((((hRd2.setOther (by omega) _).more (by omega)).setOther hbR _).setOther hbR _).setOther hbR _).setOther hbR _), (((((hO3.setNew (by omega) _).setNew (Nat.le_refl _) _).setNew (Nat.le_refl _) _).setNew (Nat.le_refl _) _).setNew (Nat.le_refl _) _)⟩
        · clear c0 c1 c2 c3 f0 g0 g1 g2 g3 d0
          go_wp2_with fail
          refine (pick_any _ _ _ _ (by omega) (hRd2.alloc _)).mono ?_
          rintro e W4 ⟨k6, rfl, a6, b6, hRd4, q4⟩
          have hC4 := (hC3.alloc _).only q4 (by omega)
          have hR4 := (hR3.alloc _).only q4 (by omega)
          have hO4 := (hO3.alloc _).trans q4
          obtain ⟨c0, c1, c2, c3⟩ := hC4.cells
          have f0 := hC4.free
          obtain ⟨g0, g1, g2, g3⟩ := hR4.cells
          have d0 := hR4.free
          have x0 := q4.cell W2.heap.size 0 (by simp) (by have := hRd2.lt; omega)
          have x1 := q4.cell W2.heap.size 1 (by simp) (by have := hRd2.lt; omega)
          have hk6 : k6 = 0 ∨ k6 = 1 := by omega
          rcases hk6 with rfl | rfl
          · go_wp2_with fail
            refine bodyPost_ret (v := .agg #[.int .i64 (1 + k1), .int .i64 (k2), .int .i64 (k3), .int .i64 (-1)]) (by simp [results, Try.results68, go_sem, g0, g1, g2, g3]) rfl ⟨_, _, _, _, rfl, ((((((hRd4.setOther (by omega) _).more (by omega)).setOther hbR _).setOther hbR _).setOther hbR _).setOther hbR _), (((((hO4.setNew (by omega) _).setNew (Nat.le_refl _) _).setNew (Nat.le_refl _) _).setNew (Nat.le_refl _) _).setNew (Nat.le_refl _) _)⟩
          · go_wp2_with fail
            refine bodyPost_ret (v := .agg #[.int .i64 (1 + k1), .int .i64 (k2), .int .i64 (k3), .int .i64 (1000)]) (by simp [results, Try.results68, go_sem, g0, g1, g2, g3]) rfl ⟨_, _, _, _, rfl, ((((((hRd4.setOther (by omega) _).more (by omega)).setOther hbR _).setOther hbR _).setOther hbR _).setOther hbR _), (((((hO4.setNew (by omega) _).setNew (Nat.le_refl _) _).setNew (Nat.le_refl _) _).setNew (Nat.le_refl _) _).setNew (Nat.le_refl _) _)⟩
        · go_wp2_with fail
          refine bodyPost_ret (v := .agg #[.int .i64 (6), .int .i64 (0), .int .i64 (0), .int .i64 (1)]) (by simp [results, Try.results68, go_sem, g0, g1, g2, g3]) rfl ⟨_, _, _, _, rfl, (((((((((hRd2.setOther (by omega) _).setOther (by omega) _).setOther (by omega) _).setOther (by omega) _).more (by omega)).setOther hbR _).setOther hbR _).setOther hbR _).setOther hbR _), (((((((((hO3.setNew (by omega) _).setNew (by omega) _).setNew (by omega) _).setNew (by omega) _)).setNew (Nat.le_refl _) _).setNew (Nat.le_refl _) _).setNew (Nat.le_refl _) _).setNew (Nat.le_refl _) _)⟩
    · go_wp2_with fail
      refine (pick_any _ _ _ _ (by omega) hRd5).mono ?_
      rintro e W6 ⟨kc, rfl, ac, bc, hRd6, q6⟩
      have hO6 := hO5.trans q6
      have hC6 := hC5.only q6 (by omega)
      have hR1 := (hR5.only q6 (by omega)).setOther (c' := c) (i := 3) (by omega) (.int .i64 (1 + kc))
      have hC := hC6.set3 (1 + kc)
      have hO1 := hO6.setNew (c := c) (i := 3) (by omega) (.int .i64 (1 + kc))
      have hRd := hRd6.setOther (c := c) (i := 3) (by omega) (.int .i64 (1 + kc))
      obtain ⟨c0, c1, c2, c3⟩ := hC6.cells
      have f0 := hC6.free
      clear hRd5 hO5 hC5 hR5 q6 hO6
      go_wp2_with fail
      clear c0 c1 c2 c3 f0 hC6 hRd6
      generalize W6.setCell ⟨c, 3, none⟩ (.int .i64 (1 + kc)) = W7 at *
      refine (odd_any _ _ _ _ (by omega) hRd hn).mono ?_
      rintro e W1 ⟨q, rfl, hRd1, q1⟩
      have hO2 := hO1.trans q1
      have hC2 := hC.only q1 (by omega)
      have hR2 := hR1.only q1 (by omega)
      obtain ⟨c0, c1, c2, c3⟩ := hC2.cells
      have f0 := hC2.free
      obtain ⟨g0, g1, g2, g3⟩ := hR2.cells
      have d0 := hR2.free
      have lc := hC2.lt
      cases q
      · go_wp2_with fail
        refine bodyPost_ret (v := .agg #[.int .i64 (1 + k1), .int .i64 (k2), .int .i64 (k3), .int .i64 (1 + kc)]) (by simp [results, Try.results68, go_sem, g0, g1, g2, g3]) rfl ⟨_, _, _, _, rfl, (((((hRd1.more (by omega)).setOther hbR _).setOther hbR _).setOther hbR _).setOther hbR _), (((((hO2).setNew (Nat.le_refl _) _).setNew (Nat.le_refl _) _).setNew (Nat.le_refl _) _).setNew (Nat.le_refl _) _)⟩
      · clear c0 c1 c2 c3 f0 g0 g1 g2 g3 d0
        go_wp2_with fail
        refine (pick_any _ _ _ _ (by omega) hRd1).mono ?_
        rintro e W2 ⟨k5, rfl, a5, b5, hRd2, q2⟩
        have hO3 := hO2.trans q2
        have hC3 := hC2.only q2 (by omega)
        have hR3 := hR2.only q2 (by omega)
        obtain ⟨c0, c1, c2, c3⟩ := hC3.cells
        have f0 := hC3.free
        obtain ⟨g0, g1, g2, g3⟩ := hR3.cells
        have d0 := hR3.free
        have lc3 := hC3.lt
        clear hRd hRd1 q1 q2 hO1 hO2 hC hC2 hR1 hR2
        have hk5 : k5 = 0 ∨ k5 = 1 ∨ k5 = 2 ∨ k5 = 3 ∨ k5 = 4 := by omega
        rcases hk5 with rfl | rfl | rfl | rfl | rfl
        · clear c0 c1 c2 c3 f0 g0 g1 g2 g3 d0
          go_wp2_with fail
          refine (pick_any _ _ _ _ (by omega) (hRd2.alloc _)).mono ?_
          rintro e W4 ⟨k6, rfl, a6, b6, hRd4, q4⟩
          have hC4 := (hC3.alloc _).only q4 (by omega)
          have hR4 := (hR3.alloc _).only q4 (by omega)
          have hO4 := (hO3.alloc _).trans q4
          obtain ⟨c0, c1, c2, c3⟩ := hC4.cells
          have f0 := hC4.free
          obtain ⟨g0, g1, g2, g3⟩ := hR4.cells
          have d0 := hR4.free
          have x0 := q4.cell W2.heap.size 0 (by simp) (by have := hRd2.lt; omega)
          have x1 := q4.cell W2.heap.size 1 (by simp) (by have := hRd2.lt; omega)
          have x2 := q4.cell W2.heap.size 2 (by simp) (by have := hRd2.lt; omega)
          have hk6 : k6 = 0 ∨ k6 = 1 ∨ k6 = 2 := by omega
          rcases hk6 with rfl | rfl | rfl
          · go_wp2_with fail
            refine bodyPost_ret (v := .agg #[.int .i64 (-1), .int .i64 (k2), .int .i64 (k3), .int .i64 (1 + kc)]) (by simp [results, Try.results68, go_sem, g0, g1, g2, g3]) rfl ⟨_, _, _, _, rfl, ((((((hRd4.setOther (by omega) _).more (by omega)).setOther hbR _).setOther hbR _).setOther hbR _).setOther hbR _), (((((hO4.setNew (by omega) _).setNew (Nat.le_refl _) _).setNew (Nat.le_refl _) _).setNew (Nat.le_refl _) _).setNew (Nat.le_refl _) _)⟩
          · go_wp2_with fail
            refine bodyPost_ret (v := .agg #[.int .i64 (8), .int .i64 (k2), .int .i64 (k3), .int .i64 (1 + kc)]) (by simp [results, Try.results68, go_sem, g0, g1, g2, g3]) rfl ⟨_, _, _, _, rfl, ((((((hRd4.setOther (by omega) _).more (by omega)).setOther hbR _).setOther hbR _).setOther hbR _).setOther hbR _), (((((hO4.setNew (by omega) _).setNew (Nat.le_refl _) _).setNew (Nat.le_refl _) _).setNew (Nat.le_refl _) _).setNew (Nat.le_refl _) _)⟩
          · go_wp2_with fail
            refine bodyPost_ret (v := .agg #[.int .i64 (0), .int .i64 (k2), .int .i64 (k3), .int .i64 (1 + kc)]) (by simp [results, Try.results68, go_sem, g0, g1, g2, g3]) rfl ⟨_, _, _, _, rfl, ((((((hRd4.setOther (by omega) _).more (by omega)).setOther hbR _).setOther hbR _).setOther hbR _).setOther hbR _), (((((hO4.setNew (by omega) _).setNew (Nat.le_refl _) _).setNew (Nat.le_refl _) _).setNew (Nat.le_refl _) _).setNew (Nat.le_refl _) _)⟩
        · clear c0 c1 c2 c3 f0 g0 g1 g2 g3 d0
          go_wp2_with fail
          refine (pick_any _ _ _ _ (by omega) (hRd2.alloc _)).mono ?_
          rintro e W4 ⟨k6, rfl, a6, b6, hRd4, q4⟩
          have hC4 := (hC3.alloc _).only q4 (by omega)
          have hR4 := (hR3.alloc _).only q4 (by omega)
          have hO4 := (hO3.alloc _).trans q4
          obtain ⟨c0, c1, c2, c3⟩ := hC4.cells
          have f0 := hC4.free
          obtain ⟨g0, g1, g2, g3⟩ := hR4.cells
          have d0 := hR4.free
          have x0 := q4.cell W2.heap.size 0 (by simp) (by have := hRd2.lt; omega)
          have x1 := q4.cell W2.heap.size 1 (by simp) (by have := hRd2.lt; omega)
          have hk6 : k6 = 0 ∨ k6 = 1 := by omega
          rcases hk6 with rfl | rfl
          · go_wp2_with fail
            refine bodyPost_ret (v := .agg #[.int .i64 (1 + k1), .int .i64 (-1), .int .i64 (k3), .int .i64 (1 + kc)]) (by simp [results, Try.results68, go_sem, g0, g1, g2, g3]) rfl ⟨_, _, _, _, rfl, ((((((hRd4.setOther (by omega) _).more (by omega)).setOther hbR _).setOther hbR _).setOther hbR _).setOther hbR _), (((((hO4.setNew (by omega) _).setNew (Nat.le_refl _) _).setNew (Nat.le_refl _) _).setNew (Nat.le_refl _) _).setNew (Nat.le_refl _) _)⟩
          · go_wp2_with fail
            refine bodyPost_ret (v := .agg #[.int .i64 (1 + k1), .int .i64 (100), .int .i64 (k3), .int .i64 (1 + kc)]) (by simp [results, Try.results68, go_sem, g0, g1, g2, g3]) rfl ⟨_, _, _, _, rfl, ((((((hRd4.setOther (by omega) _).more (by omega)).setOther hbR _).setOther hbR _).setOther hbR _).setOther hbR _), (((((hO4.setNew (by omega) _).setNew (Nat.le_refl _) _).setNew (Nat.le_refl _) _).setNew (Nat.le_refl _) _).setNew (Nat.le_refl _) _)⟩
        · go_wp2_with fail
          refine bodyPost_ret (v := .agg #[.int .i64 (1 + k1), .int .i64 (k2), .int .i64 (16), .int .i64 (1 + kc)]) (by simp [results, Try.results68, go_sem, g0, g1, g2, g3]) rfl ⟨_, _, _, _, rfl, ((((((hRd2.setOther (by omega) _).more (by omega)).setOther hbR _).setOther hbR _).setOther hbR _).setOther hbR _), (((((hO3.setNew (by omega) _).setNew (Nat.le_refl _) _).setNew (Nat.le_refl _) _).setNew (Nat.le_refl _) _).setNew (Nat.le_refl _) _)⟩
        · clear c0 c1 c2 c3 f0 g0 g1 g2 g3 d0
          go_wp2_with fail
          refine (pick_any _ _ _ _ (by omega) (hRd2.alloc _)).mono ?_
          rintro e W4 ⟨k6, rfl, a6, b6, hRd4, q4⟩
          have hC4 := (hC3.alloc _).only q4 (by omega)
          have hR4 := (hR3.alloc _).only q4 (by omega)
          have hO4 := (hO3.alloc _).trans q4
          obtain ⟨c0, c1, c2, c3⟩ := hC4.cells
          have f0 := hC4.free
          obtain ⟨g0, g1, g2, g3⟩ := hR4.cells
          have d0 := hR4.free
          have x0 := q4.cell W2.heap.size 0 (by simp) (by have := hRd2.lt; omega)
          have x1 := q4.cell W2.heap.size 1 (by simp) (by have := hRd2.lt; omega)
          have hk6 : k6 = 0 ∨ k6 = 1 := by omega
          rcases hk6 with rfl | rfl
          · go_wp2_with fail
            refine bodyPost_ret (v := .agg #[.int .i64 (1 + k1), .int .i64 (k2), .int .i64 (k3), .int .i64 (-1)]) (by simp [results, Try.results68, go_sem, g0, g1, g2, g3]) rfl ⟨_, _, _, _, rfl, ((((((hRd4.setOther (by omega) _).more (by omega)).setOther hbR _).setOther hbR _).setOther hbR _).setOther hbR _), (((((hO4.setNew (by omega) _).setNew (Nat.le_refl _) _).setNew (Nat.le_refl _) _).setNew (Nat.le_refl _) _).setNew (Nat.le_refl _) _)⟩
          · go_wp2_with fail
            refine bodyPost_ret (v := .agg #[.int .i64 (1 + k1), .int .i64 (k2), .int .i64 (k3), .int .i64 (1000)]) (by simp [results, Try.results68, go_sem, g0, g1, g2, g3]) rfl ⟨_, _, _, _, rfl, ((((((hRd4.setOther (by omega) _).more (by omega)).setOther hbR _).setOther hbR _).setOther hbR _).setOther hbR _), (((((hO4.setNew (by omega) _).setNew (Nat.le_refl _) _).setNew (Nat.le_refl _) _).setNew (Nat.le_refl _) _).setNew (Nat.le_refl _) _)⟩
        · go_wp2_with fail
          refine bodyPost_ret (v := .agg #[.int .i64 (6), .int .i64 (0), .int .i64 (0), .int .i64 (1)]) (by simp [results, Try.results68, go_sem, g0, g1, g2, g3]) rfl ⟨_, _, _, _, rfl, (((((((((hRd2.setOther (by omega) _).setOther (by omega) _).setOther (by omega) _).setOther (by omega) _).more (by omega)).setOther hbR _).setOther hbR _).setOther hbR _).setOther hbR _), (((((((((hO3.setNew (by omega) _).setNew (by omega) _).setNew (by omega) _).setNew (by omega) _)).setNew (Nat.le_refl _) _).setNew (Nat.le_refl _) _).setNew (Nat.le_refl _) _).setNew (Nat.le_refl _) _)⟩

end Go.Proofs.Ytdafogfpbpjmdaa
