/- What toEntry and toEntryS make; the size of a list of entries. No condition beyond those written. -/
import Derived.Test.YtpglfbjjmnaojaaEntIn
import Derived.Test.YtpglfbjjmnaojaaMint2
import Derived.Laws.MakeOwn
namespace Go.Proofs.Ytpglfbjjmnaojaa
open Go.RowKit
set_option linter.unusedVariables false

/-- Block c holds the cells vs. -/
def CAt (w : World) (c : Nat) (T : TypeId) (vs : List Value) : Prop := w.heap[c]? = some (.cells vs.toArray T (0, 0))
section
variable {w w' : World} {c : Nat} {T : TypeId} {vs : List Value}
theorem CAt.new (w : World) (T : TypeId) (vs : List Value) : CAt (w.alloc (.cells vs.toArray T)) w.heap.size T vs := heap_alloc_new w _
theorem CAt.lt (h : CAt w c T vs) : c < w.heap.size := (Array.getElem?_eq_some_iff.1 h).1
theorem CAt.below (h : CAt w c T vs) (hb : Below w.heap.size w w') : CAt w' c T vs := (hb.block c h.lt).trans h
theorem CAt.alloc (h : CAt w c T vs) (o : Obj) : CAt (w.alloc o) c T vs := (Below.heap_alloc w o c h.lt).trans h
theorem CAt.cell (h : CAt w c T vs) (j : Nat) : w.cell? ⟨c, j, none⟩ = vs[j]? := by rw [cell_of_row w c j _ _ (0, 0) h]; simp
theorem CAt.free (h : CAt w c T vs) (i : Nat) : w.frozen? ⟨c, i, none⟩ = false := frozen_of_row w c i _ _ h
theorem CAt.cells6 {a0 a1 a2 a3 a4 a5 : Value} (h : CAt w c T [a0, a1, a2, a3, a4, a5]) : w.cell? ⟨c, 0, none⟩ = some a0 ∧ w.cell? ⟨c, 1, none⟩ = some a1 ∧ w.cell? ⟨c, 2, none⟩ = some a2 ∧ w.cell? ⟨c, 3, none⟩ = some a3 ∧ w.cell? ⟨c, 4, none⟩ = some a4 ∧ w.cell? ⟨c, 5, none⟩ = some a5 :=
  ⟨h.cell 0, h.cell 1, h.cell 2, h.cell 3, h.cell 4, h.cell 5⟩
end
def Ent.val (e : Ent) : Value := .agg #[.int .i64 e.k, .int .i64 e.o, .int .i64 e.r, .int .i64 e.b, .int .i64 e.p, .bool e.g]
theorem ent_info : (Try.prog.info? 48).map (fun i => (i.zero.map Value.cells, i.size)) = some (some E0.cells.toArray, 6) ∧ (Try.prog.info? 48).all (fun i => i.bytes ≤ 64) = true := by constructor <;> kernel_rfl
theorem made_ents (m : Nat) : (madeCells E0.cells.toArray (m * 6)).toList = flat (List.replicate m E0) := by
  apply List.ext_getElem?
  intro i
  by_cases hi : i < m * 6
  · have h6 : i % 6 < 6 := Nat.mod_lt _ (by omega)
    have h := flat_get (List.replicate m E0) (i / 6) (i % 6) (by simp; omega) h6
    rw [show i / 6 * 6 + i % 6 = i by omega] at h
    rw [h]
    have e1 : (List.replicate m E0).getD (i / 6) E0 = E0 := by
      simp only [List.getD, List.getElem?_replicate]
      split <;> rfl
    rw [e1]
    unfold madeCells
    rw [Array.toList_map, List.getElem?_map, Array.toList_range, List.getElem?_range hi]
    simp only [Option.map_some]
    have : E0.cells.toArray.size = 6 := rfl
    rw [this]
    rcases (show i % 6 = 0 ∨ i % 6 = 1 ∨ i % 6 = 2 ∨ i % 6 = 3 ∨ i % 6 = 4 ∨ i % 6 = 5 by omega) with h | h | h | h | h | h <;> rw [h] <;> rfl
  · rw [List.getElem?_eq_none (by simp [madeCells]; omega), List.getElem?_eq_none (by rw [flat_len, List.length_replicate]; omega)]
theorem make_ents (m : Nat) (hm : m ≤ 2000000) : ∃ cs : Array Value, cs.toList = flat (List.replicate m E0) ∧
    ∀ w : World, (Instr.makeSlice 25 (.int .i64 (m : Int)) (.int .i64 (m : Int))).run Try.prog w = .ok (.slice (some ⟨w.heap.size, 0, none⟩) m m) (w.alloc (.cells cs 48)) := by
  obtain ⟨h1, h2⟩ := ent_info
  obtain ⟨i0, hi, h3⟩ := Option.map_eq_some_iff.1 h1
  rw [hi] at h2
  simp only [Option.all_some, decide_eq_true_eq] at h2
  simp only [Prod.mk.injEq] at h3
  obtain ⟨h3, h4⟩ := h3
  obtain ⟨z, hz, h5⟩ := Option.map_eq_some_iff.1 h3
  have h6 : i0.bytes * m ≤ 64 * 2000000 := Nat.mul_le_mul h2 hm
  have h7 : ((i0.bytes * m : Nat) : Int) ≤ 128000000 := by omega
  rw [Int.natCast_mul] at h7
  refine ⟨_, made_ents m, fun w => ?_⟩
  have hr := run_make (P := Try.prog) w 25 48 i0 z Try.underlying25 hi hz .i64 .i64 m m (by omega) (by omega) (by omega) (by omega)
  simp only [Int.toNat_natCast, h4, h5] at hr
  exact hr

set_option maxHeartbeats 1000000 in
theorem laws_toEntry (e : Ent) (w : World) : Calls Try.prog 51 #[e.val] w fun r w' => r = .returned e.val ∧ Below w.heap.size w w' := by
  obtain ⟨k, o, r, b, p, g⟩ := e
  simp only [Ent.val]
  go_enter Try.func51, Try.ntmps51
  go_wp2_with fail
  refine (laws_toCap k o r b _).mono ?_
  rintro e w1 ⟨rfl, hb1⟩
  have hA := CAt.below (CAt.alloc (CAt.alloc (CAt.new w 59 [.int .i64 k, .int .i64 o, .int .i64 r, .int .i64 b, .int .i64 p, .bool g]) _) _) hb1
  have hR := CAt.below (CAt.alloc (CAt.new (w.alloc _) 48 E0.cells) _) hb1
  have hE := CAt.below (CAt.new ((w.alloc _).alloc _) 48 E0.cells) hb1
  simp only [World.size_alloc] at hR hE
  have hB := below_next (below_al (below_al (below_al (Below.refl _ w) _) _) _) hb1
  have hlt := hE.lt
  have fR := hR.free
  have fE := hE.free
  obtain ⟨a0, a1, a2, a3, a4, a5⟩ := hA.cells6
  obtain ⟨r0, r1, r2, r3, r4, r5⟩ := hR.cells6
  obtain ⟨e0, e1, e2, e3, e4, e5⟩ := hE.cells6
  clear hA hR hE hb1
  go_wp2_with fail
  refine bodyPost_ret (v := .agg #[.int .i64 k, .int .i64 o, .int .i64 r, .int .i64 b, .int .i64 p, .bool g]) (by simp [results, Try.results51, go_sem, r0, r1, r2, r3, r4, r5]) rfl ⟨rfl, ?_⟩
  repeat (with_reducible first | exact hB | refine below_al ?_ _ | refine below_set ?_ (by first | (simp; done) | (simp; omega)) _)

end Go.Proofs.Ytpglfbjjmnaojaa
