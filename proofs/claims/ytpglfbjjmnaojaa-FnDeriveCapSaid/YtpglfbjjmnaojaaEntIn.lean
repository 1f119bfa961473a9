/- A list of entries as an argument, and what toEntryS makes of it. No condition beyond those written. -/
import Derived.Test.YtpglfbjjmnaojaaEnts
import Derived.Deep.Slices
namespace Go.Proofs.Ytpglfbjjmnaojaa
open Go.RowKit Go.WideShapes
set_option linter.unusedVariables false

/-- The slice '.slice A n c' reads the entries es, wherever it begins. -/
def EntR (w : World) (A : Option Addr) (n c : Nat) (es : List Ent) : Prop :=
  es.length = n ∧ n ≤ c ∧ c ≤ 9223372036854775807 ∧ (0 < n → ∃ g o : Nat, A = some ⟨g, o, none⟩ ∧ g < w.heap.size ∧ ∀ i, i < n → EntCells w g (o + i * 6) (es.getD i E0))
theorem EntCells.keep {w w' : World} {g o : Nat} {e : Ent} (h : EntCells w g o e) (hb : w'.heap[g]? = w.heap[g]?) : EntCells w' g o e := by
  have hc : ∀ j, w'.cell? ⟨g, j, none⟩ = w.cell? ⟨g, j, none⟩ := fun j => World.cell?_of_block hb
  obtain ⟨h0, h1, h2, h3, h4, h5⟩ := h
  exact ⟨(hc _).trans h0, (hc _).trans h1, (hc _).trans h2, (hc _).trans h3, (hc _).trans h4, (hc _).trans h5⟩
theorem EntR.below {w w' : World} {A : Option Addr} {n c : Nat} {es : List Ent} (h : EntR w A n c es) (hb : Below w.heap.size w w') : EntR w' A n c es :=
  ⟨h.1, h.2.1, h.2.2.1, fun hn => by
    obtain ⟨g, o, hA, hg, hc⟩ := h.2.2.2 hn
    exact ⟨g, o, hA, Nat.lt_of_lt_of_le hg hb.size, fun i hi => (hc i hi).keep (hb.block g hg)⟩⟩
def EntIn (w : World) (v : Value) : Prop := ∃ (A : Option Addr) (n c : Nat) (es : List Ent), v = .slice A n c ∧ EntR w A n c es

theorem list_of {α : Type} {q : Nat → α → Prop} {d : α} {n : Nat} (one : ∀ i, i < n → ∃ e, q i e) : ∃ es : List α, es.length = n ∧ ∀ i, i < n → q i (es.getD i d) := by
  induction n with
  | zero => exact ⟨[], rfl, fun i hi => absurd hi (by omega)⟩
  | succ n ih =>
    obtain ⟨es, hl, he⟩ := ih fun i hi => one i (by omega)
    obtain ⟨e, hee⟩ := one n (by omega)
    refine ⟨es ++ [e], by simp [hl], fun i hi => ?_⟩
    by_cases h : i < n
    · have := he i h
      rwa [show (es ++ [e]).getD i d = es.getD i d by simp [List.getD, List.getElem?_append_left (show i < es.length by omega)]]
    · obtain rfl : i = n := by omega
      rwa [show (es ++ [e]).getD i d = e by simp [List.getD, hl]]
set_option maxHeartbeats 1000000 in
theorem open_entries {H : Type} {enc : TypeId × Value → H} {w : World} {v : Value} {d : DataW H} {p : List MemPlace} (hv : Value.okWide Try.prog w .any 0 22 v) (h : DataW.Trod enc Try.prog w 0 (fun _ => true) true 22 v d p) : EntIn w v := by
  obtain ⟨A, n, cap, rfl⟩ := okWide_slice Try.underlying22 hv
  obtain ⟨fuel, hf⟩ := h
  have hC4 : Try.prog.cellsOf 57 = 4 := by kernel_rfl
  have hC6 : Try.prog.cellsOf 59 = 6 := by kernel_rfl
  have hCi : Try.prog.cellsOf 3 = 1 := by kernel_rfl
  have hCb : Try.prog.cellsOf 4 = 1 := by kernel_rfl
  rcases Go.Deep.open_slice Try.underlying22 hf with ⟨hcs, _⟩ | ⟨x, l, c, m, k, D, Pl, hcs, _, hl, hm, hmm, _, hi⟩
  · simp [Value.cells] at hcs
    obtain ⟨rfl, rfl, rfl⟩ := hcs
    exact ⟨none, 0, 0, [], rfl, rfl, Nat.le_refl _, by omega, fun h => absurd h (by omega)⟩
  · simp [Value.cells] at hcs
    obtain ⟨rfl, rfl, rfl⟩ := hcs
    simp at hmm
    subst hmm
    have one : ∀ i, i < n → ∃ e : Ent, ∀ j, j < 6 → w.cell? (x.add (i * 6 + j)) = e.cells[j]? := fun i hin => by
      obtain ⟨cs', hc, ht⟩ := hi i (by omega)
      rw [hC6] at hc
      obtain ⟨_, hcl, hat⟩ := World.cells?_some hc
      obtain ⟨ys, k1, _, _, _, hyl, hg⟩ := DataW.trod_struct Try.underlying59 ht
      match cs', hcl, ys, hyl with
      | [c0, c1, c2, c3, c4, c5], _, [y0, y1, y2], _ =>
        have g0 := hg 0 _ rfl
        have g1 := hg 1 _ rfl
        have g2 := hg 2 _ rfl
        simp [hC4, hCi, hCb] at g0 g1 g2
        obtain ⟨zs, k2, _, _, _, hzl, hq⟩ := DataW.trod_struct Try.underlying57 g0
        match zs, hzl with
        | [z0, z1, z2, z3], _ =>
          have q0 := hq 0 _ rfl
          have q1 := hq 1 _ rfl
          have q2 := hq 2 _ rfl
          have q3 := hq 3 _ rfl
          simp [hCi] at q0 q1 q2 q3
          obtain ⟨n0, h0, _, _⟩ := DataW.trod_int Try.underlying3 q0
          obtain ⟨n1, h1, _, _⟩ := DataW.trod_int Try.underlying3 q1
          obtain ⟨n2, h2, _, _⟩ := DataW.trod_int Try.underlying3 q2
          obtain ⟨n3, h3, _, _⟩ := DataW.trod_int Try.underlying3 q3
          obtain ⟨n4, h4, _, _⟩ := DataW.trod_int Try.underlying3 g1
          obtain ⟨n5, h5, _⟩ := DataW.trod_bool Try.underlying4 g2
          simp at h0 h1 h2 h3 h4 h5
          subst h0 h1 h2 h3 h4 h5
          refine ⟨⟨n0, n1, n2, n3, n4, n5⟩, fun j hj => ?_⟩
          have := hat j hj
          rw [Go.Deep.add_add] at this
          rw [this]
          rfl
    obtain ⟨es, hes⟩ := list_of (d := E0) one
    refine ⟨some x, n, _, es, rfl, hes.1, hl, by simpa [maxLen] using hm, fun hn => ?_⟩
    have hsp : x.spot = none := World.cell?_spot (w := w) (by simpa [Addr.add, Ent.cells] using hes.2 0 hn 0 (by omega))
    obtain ⟨g, o, sp⟩ := x
    obtain rfl : sp = none := hsp
    have hcell : ∀ i, i < n → ∀ j, j < 6 → w.cell? ⟨g, o + i * 6 + j, none⟩ = (es.getD i E0).cells[j]? := fun i hi j hj => by
      rw [← hes.2 i hi j hj, Go.WideShapes.add_plain, Nat.add_assoc]
    refine ⟨g, o, rfl, ?_, fun i hi => ⟨hcell i hi 0 (by omega), hcell i hi 1 (by omega), hcell i hi 2 (by omega), hcell i hi 3 (by omega), hcell i hi 4 (by omega), hcell i hi 5 (by omega)⟩⟩
    exact World.block_lt_of_cell? w ⟨g, o + 0 * 6 + 0, none⟩ (hcell 0 hn 0 (by omega))

end Go.Proofs.Ytpglfbjjmnaojaa
