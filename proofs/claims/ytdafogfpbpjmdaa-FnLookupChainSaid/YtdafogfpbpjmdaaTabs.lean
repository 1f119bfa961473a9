/- Tables in memory: how they are read, and what changes keep of them. No condition beyond those written. -/
import Derived.Test.YtdafogfpbpjmdaaTabPlain
import Derived.Test.YtdafogfpbpjmdaaCAt
import Derived.Deep.Slices
namespace Go.Proofs.Ytdafogfpbpjmdaa
open Go.RowKit Go.WideShapes
set_option linter.unusedVariables false

/-- The four cells of a capability. -/
def CapCells (w : World) (g o : Nat) (c : Cp) : Prop :=
  w.cell? ⟨g, o, none⟩ = some (.int .i64 c.k) ∧ w.cell? ⟨g, o + 1, none⟩ = some (.int .i64 c.o) ∧ w.cell? ⟨g, o + 2, none⟩ = some (.int .i64 c.r) ∧ w.cell? ⟨g, o + 3, none⟩ = some (.int .i64 c.b)
/-- The slice '.slice A n _' reads the capabilities cs, wherever it begins. -/
def CapRd (w : World) (A : Option Addr) (n : Nat) (cs : List Cp) : Prop :=
  cs.length = n ∧ (0 < n → ∃ g o : Nat, A = some ⟨g, o, none⟩ ∧ g < w.heap.size ∧ ∀ i, i < n → CapCells w g (o + i * 4) (cs.getD i C0))
theorem CapCells.keep {w w' : World} {g o : Nat} {c : Cp} (h : CapCells w g o c) (hb : w'.heap[g]? = w.heap[g]?) : CapCells w' g o c := by
  have hc : ∀ j, w'.cell? ⟨g, j, none⟩ = w.cell? ⟨g, j, none⟩ := fun j => World.cell?_of_block hb
  obtain ⟨h0, h1, h2, h3⟩ := h
  exact ⟨(hc _).trans h0, (hc _).trans h1, (hc _).trans h2, (hc _).trans h3⟩
theorem CapRd.below {w w' : World} {A : Option Addr} {n : Nat} {cs : List Cp} (h : CapRd w A n cs) (hb : Below w.heap.size w w') : CapRd w' A n cs :=
  ⟨h.1, fun hn => by
    obtain ⟨g, o, hA, hg, hc⟩ := h.2 hn
    exact ⟨g, o, hA, Nat.lt_of_lt_of_le hg hb.size, fun i hi => (hc i hi).keep (hb.block g hg)⟩⟩
theorem CapRd.keepAt {w w' : World} {A : Option Addr} {n : Nat} {cs : List Cp} (h : CapRd w A n cs) (hs : w.heap.size ≤ w'.heap.size) (hk : ∀ g o, A = some ⟨g, o, none⟩ → g < w.heap.size → w'.heap[g]? = w.heap[g]?) : CapRd w' A n cs :=
  ⟨h.1, fun hn => by
    obtain ⟨g, o, hA, hg, hc⟩ := h.2 hn
    exact ⟨g, o, hA, Nat.lt_of_lt_of_le hg hs, fun i hi => (hc i hi).keep (hk g o hA hg)⟩⟩
/-- A table's four cells, and its slots. -/
def TabCell (w : World) (g o : Nat) (t : Tab) (S : Option Addr) (c : Nat) : Prop :=
  w.cell? ⟨g, o, none⟩ = some (.int .i64 t.bits) ∧ w.cell? ⟨g, o + 1, none⟩ = some (.int .i64 t.guard) ∧ w.cell? ⟨g, o + 2, none⟩ = some (.int .i64 t.gbits) ∧ w.cell? ⟨g, o + 3, none⟩ = some (.slice S t.slots.length c) ∧
    t.slots.length ≤ c ∧ c ≤ 9223372036854775807 ∧ CapRd w S t.slots.length t.slots
def TabRd (w : World) (A : Option Addr) (n : Nat) (ts : List Tab) : Prop :=
  ts.length = n ∧ (0 < n → ∃ g o : Nat, A = some ⟨g, o, none⟩ ∧ g < w.heap.size ∧ ∀ i, i < n → ∃ (S : Option Addr) (c : Nat), TabCell w g (o + i * 4) (ts.getD i T0) S c)
theorem TabCell.below {w w' : World} {g o : Nat} {t : Tab} {S : Option Addr} {c : Nat} (h : TabCell w g o t S c) (hg : g < w.heap.size) (hb : Below w.heap.size w w') : TabCell w' g o t S c := by
  have hc : ∀ j, w'.cell? ⟨g, j, none⟩ = w.cell? ⟨g, j, none⟩ := fun j => World.cell?_of_block (hb.block g hg)
  obtain ⟨h0, h1, h2, h3, h4, h5, h6⟩ := h
  exact ⟨(hc _).trans h0, (hc _).trans h1, (hc _).trans h2, (hc _).trans h3, h4, h5, h6.below hb⟩
theorem TabRd.below {w w' : World} {A : Option Addr} {n : Nat} {ts : List Tab} (h : TabRd w A n ts) (hb : Below w.heap.size w w') : TabRd w' A n ts :=
  ⟨h.1, fun hn => by
    obtain ⟨g, o, hA, hg, hc⟩ := h.2 hn
    refine ⟨g, o, hA, Nat.lt_of_lt_of_le hg hb.size, fun i hi => ?_⟩
    obtain ⟨S, c, ht⟩ := hc i hi
    exact ⟨S, c, ht.below hg hb⟩⟩
theorem CapRd.nil (w : World) (A : Option Addr) : CapRd w A 0 [] := ⟨rfl, fun h => absurd h (by omega)⟩
theorem TabRd.nil (w : World) (A : Option Addr) : TabRd w A 0 [] := ⟨rfl, fun h => absurd h (by omega)⟩

theorem list_of {α : Type} {q : Nat → α → Prop} {d : α} {n : Nat} (one : ∀ i, i < n → ∃ e, q i e) : ∃ es : List α, es.length = n ∧ ∀ i, i < n → q i (es.getD i d) := by
  induction n with
  | zero => exact ⟨[], rfl, fun i hi => absurd hi (by omega)⟩
  | succ n ih =>
    obtain ⟨es, hl, he⟩ := ih fun i hi => one i (by omega)
    obtain ⟨e, hee⟩ := one n (by omega)
    refine ⟨es ++ [e], by simp [hl], fun i hi => ?_⟩
    by_cases h : i < n
    · have := he i h
      rwa [show (es ++ [e]).getD i d = es.getD i d by simp [List.getD, List.getElem?_append_left (show i < es.length by omega)]]
    · obtain rfl : i = n := by omega
      rwa [show (es ++ [e]).getD i d = e by simp [List.getD, hl]]

theorem len4 {α : Type} {l : List α} (h : l.length = 4) : ∃ a b c d, l = [a, b, c, d] := by
  rcases l with _ | ⟨a, _ | ⟨b, _ | ⟨c, _ | ⟨d, _ | ⟨e, l⟩⟩⟩⟩⟩ <;> simp at h
  exact ⟨a, b, c, d, rfl⟩
/-! ### How the arguments are opened -/
section
variable {H : Type} {enc : TypeId × Value → H} {w : World} {v : Value} {d : DataW H} {p : List MemPlace}
set_option maxHeartbeats 1000000 in
theorem open_caps {fuel : Nat} {y : DataW H × List MemPlace} (hf : DataW.trod enc Try.prog w 0 (fun _ => true) true fuel 22 [v] = some y) :
    ∃ (A : Option Addr) (n c : Nat) (cs : List Cp), v = .slice A n c ∧ n ≤ c ∧ c ≤ 9223372036854775807 ∧ CapRd w A n cs := by
  have hC4 : Try.prog.cellsOf 48 = 4 := by kernel_rfl
  have hCi : Try.prog.cellsOf 3 = 1 := by kernel_rfl
  rcases Go.Deep.open_slice Try.underlying22 hf with ⟨hcs, _⟩ | ⟨x, l, c, m, k, D, Pl, hcs, _, hl, hm, hmm, _, hi⟩
  · simp at hcs
    subst hcs
    exact ⟨none, 0, 0, [], rfl, Nat.le_refl _, by omega, CapRd.nil _ _⟩
  · simp at hcs
    subst hcs
    simp at hmm
    subst hmm
    have one : ∀ i, i < l → ∃ e : Cp, ∀ j, j < 4 → w.cell? (x.add (i * 4 + j)) = e.cells[j]? := fun i hin => by
      obtain ⟨cs', hc, ht⟩ := hi i (by omega)
      rw [hC4] at hc
      obtain ⟨_, hcl, hat⟩ := World.cells?_some hc
      obtain ⟨ys, k1, _, _, _, hyl, hg⟩ := DataW.trod_struct Try.underlying48 ht
      obtain ⟨c0, c1, c2, c3, rfl⟩ := len4 hcl
      obtain ⟨y0, y1, y2, y3, rfl⟩ := len4 hyl
      have q0 := hg 0 _ rfl
      have q1 := hg 1 _ rfl
      have q2 := hg 2 _ rfl
      have q3 := hg 3 _ rfl
      simp [hCi] at q0 q1 q2 q3
      obtain ⟨n0, h0, _, _⟩ := DataW.trod_int Try.underlying3 q0
      obtain ⟨n1, h1, _, _⟩ := DataW.trod_int Try.underlying3 q1
      obtain ⟨n2, h2, _, _⟩ := DataW.trod_int Try.underlying3 q2
      obtain ⟨n3, h3, _, _⟩ := DataW.trod_int Try.underlying3 q3
      simp at h0 h1 h2 h3
      subst h0 h1 h2 h3
      refine ⟨⟨n0, n1, n2, n3⟩, fun j hj => ?_⟩
      have := hat j hj
      rw [Go.Deep.add_add] at this
      rw [this]
      rfl
    obtain ⟨es, hes⟩ := list_of (d := C0) one
    refine ⟨some x, l, _, es, rfl, hl, by simpa [maxLen] using hm, hes.1, fun hn => ?_⟩
    have hsp : x.spot = none := World.cell?_spot (w := w) (by simpa [Addr.add, Cp.cells] using hes.2 0 hn 0 (by omega))
    obtain ⟨g, o, sp⟩ := x
    obtain rfl : sp = none := hsp
    have hcell : ∀ i, i < l → ∀ j, j < 4 → w.cell? ⟨g, o + i * 4 + j, none⟩ = (es.getD i C0).cells[j]? := fun i hi j hj => by
      rw [← hes.2 i hi j hj, Go.WideShapes.add_plain, Nat.add_assoc]
    refine ⟨g, o, rfl, ?_, fun i hi => ⟨hcell i hi 0 (by omega), hcell i hi 1 (by omega), hcell i hi 2 (by omega), hcell i hi 3 (by omega)⟩⟩
    exact World.block_lt_of_cell? w ⟨g, o + 0 * 4 + 0, none⟩ (hcell 0 hn 0 (by omega))

/-- A table as an argument. -/
def TableIn (w : World) (v : Value) : Prop := ∃ (t : Tab) (S : Option Addr) (c : Nat), v = .agg #[.int .i64 t.bits, .int .i64 t.guard, .int .i64 t.gbits, .slice S t.slots.length c] ∧ t.slots.length ≤ c ∧ c ≤ 9223372036854775807 ∧ CapRd w S t.slots.length t.slots
theorem open_table (hv : Value.okWide Try.prog w .any 0 24 v) (h : DataW.Trod enc Try.prog w 0 (fun _ => true) true 24 v d p) : TableIn w v := by
  obtain ⟨c0, c1, c2, c3, y0, y1, y2, y3, m, rfl, rfl, rfl, hy0, hy1, hy2, hy3⟩ := Go.Joins.open_agg4 Try.underlying24 (by kernel_rfl) (by kernel_rfl) hv h
  obtain ⟨n0, h0, _, _⟩ := DataW.trod_int Try.underlying3 hy0
  obtain ⟨n1, h1, _, _⟩ := DataW.trod_int Try.underlying3 hy1
  obtain ⟨n2, h2, _, _⟩ := DataW.trod_int Try.underlying3 hy2
  simp at h0 h1 h2
  subst h0 h1 h2
  obtain ⟨A, n, c, cs, rfl, hnc, hcm, hR⟩ := open_caps hy3
  have hl := hR.1
  subst hl
  exact ⟨⟨n0, n1, n2, cs⟩, A, c, rfl, hnc, hcm, hR⟩
/-- A list of tables as an argument. -/
def TablesIn (w : World) (v : Value) : Prop := ∃ (A : Option Addr) (n c : Nat) (ts : List Tab), v = .slice A n c ∧ n ≤ c ∧ c ≤ 9223372036854775807 ∧ TabRd w A n ts
set_option maxHeartbeats 1000000 in
theorem open_tables (hv : Value.okWide Try.prog w .any 0 33 v) (h : DataW.Trod enc Try.prog w 0 (fun _ => true) true 33 v d p) : TablesIn w v := by
  obtain ⟨A, n, cap, rfl⟩ := okWide_slice Try.underlying33 hv
  obtain ⟨fuel, hf⟩ := h
  have hC4 : Try.prog.cellsOf 24 = 4 := by kernel_rfl
  have hCi : Try.prog.cellsOf 3 = 1 := by kernel_rfl
  have hCs : Try.prog.cellsOf 22 = 1 := by kernel_rfl
  rcases Go.Deep.open_slice Try.underlying33 hf with ⟨hcs, _⟩ | ⟨x, l, c, m, k, D, Pl, hcs, _, hl, hm, hmm, _, hi⟩
  · simp [Value.cells] at hcs
    obtain ⟨rfl, rfl, rfl⟩ := hcs
    exact ⟨none, 0, 0, [], rfl, Nat.le_refl _, by omega, TabRd.nil _ _⟩
  · simp [Value.cells] at hcs
    obtain ⟨rfl, rfl, rfl⟩ := hcs
    simp at hmm
    subst hmm
    have one : ∀ i, i < n → ∃ e : Tab × Option Addr × Nat, (∀ j, j < 4 → w.cell? (x.add (i * 4 + j)) = [Value.int .i64 e.1.bits, .int .i64 e.1.guard, .int .i64 e.1.gbits, .slice e.2.1 e.1.slots.length e.2.2][j]?) ∧
        e.1.slots.length ≤ e.2.2 ∧ e.2.2 ≤ 9223372036854775807 ∧ CapRd w e.2.1 e.1.slots.length e.1.slots := fun i hin => by
      obtain ⟨cs', hc, ht⟩ := hi i (by omega)
      rw [hC4] at hc
      obtain ⟨_, hcl, hat⟩ := World.cells?_some hc
      obtain ⟨ys, k1, _, _, _, hyl, hg⟩ := DataW.trod_struct Try.underlying24 ht
      obtain ⟨c0, c1, c2, c3, rfl⟩ := len4 hcl
      obtain ⟨y0, y1, y2, y3, rfl⟩ := len4 hyl
      have q0 := hg 0 _ rfl
      have q1 := hg 1 _ rfl
      have q2 := hg 2 _ rfl
      have q3 := hg 3 _ rfl
      simp [hCi, hCs] at q0 q1 q2 q3
      obtain ⟨n0, h0, _, _⟩ := DataW.trod_int Try.underlying3 q0
      obtain ⟨n1, h1, _, _⟩ := DataW.trod_int Try.underlying3 q1
      obtain ⟨n2, h2, _, _⟩ := DataW.trod_int Try.underlying3 q2
      simp at h0 h1 h2
      subst h0 h1 h2
      obtain ⟨B, nb, cb, cs, rfl, hnc, hcm, hR⟩ := open_caps q3
      have hl := hR.1
      subst hl
      refine ⟨(⟨n0, n1, n2, cs⟩, B, cb), fun j hj => ?_, hnc, hcm, hR⟩
      have := hat j hj
      rw [Go.Deep.add_add] at this
      rw [this]
    obtain ⟨es, hes⟩ := list_of (d := (T0, none, 0)) one
    refine ⟨some x, n, _, es.map (·.1), rfl, hl, by simpa [maxLen] using hm, by rw [List.length_map]; exact hes.1, fun hn => ?_⟩
    have hsp : x.spot = none := World.cell?_spot (w := w) (by simpa [Addr.add] using (hes.2 0 hn).1 0 (by omega))
    obtain ⟨g, o, sp⟩ := x
    obtain rfl : sp = none := hsp
    have hmap : ∀ i, (es.map (·.1)).getD i T0 = (es.getD i (T0, none, 0)).1 := fun i => by
      simp only [List.getD, List.getElem?_map]
      cases es[i]? <;> rfl
    have hcell : ∀ i, i < n → ∀ j, j < 4 → w.cell? ⟨g, o + i * 4 + j, none⟩ = [Value.int .i64 (es.getD i (T0, none, 0)).1.bits, .int .i64 (es.getD i (T0, none, 0)).1.guard, .int .i64 (es.getD i (T0, none, 0)).1.gbits, .slice (es.getD i (T0, none, 0)).2.1 (es.getD i (T0, none, 0)).1.slots.length (es.getD i (T0, none, 0)).2.2][j]? := fun i hi j hj => by
      rw [← (hes.2 i hi).1 j hj, Go.WideShapes.add_plain, Nat.add_assoc]
    refine ⟨g, o, rfl, ?_, fun i hi => ?_⟩
    · exact World.block_lt_of_cell? w ⟨g, o + 0 * 4 + 0, none⟩ (hcell 0 hn 0 (by omega))
    · refine ⟨(es.getD i (T0, none, 0)).2.1, (es.getD i (T0, none, 0)).2.2, ?_⟩
      rw [hmap]
      exact ⟨hcell i hi 0 (by omega), hcell i hi 1 (by omega), hcell i hi 2 (by omega), hcell i hi 3 (by omega), (hes.2 i hi).2⟩
end

end Go.Proofs.Ytdafogfpbpjmdaa
