/- Lists of capabilities and of tables in memory of the call's own. No condition beyond those written. -/
import Derived.Test.YtdafogfpbpjmdaaTabs
import Derived.Laws.MakeOwn
import Derived.Laws.AppendOwn
namespace Go.Proofs.Ytdafogfpbpjmdaa
open Go.RowKit
set_option linter.unusedVariables false

/-! ### Rows of items of one size -/
section
variable {α : Type} {f : α → List Value} {sz : Nat} {d : α}
theorem flatG_len (hf : ∀ a, (f a).length = sz) (l : List α) : (l.flatMap f).length = l.length * sz := by
  induction l with
  | nil => simp
  | cons a l ih => rw [List.flatMap_cons, List.length_append, ih, hf, List.length_cons, Nat.add_mul, Nat.one_mul, Nat.add_comm]
theorem flatG_get (hf : ∀ a, (f a).length = sz) (l : List α) (i c : Nat) (hi : i < l.length) (hc : c < sz) : (l.flatMap f)[i * sz + c]? = (f (l.getD i d))[c]? := by
  induction l generalizing i with
  | nil => simp at hi
  | cons a l ih =>
    rw [List.flatMap_cons]
    cases i with
    | zero => rw [List.getElem?_append_left (by rw [hf]; omega)]; simp
    | succ i =>
      rw [List.getElem?_append_right (by rw [hf, Nat.add_mul]; omega), hf, show (i + 1) * sz + c - sz = i * sz + c by rw [Nat.add_mul]; omega, ih i (by simpa using hi)]
      simp
theorem flatG_set (hf : ∀ a, (f a).length = sz) (l : List α) (i c : Nat) (e' : α) (v : Value) (hi : i < l.length) (hc : c < sz) (he : (f (l.getD i d)).set c v = f e') : (l.flatMap f).set (i * sz + c) v = (l.set i e').flatMap f := by
  induction l generalizing i with
  | nil => simp at hi
  | cons a l ih =>
    cases i with
    | zero =>
      rw [List.flatMap_cons, List.set_cons_zero, List.flatMap_cons, List.set_append_left _ _ (by rw [hf]; omega)]
      simp only [Nat.zero_mul, Nat.zero_add]
      rw [show (f a).set c v = f e' by simpa using he]
    | succ i =>
      rw [List.flatMap_cons, List.set_cons_succ, List.flatMap_cons, List.set_append_right _ _ (by rw [hf, Nat.add_mul]; omega), hf, show (i + 1) * sz + c - sz = i * sz + c by rw [Nat.add_mul]; omega,
        ih i (by simpa using hi) (by simpa using he)]
theorem made_flat (z : List Value) (hz : z.length = sz) (h0 : 0 < sz) (m : Nat) : (madeCells z.toArray (m * sz)).toList = (List.replicate m ()).flatMap fun _ => z := by
  apply List.ext_getElem?
  intro i
  by_cases hi : i < m * sz
  · have h6 : i % sz < sz := Nat.mod_lt _ h0
    have hd : i / sz < m := Nat.div_lt_of_lt_mul (by rw [Nat.mul_comm]; exact hi)
    have h := flatG_get (f := fun _ : Unit => z) (d := ()) (fun _ => hz) (List.replicate m ()) (i / sz) (i % sz) (by simpa using hd) h6
    rw [show i / sz * sz + i % sz = i by rw [Nat.mul_comm]; exact Nat.div_add_mod i sz] at h
    rw [h]
    unfold madeCells
    rw [Array.toList_map, List.getElem?_map, Array.toList_range, List.getElem?_range hi]
    have hs : z.toArray.size = sz := by simpa using hz
    simp only [Option.map_some, hs]
    have : i % sz < z.length := by omega
    rw [List.getElem?_eq_getElem this]
    congr 1
    simp [this]
  · rw [List.getElem?_eq_none (by simp [madeCells]; omega), List.getElem?_eq_none (by rw [flatG_len (fun _ => hz), List.length_replicate]; omega)]
theorem flat_unit {β : Type} (f : β → List Value) (x : β) (m : Nat) : ((List.replicate m ()).flatMap fun _ => f x) = (List.replicate m x).flatMap f := by
  induction m with
  | zero => rfl
  | succ m ih => rw [List.replicate_succ, List.replicate_succ, List.flatMap_cons, List.flatMap_cons, ih]
end

/-! ### Capabilities -/
def flatC (cs : List Cp) : List Value := cs.flatMap Cp.cells
theorem flatC_len (cs : List Cp) : (flatC cs).length = cs.length * 4 := flatG_len (f := Cp.cells) (sz := 4) (fun _ => rfl) cs
theorem flatC_append (a b : List Cp) : flatC (a ++ b) = flatC a ++ flatC b := by simp [flatC]
theorem flatC_one (cs : List Cp) : ∀ u ∈ flatC cs, u.oneCell' = true := by
  intro u hu
  obtain ⟨e, _, he⟩ := List.mem_flatMap.1 hu
  simp only [Cp.cells, List.mem_cons, List.not_mem_nil, or_false] at he
  rcases he with rfl | rfl | rfl | rfl <;> rfl
def CapO (w : World) (base : Nat) (A : Option Addr) (n c : Nat) (cs : List Cp) : Prop := RowO w base 41 4 A n c (flatC cs)
section
variable {w w' : World} {base n c : Nat} {A : Option Addr} {cs : List Cp}
theorem CapO.len (h : CapO w base A n c cs) : cs.length = n := by have := h.1; rw [flatC_len] at this; omega
theorem CapO.at_ (h : CapO w base A n c cs) (hn : 0 < n) : ∃ g : Nat, A = some ⟨g, 0, none⟩ ∧ base ≤ g ∧ g < w.heap.size ∧ (∀ i, i < n → CapCells w g (i * 4) (cs.getD i C0)) ∧ (∀ j, w.frozen? ⟨g, j, none⟩ = false) := by
  obtain ⟨g, h1, h2, h3, h4, h5⟩ := RowO.at_ h hn
  have hl := h.len
  have hc : ∀ i, i < n → ∀ d, d < 4 → w.cell? ⟨g, i * 4 + d, none⟩ = (cs.getD i C0).cells[d]? := fun i hi d hd => by
    rw [h4 _ (by omega)]
    exact flatG_get (f := Cp.cells) (sz := 4) (fun _ => rfl) cs i d (by omega) hd
  exact ⟨g, h1, h2, h3, fun i hi => ⟨hc i hi 0 (by omega), hc i hi 1 (by omega), hc i hi 2 (by omega), hc i hi 3 (by omega)⟩, h5⟩
theorem CapO.rd (h : CapO w base A n c cs) : CapRd w A n cs := ⟨h.len, fun hn => by
  obtain ⟨g, h1, _, h3, h4, _⟩ := h.at_ hn
  exact ⟨g, 0, h1, h3, fun i hi => by rw [Nat.zero_add]; exact h4 i hi⟩⟩
theorem CapO.set {g : Nat} (h : CapO w base (some ⟨g, 0, none⟩) n c cs) (i d : Nat) (hi : i < n) (hd : d < 4) (e' : Cp) (v : Value) (he : (cs.getD i C0).cells.set d v = e'.cells) :
    CapO (w.setCell ⟨g, i * 4 + d, none⟩ v) base (some ⟨g, 0, none⟩) n c (cs.set i e') := by
  have hl := h.len
  have := RowO.set h (i * 4 + d) (by omega) v
  unfold flatC at this
  rw [flatG_set (f := Cp.cells) (sz := 4) (fun _ => rfl) cs i d e' v (by omega) hd he] at this
  exact this
/-- All four cells of one capability written. -/
theorem CapO.setAll {g : Nat} (h : CapO w base (some ⟨g, 0, none⟩) n c cs) (i : Nat) (hi : i < n) (e : Cp) :
    CapO ((((w.setCell ⟨g, i * 4, none⟩ (.int .i64 e.k)).setCell ⟨g, i * 4 + 1, none⟩ (.int .i64 e.o)).setCell ⟨g, i * 4 + 2, none⟩ (.int .i64 e.r)).setCell ⟨g, i * 4 + 3, none⟩ (.int .i64 e.b)) base (some ⟨g, 0, none⟩) n c (cs.set i e) := by
  have hl := h.len
  have at_ : ∀ (l : List Cp) (x : Cp), l.length = n → (l.set i x).getD i C0 = x := fun l x hl => by simp [List.getD, hl, hi]
  obtain ⟨k, o, r, b, hx⟩ : ∃ k o r b, cs.getD i C0 = ⟨k, o, r, b⟩ := ⟨_, _, _, _, rfl⟩
  have h1 := h.set i 0 hi (by omega) ⟨e.k, o, r, b⟩ (.int .i64 e.k) (by rw [hx]; rfl)
  have h2 := h1.set i 1 hi (by omega) ⟨e.k, e.o, r, b⟩ (.int .i64 e.o) (by rw [at_ _ _ hl]; rfl)
  have h3 := h2.set i 2 hi (by omega) ⟨e.k, e.o, e.r, b⟩ (.int .i64 e.r) (by rw [at_ _ _ h1.len]; rfl)
  have h4 := h3.set i 3 hi (by omega) ⟨e.k, e.o, e.r, e.b⟩ (.int .i64 e.b) (by rw [at_ _ _ h2.len]; rfl)
  simpa only [List.set_set, Nat.add_zero] using h4
end
theorem cap_info : (Try.prog.info? 41).map (fun i => (i.zero, i.size, i.bytes)) = some (some (.agg #[.int .i64 0, .int .i64 0, .int .i64 0, .int .i64 0]), 4, 32) := by kernel_rfl
theorem make_caps (m : Nat) (hm : m ≤ 2000000) : ∃ cs : Array Value, cs.toList = flatC (List.replicate m C0) ∧
    ∀ w : World, (Instr.makeSlice 27 (.int .i64 (m : Int)) (.int .i64 (m : Int))).run Try.prog w = .ok (.slice (some ⟨w.heap.size, 0, none⟩) m m) (w.alloc (.cells cs 41)) := by
  obtain ⟨i0, hi, hz, hs, hb⟩ := info_parts cap_info
  have h7 : (i0.bytes : Int) * (m : Int) ≤ 128000000 := by rw [hb]; omega
  refine ⟨_, ((made_flat (sz := 4) C0.cells rfl (by omega) m).trans (flat_unit Cp.cells C0 m)), fun w => ?_⟩
  have hr := run_make (P := Try.prog) w 27 41 i0 _ Try.underlying27 hi hz .i64 .i64 m m (by omega) (by omega) (by omega) (by omega)
  simp only [Int.toNat_natCast, hs] at hr
  exact hr

/-! ### Tables -/
/-- A table, and where its slots lie. -/
structure TR where
  t : Tab
  S : Option Addr
  c : Nat
def TR0 : TR := ⟨T0, none, 0⟩
def TR.cells (r : TR) : List Value := [.int .i64 r.t.bits, .int .i64 r.t.guard, .int .i64 r.t.gbits, .slice r.S r.t.slots.length r.c]
def flatT (rs : List TR) : List Value := rs.flatMap TR.cells
theorem flatT_len (rs : List TR) : (flatT rs).length = rs.length * 4 := flatG_len (f := TR.cells) (sz := 4) (fun _ => rfl) rs
theorem flatT_append (a b : List TR) : flatT (a ++ b) = flatT a ++ flatT b := by simp [flatT]
theorem flatT_one (rs : List TR) : ∀ u ∈ flatT rs, u.oneCell' = true := by
  intro u hu
  obtain ⟨e, _, he⟩ := List.mem_flatMap.1 hu
  simp only [TR.cells, List.mem_cons, List.not_mem_nil, or_false] at he
  rcases he with rfl | rfl | rfl | rfl <;> rfl
/-- The block of a table's slots. -/
def TR.row (r : TR) : Option Nat := rowOf r.S r.t.slots.length
def tabsOf (rs : List TR) : List Tab := rs.map (·.t)
theorem tabsOf_get (rs : List TR) (i : Nat) : (tabsOf rs).getD i T0 = (rs.getD i TR0).t := by
  simp only [tabsOf, List.getD, List.getElem?_map]
  cases rs[i]? <;> rfl
theorem tabsOf_len (rs : List TR) : (tabsOf rs).length = rs.length := by simp [tabsOf]
/-- The slice '.slice A n c' holds the tables of rs; each table's slots lie in memory from base on, no two in one block. -/
structure TabO (w : World) (base : Nat) (A : Option Addr) (n c : Nat) (rs : List TR) : Prop where
  row : RowO w base 29 4 A n c (flatT rs)
  slots : ∀ i, i < n → CapO w base (rs.getD i TR0).S (rs.getD i TR0).t.slots.length (rs.getD i TR0).c (rs.getD i TR0).t.slots
  apart : ∀ i j, i < n → j < n → i ≠ j → ∀ g, (rs.getD i TR0).row = some g → (rs.getD j TR0).row ≠ some g
section
variable {w w' : World} {base n c : Nat} {A : Option Addr} {rs : List TR}
theorem TabO.len (h : TabO w base A n c rs) : rs.length = n := by have := h.row.1; rw [flatT_len] at this; omega
theorem TabO.below (h : TabO w base A n c rs) (hb : Below w.heap.size w w') : TabO w' base A n c rs := ⟨h.row.below hb, fun i hi => RowO.below (h.slots i hi) hb, h.apart⟩
theorem TabO.more (h : TabO w base A n c rs) {base' : Nat} (hb : base' ≤ base) : TabO w base' A n c rs := ⟨h.row.more hb, fun i hi => RowO.more (h.slots i hi) hb, h.apart⟩
theorem TabO.drewN (h : TabO w base A n c rs) (q : Nat) : TabO (w.drewN q) base A n c rs := ⟨h.row, h.slots, h.apart⟩
theorem TabO.alloc (h : TabO w base A n c rs) (o : Obj) : TabO (w.alloc o) base A n c rs := h.below (below_al (Below.refl _ _) o)
theorem TabO.nil (w : World) (base c : Nat) (A : Option Addr) (hc : c ≤ maxLen) : TabO w base A 0 c [] := ⟨RowO.nil _ _ _ _ _ _ hc, fun i hi => absurd hi (by omega), fun i j hi => absurd hi (by omega)⟩
theorem TabO.at_ (h : TabO w base A n c rs) (hn : 0 < n) : ∃ g : Nat, A = some ⟨g, 0, none⟩ ∧ base ≤ g ∧ g < w.heap.size ∧ (∀ i, i < n → TabCell w g (i * 4) (rs.getD i TR0).t (rs.getD i TR0).S (rs.getD i TR0).c) ∧ (∀ j, w.frozen? ⟨g, j, none⟩ = false) := by
  obtain ⟨g, h1, h2, h3, h4, h5⟩ := h.row.at_ hn
  have hl := h.len
  have hc : ∀ i, i < n → ∀ d, d < 4 → w.cell? ⟨g, i * 4 + d, none⟩ = (rs.getD i TR0).cells[d]? := fun i hi d hd => by
    rw [h4 _ (by omega)]
    exact flatG_get (f := TR.cells) (sz := 4) (fun _ => rfl) rs i d (by omega) hd
  refine ⟨g, h1, h2, h3, fun i hi => ?_, h5⟩
  have hs := h.slots i hi
  have hm := hs.2.2.1
  simp only [maxLen] at hm
  exact ⟨hc i hi 0 (by omega), hc i hi 1 (by omega), hc i hi 2 (by omega), hc i hi 3 (by omega), hs.2.1, by omega, hs.rd⟩
theorem TabO.rd (h : TabO w base A n c rs) : TabRd w A n (tabsOf rs) := ⟨by rw [tabsOf_len, h.len], fun hn => by
  obtain ⟨g, h1, _, h3, h4, _⟩ := h.at_ hn
  refine ⟨g, 0, h1, h3, fun i hi => ⟨(rs.getD i TR0).S, (rs.getD i TR0).c, ?_⟩⟩
  rw [tabsOf_get, Nat.zero_add]
  exact h4 i hi⟩
/-- Rows of different types lie in different blocks. -/
theorem rows_apart {T T' : TypeId} {sz sz' n' c' base' : Nat} {A' : Option Addr} {vs vs' : List Value} (hT : T ≠ T') (h : RowO w base T sz A n c vs) (h' : RowO w base' T' sz' A' n' c' vs') : ∀ g, rowOf A n = some g → rowOf A' n' ≠ some g := by
  intro g hg hg'
  by_cases hn : n = 0
  · subst hn; cases hg
  by_cases hn' : n' = 0
  · subst hn'; cases hg'
  obtain ⟨x, cur, hA, -, hx, -⟩ := h.2.2.2 (by omega)
  obtain ⟨y, cur', hA', -, hy, -⟩ := h'.2.2.2 (by omega)
  subst hA hA'
  rw [rowOf_pos (by omega)] at hg hg'
  injection hg with hg
  injection hg' with hg'
  subst hg hg'
  rw [hx] at hy
  injection hy with hy
  injection hy with _ hy
  exact hT hy
theorem RowO.grownRow {T : TypeId} {sz : Nat} {vs : List Value} (h : RowO w base T sz A n c vs) {r : Option Nat} (hg : w.grownBy w' r) (hr : ∀ y, rowOf A n = some y → r ≠ some y) : RowO w' base T sz A n c vs :=
  RowO.keepAt h fun g hn hA _ hlt => hg.block g hlt (fun e => hr g (by rw [hA]; exact rowOf_pos hn) e.symm)
/-- Changes of one block that is neither the row's nor a slots'. -/
theorem TabO.grown (h : TabO w base A n c rs) {r : Option Nat} (hg : w.grownBy w' r) (hr : ∀ x, r = some x → x < base) : TabO w' base A n c rs :=
  ⟨h.row.grown hg hr, fun i hi => RowO.grown (h.slots i hi) hg hr, h.apart⟩
end
theorem table_info : (Try.prog.info? 29).map (fun i => (i.zero, i.size, i.bytes)) = some (some (.agg #[.int .i64 0, .int .i64 0, .int .i64 0, .slice none 0 0]), 4, 48) := by kernel_rfl
theorem make_tables (m : Nat) (hm : m ≤ 2000000) : ∃ cs : Array Value, cs.toList = flatT (List.replicate m TR0) ∧
    ∀ w : World, (Instr.makeSlice 36 (.int .i64 (m : Int)) (.int .i64 (m : Int))).run Try.prog w = .ok (.slice (some ⟨w.heap.size, 0, none⟩) m m) (w.alloc (.cells cs 29)) := by
  obtain ⟨i0, hi, hz, hs, hb⟩ := info_parts table_info
  have h7 : (i0.bytes : Int) * (m : Int) ≤ 128000000 := by rw [hb]; omega
  refine ⟨_, ((made_flat (sz := 4) TR0.cells rfl (by omega) m).trans (flat_unit TR.cells TR0 m)), fun w => ?_⟩
  have hr := run_make (P := Try.prog) w 36 29 i0 _ Try.underlying36 hi hz .i64 .i64 m m (by omega) (by omega) (by omega) (by omega)
  simp only [Int.toNat_natCast, hs] at hr
  exact hr

end Go.Proofs.Ytdafogfpbpjmdaa
