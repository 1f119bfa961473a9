/- The state of the draw of a table. No condition. -/
import Derived.Test.YtdafogfpbpjmdaaPutS
import Derived.Test.YtdafogfpbpjmdaaDrawCaps
import Derived.Test.YtdafogfpbpjmdaaReader
import Derived.OneCell
import Derived.Deep.Cut
import Derived.Deep.CutRange
namespace Go.Proofs.Ytdafogfpbpjmdaa
open Go.RowKit
set_option linter.unusedVariables false

theorem CAt.two {w : World} {c : Nat} {T : TypeId} {x y : Int} (h : CAt w c T [.int .i64 x, .int .i64 y]) {q : Int} (h0 : 0 ≤ q) (h1 : q < 2) : ∃ z : Int, w.cell? ⟨c, q.toNat, none⟩ = some (.int .i64 z) := by
  obtain rfl | rfl : q = 0 ∨ q = 1 := by omega
  · exact ⟨_, h.cell 0⟩
  · exact ⟨_, h.cell 1⟩
/-- The reader b; the result's block R; the table under way in block T, with its slots in memory of its own. -/
structure TD (w0 : World) (b M R T : Nat) (x y z : Int) (S : Option Addr) (n c : Nat) (cs : List Cp) (w : World) : Prop where
  rd : Rd w b M
  only : Only b w0 w
  cR : CAt w R 29 [.int .i64 0, .int .i64 0, .int .i64 0, .slice none 0 0]
  cT : CAt w T 29 [.int .i64 x, .int .i64 y, .int .i64 z, .slice S n c]
  own : w.ownsRow (T + 1) 41 4 (.slice S n c) n (flatC cs)
  hb : b < R
  hR : R < T
  hw : w0.heap.size ≤ R
section
variable {w0 w w' : World} {b M M' R T n c n' c' : Nat} {x y z : Int} {S S' : Option Addr} {cs cs' : List Cp}
theorem TD.len (h : TD w0 b M R T x y z S n c cs w) : cs.length = n := by have := h.own.1; rw [flatC_len] at this; omega
theorem TD.step (h : TD w0 b M R T x y z S n c cs w) (hr : Rd w' b M') (ho : Only b w w') : TD w0 b M' R T x y z S n c cs w' := by
  have h1 := h.hb
  have h2 := h.hR
  refine ⟨hr, h.only.trans ho, h.cR.grown ho.grown (by simp; omega), h.cT.grown ho.grown (by simp; omega), h.own.kept ho.grown ?_, h1, h2, h.hw⟩
  by_cases e : Value.ownBlock (.slice S n c) = some b
  · have := (h.own.lt b e).1
    omega
  · exact Or.inr e
theorem TD.alloc (h : TD w0 b M R T x y z S n c cs w) (o : Obj) : TD w0 b M R T x y z S n c cs (w.alloc o) := h.step (h.rd.alloc o) (.of_below (below_al (Below.refl _ _) o))
theorem TD.drew (h : TD w0 b M R T x y z S n c cs w) : TD w0 b M R T x y z S n c cs w.drew := h.step h.rd.drew (Only.refl _ _).drew
theorem TD.more (h : TD w0 b M R T x y z S n c cs w) (hm : M ≤ M') : TD w0 b M' R T x y z S n c cs w := ⟨h.rd.more hm, h.only, h.cR, h.cT, h.own, h.hb, h.hR, h.hw⟩
/-- One cell of the table's own block written. -/
theorem TD.setT (h : TD w0 b M R T x y z S n c cs w) {i : Nat} {v : Value} {x' y' z' : Int} (hs : [Value.int .i64 x, .int .i64 y, .int .i64 z, .slice S n c].set i v = [.int .i64 x', .int .i64 y', .int .i64 z', .slice S n c]) :
    TD w0 b M R T x' y' z' S n c cs (w.setCell ⟨T, i, none⟩ v) := by
  have h1 := h.hb
  have h2 := h.hR
  have h3 := h.hw
  refine ⟨h.rd.setOther (by omega) _, h.only.setNew (by omega) _, h.cR.setOther (by omega) _, ?_, ownsRow_setCell_below h.own (show T < T + 1 by omega) _, h1, h2, h3⟩
  have := h.cT.set (i := i) v
  rwa [hs] at this
/-- A cell of another block written. -/
theorem TD.setC (h : TD w0 b M R T x y z S n c cs w) {C i : Nat} (hC : T < C) (hCo : ∀ k, Value.ownBlock (.slice S n c) = some k → k < C) (v : Value) : TD w0 b M R T x y z S n c cs (w.setCell ⟨C, i, none⟩ v) := by
  have h1 := h.hb
  have h2 := h.hR
  have h3 := h.hw
  refine ⟨h.rd.setOther (by omega) _, h.only.setNew (by omega) _, h.cR.setOther (by omega) _, h.cT.setOther (by omega) _, ownsRow_setCell_other h.own (fun e => ?_) _, h1, h2, h3⟩
  have := hCo C e
  omega
/-- The slots changed in their own block, or grown, and laid into the table. -/
theorem TD.slots (h : TD w0 b M R T x y z S n c cs w) (hg : w.grownBy w' (Value.ownBlock (.slice S n c))) (ho : w'.ownsRow (T + 1) 41 4 (.slice S' n' c') n' (flatC cs')) :
    TD w0 b M R T x y z S' n' c' cs' (w'.setCell ⟨T, 3, none⟩ (.slice S' n' c')) := by
  have h1 := h.hb
  have h2 := h.hR
  have h3 := h.hw
  have hlt := h.own.lt
  have ne : ∀ k, k ≤ T → Value.ownBlock (.slice S n c) ≠ some k := fun k hk e => by
    have := (hlt k e).1
    omega
  have hbl := h.rd.lt
  have hO : Only b w0 w' := by
    refine ⟨⟨hg.os.trans h.only.os, hg.tape.trans h.only.tape, hg.output.trans h.only.output, Nat.le_trans h.only.size hg.size, fun i hi hne => ?_⟩, fun s q hs => ?_⟩
    · exact (hg.block i (Nat.lt_of_lt_of_le hi h.only.size) (fun e => ne i (by omega) e.symm)).trans (h.only.block i hi hne)
    · obtain ⟨q', hq'⟩ := h.only.src s q hs
      exact ⟨q', (hg.block b hbl (fun e => ne b (by omega) e.symm)).trans hq'⟩
  have hRd : Rd w' b M := h.rd.keep fun k hk => hg.block k (by omega) (fun e => ne k (by omega) e.symm)
  refine ⟨hRd.setOther (by omega) _, hO.setNew (by omega) _, (h.cR.grown hg (ne R (by omega))).setOther (by omega) _, ?_, ownsRow_setCell_below ho (show T < T + 1 by omega) _, h1, h2, h3⟩
  exact (h.cT.grown hg (ne T (Nat.le_refl _))).set (i := 3) _
end
/-- A table that a draw may give: its slots in a block of their own. -/
def CapN (w : World) (B : Nat) (S : Option Addr) (n : Nat) (cs : List Cp) : Prop := CapRd w S n cs ∧ ∀ g o, 0 < n → S = some ⟨g, o, none⟩ → B ≤ g ∧ ∃ cur, w.heap[g]? = some (.cells cur 41 (0, 0))
theorem CapN.keep {w w' : World} {B n : Nat} {S : Option Addr} {cs : List Cp} (h : CapN w B S n cs) (hs : w.heap.size ≤ w'.heap.size) (hk : ∀ g cur, B ≤ g → g < w.heap.size → w.heap[g]? = some (.cells cur 41 (0, 0)) → w'.heap[g]? = w.heap[g]?) : CapN w' B S n cs := by
  refine ⟨⟨h.1.1, fun hn => ?_⟩, fun g o hn hS => ?_⟩
  · obtain ⟨g, o, hA, hg, hc⟩ := h.1.2 hn
    obtain ⟨h1, cur, h2⟩ := h.2 g o hn hA
    exact ⟨g, o, hA, Nat.lt_of_lt_of_le hg hs, fun i hi => (hc i hi).keep (hk g cur h1 hg h2)⟩
  · obtain ⟨h1, cur, h2⟩ := h.2 g o hn hS
    exact ⟨h1, cur, (hk g cur h1 (Array.getElem?_eq_some_iff.1 h2).1 h2).trans h2⟩
theorem CapN.more {w : World} {B B' n : Nat} {S : Option Addr} {cs : List Cp} (h : CapN w B S n cs) (hB : B' ≤ B) : CapN w B' S n cs := ⟨h.1, fun g o hn hS => ⟨Nat.le_trans hB (h.2 g o hn hS).1, (h.2 g o hn hS).2⟩⟩
def DrawnTab (b m : Nat) (w : World) (e : Ending) (w' : World) : Prop := ∃ (x y z : Int) (S : Option Addr) (n c : Nat) (cs : List Cp), e = .returned (.agg #[.int .i64 x, .int .i64 y, .int .i64 z, .slice S n c]) ∧
  CapN w' w.heap.size S n cs ∧ n ≤ 8 ∧ n ≤ c ∧ c ≤ 9223372036854775807 ∧ Rd w' b m ∧ Only b w w'

theorem DrawnTab.alloc {b m : Nat} {w w' : World} {e : Ending} (h : DrawnTab b m w e w') (o : Obj) : DrawnTab b m w e (w'.alloc o) := by
  obtain ⟨x, y, z, S, n, c, cs, he, h1, h2, h3, h4, h5, h6⟩ := h
  exact ⟨x, y, z, S, n, c, cs, he, h1.keep (by simp) fun g cur _ hlt _ => Below.heap_alloc w' o g hlt, h2, h3, h4, h5.alloc o, h6.alloc o⟩

/-- At the end of the draw: the slots at the head of a block behind the table's. -/
structure TE (w0 : World) (b M R T : Nat) (x y z : Int) (S : Option Addr) (n c : Nat) (cs : List Cp) (w : World) : Prop where
  rd : Rd w b M
  only : Only b w0 w
  cR : CAt w R 29 [.int .i64 0, .int .i64 0, .int .i64 0, .slice none 0 0]
  cT : CAt w T 29 [.int .i64 x, .int .i64 y, .int .i64 z, .slice S n c]
  row : CapO w (T + 1) S n c cs
  hb : b < R
  hR : R < T
  hw : w0.heap.size ≤ R
/-- The slots may begin further on. -/
structure TFin (w0 : World) (b M R T : Nat) (x y z : Int) (S : Option Addr) (n c : Nat) (w : World) : Prop where
  rd : Rd w b M
  only : Only b w0 w
  cR : CAt w R 29 [.int .i64 0, .int .i64 0, .int .i64 0, .slice none 0 0]
  cT : CAt w T 29 [.int .i64 x, .int .i64 y, .int .i64 z, .slice S n c]
  slots : ∃ cs, CapN w (T + 1) S n cs
  hc : n ≤ c ∧ c ≤ 9223372036854775807
  hb : b < R
  hR : R < T
  hw : w0.heap.size ≤ R
section
variable {w0 w w' : World} {b M M' R T n c g : Nat} {x y z : Int} {S : Option Addr} {cs : List Cp}
theorem TD.te (h : TD w0 b M R T x y z S n c cs w) : TE w0 b M R T x y z S n c cs w := ⟨h.rd, h.only, h.cR, h.cT, RowO.of_own h.own, h.hb, h.hR, h.hw⟩
theorem TE.step (h : TE w0 b M R T x y z S n c cs w) (hr : Rd w' b M') (ho : Only b w w') : TE w0 b M' R T x y z S n c cs w' := by
  have h1 := h.hb
  have h2 := h.hR
  refine ⟨hr, h.only.trans ho, h.cR.grown ho.grown (by simp; omega), h.cT.grown ho.grown (by simp; omega), RowO.keepAt h.row fun g _ _ hbg hlt => ho.block g hlt (fun e => by injection e; omega), h1, h2, h.hw⟩
theorem TE.alloc (h : TE w0 b M R T x y z S n c cs w) (o : Obj) : TE w0 b M R T x y z S n c cs (w.alloc o) := h.step (h.rd.alloc o) (.of_below (below_al (Below.refl _ _) o))
theorem TE.drew (h : TE w0 b M R T x y z S n c cs w) : TE w0 b M R T x y z S n c cs w.drew := h.step h.rd.drew (Only.refl _ _).drew
theorem TE.more (h : TE w0 b M R T x y z S n c cs w) (hm : M ≤ M') : TE w0 b M' R T x y z S n c cs w := h.step (h.rd.more hm) (Only.refl _ _)
theorem TE.setT (h : TE w0 b M R T x y z S n c cs w) {i : Nat} {v : Value} {x' y' z' : Int} (hs : [Value.int .i64 x, .int .i64 y, .int .i64 z, .slice S n c].set i v = [.int .i64 x', .int .i64 y', .int .i64 z', .slice S n c]) :
    TE w0 b M R T x' y' z' S n c cs (w.setCell ⟨T, i, none⟩ v) := by
  have h1 := h.hb
  have h2 := h.hR
  have h3 := h.hw
  refine ⟨h.rd.setOther (by omega) _, h.only.setNew (by omega) _, h.cR.setOther (by omega) _, ?_, RowO.setLow h.row (show T < T + 1 by omega) _, h1, h2, h3⟩
  have := h.cT.set (i := i) v
  rwa [hs] at this
theorem TE.setS (h : TE w0 b M R T x y z (some ⟨g, 0, none⟩) n c cs w) (hn : 0 < n) (e : Cp) :
    TE w0 b M R T x y z (some ⟨g, 0, none⟩) n c (cs.set 0 e) ((((w.setCell ⟨g, 0, none⟩ (.int .i64 e.k)).setCell ⟨g, 1, none⟩ (.int .i64 e.o)).setCell ⟨g, 2, none⟩ (.int .i64 e.r)).setCell ⟨g, 3, none⟩ (.int .i64 e.b)) := by
  have h1 := h.hb
  have h2 := h.hR
  have h3 := h.hw
  obtain ⟨g', hA, hbg, -⟩ := h.row.at_ hn
  obtain rfl : g = g' := by injection hA with e; injection e
  have hrow := h.row.setAll 0 hn e
  simp only [Nat.zero_mul, Nat.zero_add] at hrow
  refine ⟨(((h.rd.setOther ?_ _).setOther ?_ _).setOther ?_ _).setOther ?_ _, (((h.only.setNew ?_ _).setNew ?_ _).setNew ?_ _).setNew ?_ _, (((h.cR.setOther ?_ _).setOther ?_ _).setOther ?_ _).setOther ?_ _, (((h.cT.setOther ?_ _).setOther ?_ _).setOther ?_ _).setOther ?_ _, hrow, h1, h2, h3⟩ <;> omega
theorem TE.head (h : TE w0 b M R T x y z (some ⟨g, 0, none⟩) n c cs w) (hn : 0 < n) :
    ∃ q : Cp, w.cell? ⟨g, 0, none⟩ = some (.int .i64 q.k) ∧ w.cell? ⟨g, 1, none⟩ = some (.int .i64 q.o) ∧ w.cell? ⟨g, 2, none⟩ = some (.int .i64 q.r) ∧ w.cell? ⟨g, 3, none⟩ = some (.int .i64 q.b) ∧ (∀ j, w.frozen? ⟨g, j, none⟩ = false) ∧ g < w.heap.size := by
  obtain ⟨g', hA, -, hg, hc, hf⟩ := h.row.at_ hn
  obtain rfl : g = g' := by injection hA with e; injection e
  obtain ⟨c0, c1, c2, c3⟩ := hc 0 hn
  simp only [Nat.zero_mul, Nat.zero_add] at c0 c1 c2 c3
  exact ⟨_, c0, c1, c2, c3, hf, hg⟩
theorem TE.fin (h : TE w0 b M R T x y z S n c cs w) : TFin w0 b M R T x y z S n c w :=
  ⟨h.rd, h.only, h.cR, h.cT, ⟨cs, h.row.rd, fun g o hn hS => by
    obtain ⟨g', cur, hA, hbg, hg, -⟩ := h.row.2.2.2 hn
    rw [hS] at hA
    injection hA with hA
    injection hA with hA
    subst hA
    exact ⟨hbg, cur, hg⟩⟩, ⟨h.row.2.1, h.row.2.2.1⟩, h.hb, h.hR, h.hw⟩
theorem TE.tail (h : TE w0 b M R T x y z (some ⟨g, 0, none⟩) (n + 1) (c + 1) cs w) : TFin w0 b M R T x y z (some ⟨g, 4, none⟩) n c (w.setCell ⟨T, 3, none⟩ (.slice (some ⟨g, 4, none⟩) n c)) := by
  have h1 := h.hb
  have h2 := h.hR
  have h3 := h.hw
  obtain ⟨g', cur, hA, hbg, hg, -⟩ := h.row.2.2.2 (by omega)
  obtain rfl : g = g' := by injection hA with e; injection e
  obtain ⟨g', hA, -, hglt, hcell, -⟩ := h.row.at_ (by omega)
  obtain rfl : g = g' := by injection hA with e; injection e
  have hl := h.row.len
  have hk : (w.setCell ⟨T, 3, none⟩ (.slice (some ⟨g, 4, none⟩) n c)).heap[g]? = w.heap[g]? := Below.heap_setCell w ⟨T, 3, none⟩ _ g (by show g ≠ T; omega)
  refine ⟨h.rd.setOther (by omega) _, h.only.setNew (by omega) _, h.cR.setOther (by omega) _, h.cT.set (i := 3) _, ⟨cs.tail, ⟨by simp; omega, fun hn => ⟨g, 4, rfl, by simpa [World.setCell] using hglt, fun i hi => ?_⟩⟩, fun g' o' hn hS => ?_⟩, ⟨?_, ?_⟩, h1, h2, h3⟩
  · have := (hcell (i + 1) (by omega)).keep hk
    rw [show (i + 1) * 4 = 4 + i * 4 by omega] at this
    rw [show cs.tail.getD i C0 = cs.getD (i + 1) C0 by cases cs <;> simp [List.getD]]
    exact this
  · injection hS with hS
    injection hS with hS
    subst hS
    exact ⟨hbg, cur, hk.trans hg⟩
  · have := h.row.2.1
    omega
  · have := h.row.2.2.1
    simp only [maxLen] at this
    omega
/-- The table copied to the result's block. -/
theorem TFin.done (h : TFin w0 b M R T x y z S n c w) (hn : n ≤ 8) (hM : M ≤ M') :
    DrawnTab b M' w0 (.returned (.agg #[.int .i64 x, .int .i64 y, .int .i64 z, .slice S n c])) ((((w.setCell ⟨R, 0, none⟩ (.int .i64 x)).setCell ⟨R, 1, none⟩ (.int .i64 y)).setCell ⟨R, 2, none⟩ (.int .i64 z)).setCell ⟨R, 3, none⟩ (.slice S n c)) := by
  have h1 := h.hb
  have h2 := h.hR
  have h3 := h.hw
  obtain ⟨cs, hcs⟩ := h.slots
  refine ⟨x, y, z, S, n, c, cs, rfl, ((hcs.keep (by simp [World.setCell]) fun g cur hg _ _ => ?_).more ?_), hn, h.hc.1, h.hc.2, ((((h.rd.more hM).setOther ?_ _).setOther ?_ _).setOther ?_ _).setOther ?_ _, (((h.only.setNew ?_ _).setNew ?_ _).setNew ?_ _).setNew ?_ _⟩
  · have hne : ∀ i : Nat, g ≠ (⟨R, i, none⟩ : Addr).block := fun i => by show g ≠ R; omega
    rw [Below.heap_setCell _ _ _ g (hne 3), Below.heap_setCell _ _ _ g (hne 2), Below.heap_setCell _ _ _ g (hne 1), Below.heap_setCell _ _ _ g (hne 0)]
  all_goals omega
end

end Go.Proofs.Ytdafogfpbpjmdaa
