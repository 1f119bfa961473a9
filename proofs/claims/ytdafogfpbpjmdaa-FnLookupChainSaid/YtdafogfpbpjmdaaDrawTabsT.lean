/- The state of the draw of a list of tables. No condition beyond those written. -/
import Derived.Test.YtdafogfpbpjmdaaTabD
namespace Go.Proofs.Ytdafogfpbpjmdaa
open Go.RowKit
set_option linter.unusedVariables false

/-- Tables in blocks from B on. -/
def TabN (w : World) (B : Nat) (A : Option Addr) (n : Nat) (ts : List Tab) : Prop :=
  ts.length = n ∧ (0 < n → ∃ g o : Nat, A = some ⟨g, o, none⟩ ∧ B ≤ g ∧ g < w.heap.size ∧ ∀ i, i < n → ∃ (S : Option Addr) (c : Nat), TabCell w g (o + i * 4) (ts.getD i T0) S c ∧ ∀ g' o', 0 < (ts.getD i T0).slots.length → S = some ⟨g', o', none⟩ → B ≤ g')
section
variable {w w' : World} {B b n c : Nat} {A : Option Addr} {ts : List Tab}
theorem TabN.rd (h : TabN w B A n ts) : TabRd w A n ts := ⟨h.1, fun hn => by
  obtain ⟨g, o, hA, -, hg, hc⟩ := h.2 hn
  refine ⟨g, o, hA, hg, fun i hi => ?_⟩
  obtain ⟨S, c, ht, -⟩ := hc i hi
  exact ⟨S, c, ht⟩⟩
theorem TabN.keep (h : TabN w B A n ts) (hs : w.heap.size ≤ w'.heap.size) (hk : ∀ g, B ≤ g → g < w.heap.size → w'.heap[g]? = w.heap[g]?) : TabN w' B A n ts := ⟨h.1, fun hn => by
  obtain ⟨g, o, hA, hB, hg, hc⟩ := h.2 hn
  refine ⟨g, o, hA, hB, Nat.lt_of_lt_of_le hg hs, fun i hi => ?_⟩
  obtain ⟨S, c, ⟨h0, h1, h2, h3, h4, h5, h6⟩, h7⟩ := hc i hi
  have hcell : ∀ j, w'.cell? ⟨g, j, none⟩ = w.cell? ⟨g, j, none⟩ := fun j => World.cell?_of_block (hk g hB hg)
  refine ⟨S, c, ⟨(hcell _).trans h0, (hcell _).trans h1, (hcell _).trans h2, (hcell _).trans h3, h4, h5, h6.1, fun hl => ?_⟩, h7⟩
  obtain ⟨g', o', hS, hg', hcc⟩ := h6.2 hl
  exact ⟨g', o', hS, Nat.lt_of_lt_of_le hg' hs, fun i hi => (hcc i hi).keep (hk g' (h7 g' o' hl hS) hg')⟩⟩
theorem TabN.only (h : TabN w B A n ts) (ho : Only b w w') (hb : b < B) : TabN w' B A n ts := h.keep ho.size fun g hg hlt => ho.block g hlt (fun e => by injection e; omega)
theorem TabN.below (h : TabN w B A n ts) (hb : Below w.heap.size w w') : TabN w' B A n ts := h.keep hb.size fun g _ hlt => hb.block g hlt
theorem TabN.more (h : TabN w B A n ts) {B' : Nat} (hB : B' ≤ B) : TabN w B' A n ts := ⟨h.1, fun hn => by
  obtain ⟨g, o, hA, hBg, hg, hc⟩ := h.2 hn
  refine ⟨g, o, hA, Nat.le_trans hB hBg, hg, fun i hi => ?_⟩
  obtain ⟨S, c, ht, h7⟩ := hc i hi
  exact ⟨S, c, ht, fun g' o' h0 hS => Nat.le_trans hB (h7 g' o' h0 hS)⟩⟩
end
def DrawnTabs (b m : Nat) (w : World) (e : Ending) (w' : World) : Prop := ∃ (A : Option Addr) (n c : Nat) (ts : List Tab), e = .returned (.slice A n c) ∧
  TabN w' w.heap.size A n ts ∧ 1 ≤ n ∧ n ≤ 11 ∧ n ≤ c ∧ c ≤ 9223372036854775807 ∧ SmallT ts ∧ Rd w' b m ∧ Only b w w'

/-- The slots of a drawn table. -/
def SlotN (w : World) (B : Nat) (r : TR) : Prop := CapN w B r.S r.t.slots.length r.t.slots ∧ r.t.slots.length ≤ 8 ∧ r.t.slots.length ≤ r.c ∧ r.c ≤ 9223372036854775807
/-- The list under way in memory of its own. -/
structure TsD (w0 : World) (b M : Nat) (A : Option Addr) (n c : Nat) (rs : List TR) (w : World) : Prop where
  rd : Rd w b M
  only : Only b w0 w
  own : w.ownsRow w0.heap.size 29 4 (.slice A n c) n (flatT rs)
  slots : ∀ i, i < n → SlotN w w0.heap.size (rs.getD i TR0)
  hb : b < w0.heap.size
/-- The same, the row whatever lies behind it. -/
structure TsE (w0 : World) (b M : Nat) (A : Option Addr) (n c : Nat) (rs : List TR) (w : World) : Prop where
  rd : Rd w b M
  only : Only b w0 w
  row : RowO w w0.heap.size 29 4 A n c (flatT rs)
  slots : ∀ i, i < n → SlotN w w0.heap.size (rs.getD i TR0)
  hb : b < w0.heap.size
section
variable {w0 w w' : World} {b M M' n c c' g : Nat} {A A' : Option Addr} {rs : List TR} {r : TR}
theorem TsD.len (h : TsD w0 b M A n c rs w) : rs.length = n := by have := h.own.1; rw [flatT_len] at this; omega
theorem TsD.step (h : TsD w0 b M A n c rs w) (hr : Rd w' b M') (ho : Only b w w') : TsD w0 b M' A n c rs w' := by
  have h1 := h.hb
  refine ⟨hr, h.only.trans ho, h.own.kept ho.grown ?_, fun i hi => ?_, h1⟩
  · by_cases e : Value.ownBlock (.slice A n c) = some b
    · have := (h.own.lt b e).1
      omega
    · exact Or.inr e
  · obtain ⟨q1, q2⟩ := h.slots i hi
    exact ⟨q1.keep ho.size fun g cur hg hlt _ => ho.block g hlt (fun e => by injection e; omega), q2⟩
theorem TsD.alloc (h : TsD w0 b M A n c rs w) (o : Obj) : TsD w0 b M A n c rs (w.alloc o) := h.step (h.rd.alloc o) (.of_below (below_al (Below.refl _ _) o))
theorem TsD.push (h : TsD w0 b M A n c rs w) (hr : SlotN w w0.heap.size r) (hg : w.grownBy w' (Value.ownBlock (.slice A n c)))
    (ho : w'.ownsRow w0.heap.size 29 4 (.slice A' (n + 1) c') (n + 1) (flatT rs ++ TR.cells r)) : TsD w0 b M A' (n + 1) c' (rs ++ [r]) w' := by
  have h1 := h.hb
  have hl := h.len
  have hlt := h.own.lt
  have hbl := h.rd.lt
  have ne : ∀ k, k < w0.heap.size → Value.ownBlock (.slice A n c) ≠ some k := fun k hk e => by
    have := (hlt k e).1
    omega
  have neC : ∀ k cur, w.heap[k]? = some (.cells cur 41 (0, 0)) → Value.ownBlock (.slice A n c) ≠ some k := fun k cur hk e => by
    rcases h.own.2 with ⟨hv, -⟩ | ⟨z, cap, cur', hv, -, hz, -⟩
    · rw [hv] at e; cases e
    · rw [hv] at e
      have e' : z = k := by simpa [Value.ownBlock] using e
      subst e'
      rw [hz] at hk
      injection hk with hk
      injection hk with _ hk
      exact absurd hk (by decide)
  have keep : ∀ r', SlotN w w0.heap.size r' → SlotN w' w0.heap.size r' := fun r' hr' => ⟨hr'.1.keep hg.size fun k cur _ hk hc => hg.block k hk (fun e => neC k cur hc e.symm), hr'.2⟩
  have hO : Only b w0 w' := by
    refine ⟨⟨hg.os.trans h.only.os, hg.tape.trans h.only.tape, hg.output.trans h.only.output, Nat.le_trans h.only.size hg.size, fun i hi hne => ?_⟩, fun s q hs => ?_⟩
    · exact (hg.block i (Nat.lt_of_lt_of_le hi h.only.size) (fun e => ne i hi e.symm)).trans (h.only.block i hi hne)
    · obtain ⟨q', hq'⟩ := h.only.src s q hs
      exact ⟨q', (hg.block b hbl (fun e => ne b h1 e.symm)).trans hq'⟩
  refine ⟨h.rd.keep fun k hk => hg.block k (by omega) (fun e => ne k (by omega) e.symm), hO, ?_, fun i hi => ?_, h1⟩
  · have : flatT (rs ++ [r]) = flatT rs ++ TR.cells r := by simp [flatT]
    rw [this]
    exact ho
  · by_cases hin : i < n
    · rw [show (rs ++ [r]).getD i TR0 = rs.getD i TR0 by simp [List.getD, List.getElem?_append_left (show i < rs.length by omega)]]
      exact keep _ (h.slots i hin)
    · obtain rfl : i = n := by omega
      rw [show (rs ++ [r]).getD i TR0 = r by simp [List.getD, hl]]
      exact keep _ hr
theorem TsD.te (h : TsD w0 b M A n c rs w) : TsE w0 b M A n c rs w := ⟨h.rd, h.only, RowO.of_own h.own, h.slots, h.hb⟩
theorem TsE.len (h : TsE w0 b M A n c rs w) : rs.length = n := by have := h.row.1; rw [flatT_len] at this; omega
theorem TsE.step (h : TsE w0 b M A n c rs w) (hr : Rd w' b M') (ho : Only b w w') : TsE w0 b M' A n c rs w' := by
  have h1 := h.hb
  refine ⟨hr, h.only.trans ho, h.row.keepAt fun g _ _ hbg hlt => ho.block g hlt (fun e => by injection e; omega), fun i hi => ?_, h1⟩
  obtain ⟨q1, q2⟩ := h.slots i hi
  exact ⟨q1.keep ho.size fun g cur hg hlt _ => ho.block g hlt (fun e => by injection e; omega), q2⟩
theorem rowT_set {B i d : Nat} {e' : TR} {v : Value} (h : RowO w B 29 4 (some ⟨g, 0, none⟩) n c (flatT rs)) (hl : rs.length = n) (hi : i < n) (hd : d < 4) (he : (rs.getD i TR0).cells.set d v = e'.cells) :
    RowO (w.setCell ⟨g, i * 4 + d, none⟩ v) B 29 4 (some ⟨g, 0, none⟩) n c (flatT (rs.set i e')) := by
  have := h.set (i * 4 + d) (by omega) v
  unfold flatT at this
  rw [flatG_set (f := TR.cells) (sz := 4) (fun _ => rfl) rs i d e' v (by omega) hd he] at this
  exact this
theorem rowT_setAll {B i : Nat} (h : RowO w B 29 4 (some ⟨g, 0, none⟩) n c (flatT rs)) (hl : rs.length = n) (hi : i < n) (e : TR) :
    RowO ((((w.setCell ⟨g, i * 4, none⟩ (.int .i64 e.t.bits)).setCell ⟨g, i * 4 + 1, none⟩ (.int .i64 e.t.guard)).setCell ⟨g, i * 4 + 2, none⟩ (.int .i64 e.t.gbits)).setCell ⟨g, i * 4 + 3, none⟩ (.slice e.S e.t.slots.length e.c)) B 29 4 (some ⟨g, 0, none⟩) n c (flatT (rs.set i e)) := by
  have at_ : ∀ (l : List TR) (x : TR), l.length = n → (l.set i x).getD i TR0 = x := fun l x hl => by simp [List.getD, hl, hi]
  obtain ⟨⟨x, y, z, cs⟩, S, q, hx⟩ : ∃ t S q, rs.getD i TR0 = ⟨t, S, q⟩ := ⟨_, _, _, rfl⟩
  have h1 := rowT_set (i := i) (d := 0) (e' := ⟨⟨e.t.bits, y, z, cs⟩, S, q⟩) (v := .int .i64 e.t.bits) h hl hi (by omega) (by rw [hx]; rfl)
  have h2 := rowT_set (i := i) (d := 1) (e' := ⟨⟨e.t.bits, e.t.guard, z, cs⟩, S, q⟩) (v := .int .i64 e.t.guard) h1 (by simpa using hl) hi (by omega) (by rw [at_ _ _ hl]; rfl)
  have h3 := rowT_set (i := i) (d := 2) (e' := ⟨⟨e.t.bits, e.t.guard, e.t.gbits, cs⟩, S, q⟩) (v := .int .i64 e.t.gbits) h2 (by simpa using hl) hi (by omega) (by rw [at_ _ _ (by simpa using hl)]; rfl)
  have h4 := rowT_set (i := i) (d := 3) (e' := e) (v := .slice e.S e.t.slots.length e.c) h3 (by simpa using hl) hi (by omega) (by rw [at_ _ _ (by simpa using hl)]; rfl)
  simpa only [List.set_set, Nat.add_zero] using h4
/-- The first table replaced. -/
theorem TsE.set0 (h : TsE w0 b M (some ⟨g, 0, none⟩) n c rs w) (hn : 0 < n) (e : TR) (he : SlotN w w0.heap.size e) :
    TsE w0 b M (some ⟨g, 0, none⟩) n c (rs.set 0 e) ((((w.setCell ⟨g, 0, none⟩ (.int .i64 e.t.bits)).setCell ⟨g, 1, none⟩ (.int .i64 e.t.guard)).setCell ⟨g, 2, none⟩ (.int .i64 e.t.gbits)).setCell ⟨g, 3, none⟩ (.slice e.S e.t.slots.length e.c)) := by
  have h1 := h.hb
  have hl := h.len
  obtain ⟨g', cur, hA, hbg, hg, -⟩ := h.row.2.2.2 hn
  obtain rfl : g = g' := by injection hA with e; injection e
  have hrow := rowT_setAll h.row hl hn e
  simp only [Nat.zero_mul, Nat.zero_add] at hrow
  have keep : ∀ r', SlotN w w0.heap.size r' → SlotN ((((w.setCell ⟨g, 0, none⟩ (.int .i64 e.t.bits)).setCell ⟨g, 1, none⟩ (.int .i64 e.t.guard)).setCell ⟨g, 2, none⟩ (.int .i64 e.t.gbits)).setCell ⟨g, 3, none⟩ (.slice e.S e.t.slots.length e.c)) w0.heap.size r' := fun r' hr' => by
    refine ⟨hr'.1.keep (by simp [World.setCell]) fun k cur' _ _ hc => ?_, hr'.2⟩
    have hne : ∀ i : Nat, k ≠ (⟨g, i, none⟩ : Addr).block := fun i (e : k = g) => by
      subst e
      rw [hg] at hc
      injection hc with hc
      injection hc with _ hc
      exact absurd hc (by decide)
    rw [Below.heap_setCell _ _ _ k (hne 3), Below.heap_setCell _ _ _ k (hne 2), Below.heap_setCell _ _ _ k (hne 1), Below.heap_setCell _ _ _ k (hne 0)]
  refine ⟨(((h.rd.setOther ?_ _).setOther ?_ _).setOther ?_ _).setOther ?_ _, (((h.only.setNew ?_ _).setNew ?_ _).setNew ?_ _).setNew ?_ _, hrow, fun i hi => ?_, h1⟩
  any_goals omega
  by_cases hi0 : i = 0
  · subst hi0
    rw [show (rs.set 0 e).getD 0 TR0 = e by simp [List.getD, hl, hn]]
    exact keep _ he
  · rw [show (rs.set 0 e).getD i TR0 = rs.getD i TR0 by simp [List.getD, List.getElem?_set_ne (show 0 ≠ i by omega)]]
    exact keep _ (h.slots i hi)
theorem TsE.tabN (h : TsE w0 b M A n c rs w) : TabN w w0.heap.size A n (tabsOf rs) := by
  have hl := h.len
  refine ⟨by rw [tabsOf_len, hl], fun hn => ?_⟩
  obtain ⟨g, h1, h2, h3, h4, h5⟩ := h.row.at_ hn
  have hc : ∀ i, i < n → ∀ d, d < 4 → w.cell? ⟨g, i * 4 + d, none⟩ = (rs.getD i TR0).cells[d]? := fun i hi d hd => by
    rw [h4 _ (by omega)]
    exact flatG_get (f := TR.cells) (sz := 4) (fun _ => rfl) rs i d (by omega) hd
  refine ⟨g, 0, h1, h2, h3, fun i hi => ⟨(rs.getD i TR0).S, (rs.getD i TR0).c, ?_, ?_⟩⟩
  · obtain ⟨hs, _, hs2, hs3⟩ := h.slots i hi
    rw [tabsOf_get, Nat.zero_add]
    exact ⟨hc i hi 0 (by omega), hc i hi 1 (by omega), hc i hi 2 (by omega), hc i hi 3 (by omega), hs2, hs3, hs.1⟩
  · rw [tabsOf_get]
    exact fun g' o' h0 hS => ((h.slots i hi).1.2 g' o' h0 hS).1
theorem TsE.small (h : TsE w0 b M A n c rs w) : SmallT (tabsOf rs) := fun i => by
  have hl := h.len
  rw [tabsOf_get]
  by_cases hi : i < n
  · have := (h.slots i hi).2.1
    omega
  · simp only [List.getD]
    rw [List.getElem?_eq_none (by omega)]
    exact Nat.zero_le _
theorem TsE.done (h : TsE w0 b M A n c rs w) (h1 : 1 ≤ n) (h2 : n ≤ 11) (hM : M ≤ M') : DrawnTabs b M' w0 (.returned (.slice A n c)) w :=
  ⟨A, n, c, tabsOf rs, rfl, h.tabN, h1, h2, h.row.2.1, h.row.2.2.1, h.small, h.rd.more hM, h.only⟩
end

end Go.Proofs.Ytdafogfpbpjmdaa
