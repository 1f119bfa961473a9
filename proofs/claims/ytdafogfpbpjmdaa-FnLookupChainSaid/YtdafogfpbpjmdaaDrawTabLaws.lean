/- The draws of the laws on tables, whatever the code. No condition. -/
import Derived.Test.YtdafogfpbpjmdaaDrawTabs
namespace Go.Proofs.Ytdafogfpbpjmdaa
open Go.RowKit
set_option linter.unusedVariables false

/-- A guarded operation whose guard holds goes as an unguarded one. -/
theorem wpList_strike {P : Program} {ops : Array Oper} {Q : Exit → Act → World → Prop} {a : Act} {w : World} {rest : List Oper} {o : Oper}
    (hw : Region.wanted o (yielded ops a.tmps) = true) (h : wpList P ops Q ({ o with guard := none } :: rest) a w) : wpList P ops Q (o :: rest) a w := by
  have h2 : Region.wanted { o with guard := none } (yielded ops a.tmps) = true := rfl
  cases o
  simp only [wpList, hw, h2, if_true] at h ⊢
  exact h
theorem CapRd.tail {w : World} {g o n : Nat} {cs : List Cp} (h : CapRd w (some ⟨g, o, none⟩) (n + 1) cs) : CapRd w (some ⟨g, o + 4, none⟩) n (cs.drop 1) := by
  obtain ⟨hl, h⟩ := h
  refine ⟨by rw [List.length_drop]; omega, fun hn => ?_⟩
  obtain ⟨g', o', hA, hg, hc⟩ := h (by omega)
  injection hA with hA
  injection hA with e1 e2
  subst e1 e2
  refine ⟨g, o + 4, rfl, hg, fun i hi => ?_⟩
  have := hc (i + 1) (by omega)
  rw [show o + (i + 1) * 4 = o + 4 + i * 4 by omega] at this
  rw [show (cs.drop 1).getD i C0 = cs.getD (i + 1) C0 by simp [List.getD]]
  exact this
theorem TabRd.tail {w : World} {g o n c : Nat} {ts : List Tab} (h : TabRd w (some ⟨g, o, none⟩) (n + 1) ts) (hc : c = 0 → n = 0) : TabRd w (if c = 0 then some ⟨g, o, none⟩ else some ⟨g, o + 4, none⟩) n (ts.drop 1) := by
  obtain ⟨hl, h⟩ := h
  refine ⟨by rw [List.length_drop]; omega, fun hn => ?_⟩
  rw [if_neg (by omega)]
  obtain ⟨g', o', hA, hg, hc⟩ := h (by omega)
  injection hA with hA
  injection hA with e1 e2
  subst e1 e2
  refine ⟨g, o + 4, rfl, hg, fun i hi => ?_⟩
  obtain ⟨S, q, ht⟩ := hc (i + 1) (by omega)
  rw [show o + (i + 1) * 4 = o + 4 + i * 4 by omega] at ht
  rw [show (ts.drop 1).getD i T0 = ts.getD (i + 1) T0 by simp [List.getD]]
  exact ⟨S, q, ht⟩
theorem TabRd.of_row {w : World} {B n c : Nat} {A : Option Addr} {rs : List TR} (h : RowO w B 29 4 A n c (flatT rs))
    (hs : ∀ i, i < n → (rs.getD i TR0).t.slots.length ≤ (rs.getD i TR0).c ∧ (rs.getD i TR0).c ≤ 9223372036854775807 ∧ CapRd w (rs.getD i TR0).S (rs.getD i TR0).t.slots.length (rs.getD i TR0).t.slots) : TabRd w A n (tabsOf rs) := by
  have hl : rs.length = n := by have := h.1; rw [flatT_len] at this; omega
  refine ⟨by rw [tabsOf_len, hl], fun hn => ?_⟩
  obtain ⟨g, h1, h2, h3, h4, h5⟩ := h.at_ hn
  have hc : ∀ i, i < n → ∀ d, d < 4 → w.cell? ⟨g, i * 4 + d, none⟩ = (rs.getD i TR0).cells[d]? := fun i hi d hd => by
    rw [h4 _ (by omega)]
    exact flatG_get (f := TR.cells) (sz := 4) (fun _ => rfl) rs i d (by omega) hd
  refine ⟨g, 0, h1, h3, fun i hi => ⟨(rs.getD i TR0).S, (rs.getD i TR0).c, ?_⟩⟩
  rw [tabsOf_get, Nat.zero_add]
  obtain ⟨a, b, c⟩ := hs i hi
  exact ⟨hc i hi 0 (by omega), hc i hi 1 (by omega), hc i hi 2 (by omega), hc i hi 3 (by omega), a, b, c⟩
theorem smallT_drop {ts : List Tab} (h : SmallT ts) : SmallT (ts.drop 1) := fun i => by
  rw [show (ts.drop 1).getD i T0 = ts.getD (i + 1) T0 by simp [List.getD]]
  exact h (i + 1)
theorem smallT_zero {ts : List Tab} (h : SmallT ts) : SmallT (ts ++ [T0]) := fun i => by
  by_cases hi : i < ts.length
  · rw [show (ts ++ [T0]).getD i T0 = ts.getD i T0 by simp [List.getD, List.getElem?_append_left hi]]
    exact h i
  · rw [show (ts ++ [T0]).getD i T0 = T0 by
      simp only [List.getD]
      rw [List.getElem?_append_right (by omega)]
      cases i - ts.length <;> rfl]
    exact Nat.zero_le _
/-- The list and a zero table behind it. -/
theorem bad_list {w : World} {B n c : Nat} {A : Option Addr} {rs : List TR} (hown : w.ownsRow B 29 4 (.slice A (n + 1) c) (n + 1) (flatT rs ++ TR0.cells)) (hl : rs.length = n)
    (hs : ∀ i, i < n → (rs.getD i TR0).t.slots.length ≤ (rs.getD i TR0).c ∧ (rs.getD i TR0).c ≤ 9223372036854775807 ∧ CapRd w (rs.getD i TR0).S (rs.getD i TR0).t.slots.length (rs.getD i TR0).t.slots) : TabRd w A (n + 1) (tabsOf rs ++ [T0]) := by
  have e : tabsOf rs ++ [T0] = tabsOf (rs ++ [TR0]) := by simp [tabsOf, TR0]
  rw [e]
  refine TabRd.of_row (RowO.of_own (by rw [show flatT (rs ++ [TR0]) = flatT rs ++ TR0.cells by simp [flatT]]; exact hown)) fun i hi => ?_
  by_cases h : i < n
  · rw [show (rs ++ [TR0]).getD i TR0 = rs.getD i TR0 by simp [List.getD, List.getElem?_append_left (show i < rs.length by omega)]]
    exact hs i h
  · obtain rfl : i = n := by omega
    rw [show (rs ++ [TR0]).getD i TR0 = TR0 by simp [List.getD, hl]]
    exact ⟨Nat.zero_le _, Nat.zero_le _, CapRd.nil _ _⟩

def DrawnSpot (b m : Nat) (w : World) (e : Ending) (w' : World) : Prop := ∃ (A : Option Addr) (n c : Nat) (ts : List Tab) (i s : Int), e = .returned (.tuple #[.slice A n c, .int .i64 i, .int .i64 s]) ∧
  TabN w' w.heap.size A n ts ∧ 1 ≤ n ∧ n ≤ 11 ∧ n ≤ c ∧ c ≤ 9223372036854775807 ∧ SmallT ts ∧ Rd w' b m ∧ Only b w w'

set_option maxHeartbeats 4000000 in
theorem spot_any (b m : Nat) (w : World) (hm : m ≤ 500000000) (h : Rd w b m) :
    Calls Try.prog 62 #[.pointer (some ⟨b, 0, none⟩)] w (DrawnSpot b (m + 10010) w) := by
  have hbw := h.lt
  go_enter Try.func62, Try.ntmps62
  go_wp2_with fail
  refine (tables_any _ _ _ _ (by omega) h (by omega)).mono ?_
  rintro e w1 ⟨A, n, c, ts, rfl, hT, n1, n2, hc, hc2, hS, hR1, hO1⟩
  have HT := Lib.hid hT
  have HS := Lib.hid hS
  clear hT hS
  go_wp2_with fail
  refine (pick_any _ _ _ _ (by omega) hR1).mono ?_
  rintro e w2 ⟨k2, rfl, -, -, hR2, hO2⟩
  go_wp2_with fail
  refine (pick_any _ _ _ _ (by omega) hR2).mono ?_
  rintro e w3 ⟨k3, rfl, -, -, hR3, hO3⟩
  go_wp2_with fail
  refine (pick_any _ _ _ _ (by omega) hR3).mono ?_
  rintro e w4 ⟨k4, rfl, -, -, hR4, hO4⟩
  go_wp2_with fail
  refine (pick_any _ _ _ _ (by omega) hR4).mono ?_
  rintro e w5 ⟨k5, rfl, -, -, hR5, hO5⟩
  have HR := Lib.hid (hR5.more (show _ ≤ m + 10010 by omega))
  have hO := hO2.trans (hO3.trans (hO4.trans hO5))
  have HO := Lib.hid (hO1.trans hO)
  have HT5 := Lib.hid (HT.out.only hO hbw)
  clear hR1 hO1 hR2 hO2 hR3 hO3 hR4 hO4 hR5 hO5 hO HT
  go_wp2_with fail
  go_ret3
  exact ⟨A, n, c, ts, _, _, rfl, HT5.out, n1, n2, hc, hc2, HS.out, HR.out, HO.out⟩

def DrawnTV (w : World) (e : Ending) (w' : World) : Prop := ∃ (x y z : Int) (S : Option Addr) (n c : Nat) (cs : List Cp), e = .returned (.agg #[.int .i64 x, .int .i64 y, .int .i64 z, .slice S n c]) ∧
  CapRd w' S n cs ∧ n ≤ 8 ∧ n ≤ c ∧ c ≤ 9223372036854775807 ∧ Below w.heap.size w w'
def DrawnTs (w : World) (e : Ending) (w' : World) : Prop := ∃ (A : Option Addr) (n c : Nat) (ts : List Tab), e = .returned (.slice A n c) ∧
  TabRd w' A n ts ∧ 1 ≤ n ∧ n ≤ 11 ∧ n ≤ c ∧ c ≤ 9223372036854775807 ∧ SmallT ts ∧ Below w.heap.size w w'
def DrawnSp (w : World) (e : Ending) (w' : World) : Prop := ∃ (A : Option Addr) (n c : Nat) (ts : List Tab) (i s : Int), e = .returned (.tuple #[.slice A n c, .int .i64 i, .int .i64 s]) ∧
  TabRd w' A n ts ∧ 1 ≤ n ∧ n ≤ 11 ∧ n ≤ c ∧ c ≤ 9223372036854775807 ∧ SmallT ts ∧ Below w.heap.size w w'
def DrawnPt (w : World) (e : Ending) (w' : World) : Prop := ∃ (A : Option Addr) (n c : Nat) (ts : List Tab) (i s x y u v : Int), e = .returned (.tuple #[.slice A n c, .int .i64 i, .int .i64 s, .agg #[.int .i64 x, .int .i64 y, .int .i64 u, .int .i64 v]]) ∧
  TabRd w' A n ts ∧ 1 ≤ n ∧ n ≤ 11 ∧ n ≤ c ∧ c ≤ 9223372036854775807 ∧ SmallT ts ∧ Below w.heap.size w w'
def DrawnLk (w : World) (e : Ending) (w' : World) : Prop := ∃ (A : Option Addr) (n c : Nat) (ts : List Tab) (i a d : Int), e = .returned (.tuple #[.slice A n c, .int .i64 i, .int .i64 a, .int .i64 d]) ∧
  TabRd w' A n ts ∧ 1 ≤ n ∧ n ≤ 11 ∧ n ≤ c ∧ c ≤ 9223372036854775807 ∧ SmallT ts ∧ Below w.heap.size w w'

set_option maxHeartbeats 2000000 in
theorem drawTableValid (v : Value) (w : World) (h : BytesIn w v) : Calls Try.prog 35 #[v] w (DrawnTV w) := by
  have hX := CAt.new w 29 [.int .i64 0, .int .i64 0, .int .i64 0, .slice none 0 0]
  go_enter Try.func35, Try.ntmps35
  go_wp2_with fail
  refine (open_any _ _ (h.below (below_al (Below.refl _ w) _))).mono ?_
  rintro e w1 ⟨b, rfl, hb, h1, hb1⟩
  have hX1 := hX.below hb1
  have hBX := below_next (below_al (Below.refl _ w) (.cells #[.int .i64 0, .int .i64 0, .int .i64 0, .slice none 0 0] 29)) hb1
  have hz1 := hb1.size
  simp at hb hz1
  clear hX hb1 h
  go_wp2_with fail
  refine (table_any _ _ _ _ _ (by omega) h1 (by omega) ⟨by omega, by omega⟩).mono ?_
  rintro e w2 ⟨x, y, z, S, n, c, cs, rfl, hN, hn8, hnc, hcm, hR2, hO2⟩
  have hX2 := hX1.grown hO2.grown (by simp; omega)
  obtain ⟨r0, r1, r2, r3⟩ := hX2.cells4
  have fR := hX2.free
  have hB2 := hO2.to_below hBX (by omega)
  have HN := Lib.hid (hN.keep (w' := (((w2.setCell ⟨w.heap.size, 0, none⟩ (.int .i64 x)).setCell ⟨w.heap.size, 1, none⟩ (.int .i64 y)).setCell ⟨w.heap.size, 2, none⟩ (.int .i64 z)).setCell ⟨w.heap.size, 3, none⟩ (.slice S n c)) (by simp [World.setCell]) fun g cur hg _ _ => by
    have hne : ∀ i : Nat, g ≠ (⟨w.heap.size, i, none⟩ : Addr).block := fun i => by show g ≠ w.heap.size; omega
    rw [Below.heap_setCell _ _ _ g (hne 3), Below.heap_setCell _ _ _ g (hne 2), Below.heap_setCell _ _ _ g (hne 1), Below.heap_setCell _ _ _ g (hne 0)])
  have HB := Lib.hid (below_set (below_set (below_set (below_set hB2 (p := ⟨w.heap.size, 0, none⟩) (Nat.le_refl _) (.int .i64 x)) (p := ⟨w.heap.size, 1, none⟩) (Nat.le_refl _) (.int .i64 y)) (p := ⟨w.heap.size, 2, none⟩) (Nat.le_refl _) (.int .i64 z)) (p := ⟨w.heap.size, 3, none⟩) (Nat.le_refl _) (.slice S n c))
  clear hX1 hX2 hBX hB2 hN hR2 hO2 h1
  go_wp2_with fail
  refine bodyPost_ret (v := .agg #[.int .i64 x, .int .i64 y, .int .i64 z, .slice S n c]) (by simp [results, Try.results35, go_sem, r0, r1, r2, r3]) rfl ⟨x, y, z, S, n, c, cs, rfl, HN.out.1, hn8, hnc, hcm, HB.out⟩

set_option maxHeartbeats 2000000 in
theorem drawTablesValid (v : Value) (w : World) (h : BytesIn w v) : Calls Try.prog 37 #[v] w (DrawnTs w) := by
  go_enter Try.func37, Try.ntmps37
  go_wp2_with fail
  refine (open_any _ _ h).mono ?_
  rintro e w1 ⟨b, rfl, hb, h1, hb1⟩
  go_wp2_with fail
  refine (tables_any _ _ _ _ (by omega) h1 (by omega)).mono ?_
  rintro e w2 ⟨A, n, c, ts, rfl, hT, n1, n2, hc, hc2, hS, hR2, hO2⟩
  have HT := Lib.hid hT.rd
  have HS := Lib.hid hS
  have HB := Lib.hid (hO2.to_below hb1 hb)
  clear h1 hb1 hT hS hR2 hO2 h hb
  go_wp2_with fail
  go_ret
  exact ⟨A, n, c, ts, rfl, HT.out, n1, n2, hc, hc2, HS.out, HB.out⟩

set_option maxHeartbeats 2000000 in
theorem drawReadSlot (v : Value) (w : World) (h : BytesIn w v) : Calls Try.prog 38 #[v] w (DrawnSp w) := by
  go_enter Try.func38, Try.ntmps38
  go_wp2_with fail
  refine (open_any _ _ h).mono ?_
  rintro e w1 ⟨b, rfl, hb, h1, hb1⟩
  go_wp2_with fail
  refine (spot_any _ _ _ (by omega) h1).mono ?_
  rintro e w2 ⟨A, n, c, ts, i, s, rfl, hT, n1, n2, hc, hc2, hS, hR2, hO2⟩
  have HT := Lib.hid hT.rd
  have HS := Lib.hid hS
  have HB := Lib.hid (hO2.to_below hb1 hb)
  clear h1 hb1 hT hS hR2 hO2 h hb
  go_wp2_with fail
  go_ret3
  exact ⟨A, n, c, ts, i, s, rfl, HT.out, n1, n2, hc, hc2, HS.out, HB.out⟩

set_option maxHeartbeats 2000000 in
theorem drawPutSlot (v : Value) (w : World) (h : BytesIn w v) : Calls Try.prog 41 #[v] w (DrawnPt w) := by
  have hX := CAt.new w 41 [.int .i64 0, .int .i64 0, .int .i64 0, .int .i64 0]
  go_enter Try.func41, Try.ntmps41
  go_wp2_with fail
  refine (open_any _ _ (h.below (below_al (Below.refl _ w) _))).mono ?_
  rintro e w1 ⟨b, rfl, hb, h1, hb1⟩
  have hX1 := hX.below hb1
  have hBX := below_next (below_al (Below.refl _ w) (.cells #[.int .i64 0, .int .i64 0, .int .i64 0, .int .i64 0] 41)) hb1
  have hz1 := hb1.size
  simp at hb hz1
  have hblt := h1.lt
  clear hX hb1 h
  go_wp2_with fail
  refine (spot_any _ _ _ (by omega) h1).mono ?_
  rintro e w2 ⟨A, n, c, ts, i, s, rfl, hT, n1, n2, hc, hc2, hS, hR2, hO2⟩
  have HS := Lib.hid hS
  clear hS h1
  go_wp2_with fail
  refine (cap_any _ _ _ _ (by omega) hR2 (by omega)).mono ?_
  rintro e w3 ⟨ck, co, cr, cb, rfl, hR3, hO3⟩
  have hX3 := (hX1.grown hO2.grown (by simp; omega)).grown hO3.grown (by simp; omega)
  obtain ⟨r0, r1, r2, r3⟩ := hX3.cells4
  have fR := hX3.free
  have hB3 := (hO2.trans hO3).to_below hBX (by omega)
  have HT := Lib.hid ((hT.only hO3 (by omega)).keep (w' := (((w3.setCell ⟨w.heap.size, 0, none⟩ (.int .i64 ck)).setCell ⟨w.heap.size, 1, none⟩ (.int .i64 co)).setCell ⟨w.heap.size, 2, none⟩ (.int .i64 cr)).setCell ⟨w.heap.size, 3, none⟩ (.int .i64 cb)) (by simp [World.setCell]) fun g hg _ => by
    have hne : ∀ i : Nat, g ≠ (⟨w.heap.size, i, none⟩ : Addr).block := fun i => by show g ≠ w.heap.size; omega
    rw [Below.heap_setCell _ _ _ g (hne 3), Below.heap_setCell _ _ _ g (hne 2), Below.heap_setCell _ _ _ g (hne 1), Below.heap_setCell _ _ _ g (hne 0)])
  have HB := Lib.hid (below_set (below_set (below_set (below_set hB3 (p := ⟨w.heap.size, 0, none⟩) (Nat.le_refl _) (.int .i64 ck)) (p := ⟨w.heap.size, 1, none⟩) (Nat.le_refl _) (.int .i64 co)) (p := ⟨w.heap.size, 2, none⟩) (Nat.le_refl _) (.int .i64 cr)) (p := ⟨w.heap.size, 3, none⟩) (Nat.le_refl _) (.int .i64 cb))
  clear hX1 hX3 hBX hB3 hT hR2 hO2 hR3 hO3
  go_wp2_with fail
  refine bodyPost_ret (v := .tuple #[.slice A n c, .int .i64 i, .int .i64 s, .agg #[.int .i64 ck, .int .i64 co, .int .i64 cr, .int .i64 cb]]) (by simp [results, Try.results41, go_sem, r0, r1, r2, r3]) rfl ⟨A, n, c, ts, i, s, ck, co, cr, cb, rfl, HT.out.rd, n1, n2, hc, hc2, HS.out, HB.out⟩

end Go.Proofs.Ytdafogfpbpjmdaa
