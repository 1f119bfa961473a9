/- The copies of a list of capabilities and of a list of tables: slices.Clone, slices.Clip and the program's clone, over the cells. No condition beyond those written. -/
import Derived.Test.YtdafogfpbpjmdaaTabT
import Derived.Laws.AppendOwn
import Derived.Laws.AppendOwnNone
namespace Go.Proofs.Ytdafogfpbpjmdaa
open Go.RowKit
set_option linter.unusedVariables false

set_option maxHeartbeats 1000000 in
theorem clone1_caps (ad : Addr) (n c : Nat) (vs : List Value) (w : World) (hl : vs.length = n * 4) (hcell : ∀ j u, vs[j]? = some u → w.cell? (ad.add j) = some u) (h1 : ∀ u ∈ vs, u.oneCell' = true) (hn : n ≤ 2000000) :
    Calls Try.prog 78 #[.slice (some ad) n c] w fun e w' => (∃ (A' : Option Addr) (c' : Nat), e = .returned (.slice A' n c') ∧ RowO w' w.heap.size 41 4 A' n c' vs) ∧ Below w.heap.size w w' := by
  obtain ⟨i0, hi, hz0, hz1, hz2⟩ := info_parts cap_info
  have q : ∀ (w : World) (a : Option Addr) (n c n' c' : Nat), (binOp .eql 27 (.slice a n c) (.slice none n' c')).run Try.prog w = .ok (.bool a.isNone) w := fun w a n c n' c' => Lib.run_eql_slice_nil w _ _ a n c n' c' Try.underlying27
  have HC := Lib.hid hcell
  have HL := Lib.hid hl
  have HV := Lib.hid h1
  clear hcell hl h1
  go_enter Try.func78, Try.ntmps78
  go_wp2_with (at_builtin; refine wpList_append_own _ rfl _ _ 27 rfl w.heap.size 41 i0 _ 4 32 Try.underlying27 hi hz0 hz1 hz2 rfl (by decide) _ _ _ rfl (World.ownsRow_made w #[] 0 (Nat.le_refl _) (Nat.zero_le _) (by simp)) ad n c vs rfl ?qc1 ?qc2 ?qc3 ?qc4 ?qc5 ?qc6 ?_)
  case qc1 => exact HL.out
  case qc2 =>
    intro j u hj
    have := HC.out j u hj
    rw [World.cell?_alloc_lt]
    · exact this
    · exact World.block_lt_of_cell? w _ this
  case qc3 => exact HV.out
  case qc4 => simp only [maxLen]; omega
  case qc5 => omega
  case qc6 => simp
  intro v' w1 hown hgrow _
  have hown : w1.ownsRow w.heap.size 41 4 v' n vs := by simpa using hown
  have hrow : ∃ A' c', v' = .slice A' n c' := by
    rcases hown.2 with ⟨rfl, h0⟩ | ⟨g, cap, cur, rfl, _⟩
    · exact ⟨none, 0, by rw [h0]⟩
    · exact ⟨_, _, rfl⟩
  obtain ⟨A', c', rfl⟩ := hrow
  have hB : Below w.heap.size w w1 := ((Below.refl _ w).alloc (Nat.le_refl _) _).grown hgrow (by simp) (by intro k hk; simp [Value.ownBlock] at hk; omega)
  have hO := RowO.of_own hown
  have HO := Lib.hid hO
  have HB := Lib.hid hB
  clear hown hgrow hO hB
  go_wp2_with fail
  go_ret
  exact ⟨⟨_, _, rfl, HO.out⟩, HB.out⟩

set_option maxHeartbeats 400000 in
theorem clip_caps (A : Option Addr) (n c : Nat) (w : World) (hc : n ≤ c) :
    Calls Try.prog 77 #[.slice A n c] w fun e w' => e = .returned (.slice A n n) ∧ w = w' := by
  have hc' : (n : Int) ≤ (c : Int) := by omega
  have hn0 : (0 : Int) ≤ (n : Int) := by omega
  go_enter Try.func77, Try.ntmps77
  go_wp2_with fail
  go_ret
  exact ⟨rfl, rfl⟩

set_option maxHeartbeats 400000 in
theorem clone_caps (ad : Addr) (n c : Nat) (vs : List Value) (w : World) (hl : vs.length = n * 4) (hcell : ∀ j u, vs[j]? = some u → w.cell? (ad.add j) = some u) (h1 : ∀ u ∈ vs, u.oneCell' = true) (hn : n ≤ 2000000) :
    Calls Try.prog 55 #[.slice (some ad) n c] w fun e w' => (∃ A' : Option Addr, e = .returned (.slice A' n n) ∧ RowO w' w.heap.size 41 4 A' n n vs) ∧ Below w.heap.size w w' := by
  have hc1 := clone1_caps ad n c vs w hl hcell h1 hn
  clear hl hcell h1
  go_enter Try.func55, Try.ntmps55
  go_wp2_with fail
  refine hc1.mono ?_
  rintro e w1 ⟨⟨A', c', rfl, hO⟩, hB⟩
  have hcc := hO.2.1
  have HO := Lib.hid hO
  have HB := Lib.hid hB
  clear hO hB hc1
  go_wp2_with fail
  refine (clip_caps A' n c' w1 hcc).mono ?_
  rintro e w2 ⟨rfl, rfl⟩
  go_wp2_with fail
  go_ret
  exact ⟨⟨_, rfl, HO.out.clip⟩, HB.out⟩

set_option maxHeartbeats 1000000 in
theorem clone1_tables (ad : Addr) (n c : Nat) (vs : List Value) (w : World) (hl : vs.length = n * 4) (hcell : ∀ j u, vs[j]? = some u → w.cell? (ad.add j) = some u) (h1 : ∀ u ∈ vs, u.oneCell' = true) (hn : n ≤ 2000000) :
    Calls Try.prog 76 #[.slice (some ad) n c] w fun e w' => (∃ (A' : Option Addr) (c' : Nat), e = .returned (.slice A' n c') ∧ RowO w' w.heap.size 29 4 A' n c' vs) ∧ Below w.heap.size w w' := by
  obtain ⟨i0, hi, hz0, hz1, hz2⟩ := info_parts table_info
  have q : ∀ (w : World) (a : Option Addr) (n c n' c' : Nat), (binOp .eql 36 (.slice a n c) (.slice none n' c')).run Try.prog w = .ok (.bool a.isNone) w := fun w a n c n' c' => Lib.run_eql_slice_nil w _ _ a n c n' c' Try.underlying36
  have HC := Lib.hid hcell
  have HL := Lib.hid hl
  have HV := Lib.hid h1
  clear hcell hl h1
  go_enter Try.func76, Try.ntmps76
  go_wp2_with (at_builtin; refine wpList_append_own _ rfl _ _ 36 rfl w.heap.size 29 i0 _ 4 48 Try.underlying36 hi hz0 hz1 hz2 rfl (by decide) _ _ _ rfl (World.ownsRow_made w #[] 0 (Nat.le_refl _) (Nat.zero_le _) (by simp)) ad n c vs rfl ?qc1 ?qc2 ?qc3 ?qc4 ?qc5 ?qc6 ?_)
  case qc1 => exact HL.out
  case qc2 =>
    intro j u hj
    have := HC.out j u hj
    rw [World.cell?_alloc_lt]
    · exact this
    · exact World.block_lt_of_cell? w _ this
  case qc3 => exact HV.out
  case qc4 => simp only [maxLen]; omega
  case qc5 => omega
  case qc6 => simp
  intro v' w1 hown hgrow _
  have hown : w1.ownsRow w.heap.size 29 4 v' n vs := by simpa using hown
  have hrow : ∃ A' c', v' = .slice A' n c' := by
    rcases hown.2 with ⟨rfl, h0⟩ | ⟨g, cap, cur, rfl, _⟩
    · exact ⟨none, 0, by rw [h0]⟩
    · exact ⟨_, _, rfl⟩
  obtain ⟨A', c', rfl⟩ := hrow
  have hB : Below w.heap.size w w1 := ((Below.refl _ w).alloc (Nat.le_refl _) _).grown hgrow (by simp) (by intro k hk; simp [Value.ownBlock] at hk; omega)
  have hO := RowO.of_own hown
  have HO := Lib.hid hO
  have HB := Lib.hid hB
  clear hown hgrow hO hB
  go_wp2_with fail
  go_ret
  exact ⟨⟨_, _, rfl, HO.out⟩, HB.out⟩

set_option maxHeartbeats 400000 in
theorem clip_tables (A : Option Addr) (n c : Nat) (w : World) (hc : n ≤ c) :
    Calls Try.prog 75 #[.slice A n c] w fun e w' => e = .returned (.slice A n n) ∧ w = w' := by
  have hc' : (n : Int) ≤ (c : Int) := by omega
  have hn0 : (0 : Int) ≤ (n : Int) := by omega
  go_enter Try.func75, Try.ntmps75
  go_wp2_with fail
  go_ret
  exact ⟨rfl, rfl⟩

set_option maxHeartbeats 400000 in
theorem clone_tables (ad : Addr) (n c : Nat) (vs : List Value) (w : World) (hl : vs.length = n * 4) (hcell : ∀ j u, vs[j]? = some u → w.cell? (ad.add j) = some u) (h1 : ∀ u ∈ vs, u.oneCell' = true) (hn : n ≤ 2000000) :
    Calls Try.prog 54 #[.slice (some ad) n c] w fun e w' => (∃ A' : Option Addr, e = .returned (.slice A' n n) ∧ RowO w' w.heap.size 29 4 A' n n vs) ∧ Below w.heap.size w w' := by
  have hc1 := clone1_tables ad n c vs w hl hcell h1 hn
  clear hl hcell h1
  go_enter Try.func54, Try.ntmps54
  go_wp2_with fail
  refine hc1.mono ?_
  rintro e w1 ⟨⟨A', c', rfl, hO⟩, hB⟩
  have hcc := hO.2.1
  have HO := Lib.hid hO
  have HB := Lib.hid hB
  clear hO hB hc1
  go_wp2_with fail
  refine (clip_tables A' n c' w1 hcc).mono ?_
  rintro e w2 ⟨rfl, rfl⟩
  go_wp2_with fail
  go_ret
  exact ⟨⟨_, rfl, HO.out.clip⟩, HB.out⟩

/-- The cells behind a list that is read, wherever it begins. -/
theorem CapRd.flat {w : World} {g o n : Nat} {cs : List Cp} (h : CapRd w (some ⟨g, o, none⟩) n cs) : (flatC cs).length = n * 4 ∧ ∀ j u, (flatC cs)[j]? = some u → w.cell? (Addr.add ⟨g, o, none⟩ j) = some u := by
  refine ⟨by rw [flatC_len, h.1], fun j u hj => ?_⟩
  have hjl : j < (flatC cs).length := (List.getElem?_eq_some_iff.1 hj).1
  rw [flatC_len, h.1] at hjl
  obtain ⟨g', o', hA, -, hc⟩ := h.2 (by omega)
  injection hA with hA
  injection hA with hA hB
  subst hA hB
  have h4 : j % 4 < 4 := Nat.mod_lt _ (by omega)
  have q := flatG_get (f := Cp.cells) (sz := 4) (d := C0) (fun _ => rfl) cs (j / 4) (j % 4) (by rw [h.1]; omega) h4
  rw [show j / 4 * 4 + j % 4 = j by omega] at q
  unfold flatC at hj
  rw [q] at hj
  obtain ⟨c0, c1, c2, c3⟩ := hc (j / 4) (by omega)
  rw [Go.WideShapes.add_plain]
  rcases (show j % 4 = 0 ∨ j % 4 = 1 ∨ j % 4 = 2 ∨ j % 4 = 3 by omega) with e | e | e | e <;> rw [e] at hj
  · rw [show o + j = o + j / 4 * 4 by omega, c0]; exact hj
  · rw [show o + j = o + j / 4 * 4 + 1 by omega, c1]; exact hj
  · rw [show o + j = o + j / 4 * 4 + 2 by omega, c2]; exact hj
  · rw [show o + j = o + j / 4 * 4 + 3 by omega, c3]; exact hj
/-- A list of tables with where their slots lie. -/
theorem TabRd.rows {w : World} {g o n : Nat} {ts : List Tab} (h : TabRd w (some ⟨g, o, none⟩) n ts) (hg : 0 < n) : ∃ rs : List TR, tabsOf rs = ts ∧ (flatT rs).length = n * 4 ∧ (∀ j u, (flatT rs)[j]? = some u → w.cell? (Addr.add ⟨g, o, none⟩ j) = some u) ∧ rs.length = n ∧
    ∀ i, i < n → (rs.getD i TR0).t.slots.length ≤ (rs.getD i TR0).c ∧ (rs.getD i TR0).c ≤ 9223372036854775807 ∧ CapRd w (rs.getD i TR0).S (rs.getD i TR0).t.slots.length (rs.getD i TR0).t.slots := by
  obtain ⟨g', o', hA, -, hc⟩ := h.2 hg
  injection hA with hA
  injection hA with hA hB
  subst hA hB
  obtain ⟨rs, hl, hr⟩ := list_of (d := TR0) (q := fun i (r : TR) => r.t = ts.getD i T0 ∧ TabCell w g (o + i * 4) r.t r.S r.c) (n := n) (fun i hi => by
    obtain ⟨S, c, hT⟩ := hc i hi
    exact ⟨⟨ts.getD i T0, S, c⟩, rfl, hT⟩)
  refine ⟨rs, ?_, by rw [flatT_len, hl], fun j u hj => ?_, hl, fun i hi => ?_⟩
  · refine list_ext (d := T0) (by rw [tabsOf_len, hl, h.1]) fun t ht => ?_
    rw [tabsOf_len, hl] at ht
    rw [tabsOf_get]
    exact (hr t ht).1
  · have hjl : j < (flatT rs).length := (List.getElem?_eq_some_iff.1 hj).1
    rw [flatT_len, hl] at hjl
    have h4 : j % 4 < 4 := Nat.mod_lt _ (by omega)
    have q := flatG_get (f := TR.cells) (sz := 4) (d := TR0) (fun _ => rfl) rs (j / 4) (j % 4) (by rw [hl]; omega) h4
    rw [show j / 4 * 4 + j % 4 = j by omega] at q
    unfold flatT at hj
    rw [q] at hj
    obtain ⟨-, c0, c1, c2, c3, -⟩ := hr (j / 4) (by omega)
    rw [Go.WideShapes.add_plain]
    rcases (show j % 4 = 0 ∨ j % 4 = 1 ∨ j % 4 = 2 ∨ j % 4 = 3 by omega) with e | e | e | e <;> rw [e] at hj
    · rw [show o + j = o + j / 4 * 4 by omega, c0]; exact hj
    · rw [show o + j = o + j / 4 * 4 + 1 by omega, c1]; exact hj
    · rw [show o + j = o + j / 4 * 4 + 2 by omega, c2]; exact hj
    · rw [show o + j = o + j / 4 * 4 + 3 by omega, c3]; exact hj
  · obtain ⟨-, -, -, -, -, a, b, c⟩ := hr i hi
    exact ⟨a, b, c⟩

end Go.Proofs.Ytdafogfpbpjmdaa
