/- Rows of cells at the head of a block, whatever lies behind them; lists of integers so held: what eqIntS, sameInts, markIntS, heldIntS, Clip do with them. No condition beyond those written. -/
import Derived.Test.YtpglfbjjmnaojaaInts
namespace Go.Proofs.Ytpglfbjjmnaojaa
open Go.RowKit
set_option linter.unusedVariables false

/-- The slice '.slice A n c' holds the cells vs ('sz' cells an element of type T), at the head of a block from base on. -/
def RowO (w : World) (base : Nat) (T : TypeId) (sz : Nat) (A : Option Addr) (n c : Nat) (vs : List Value) : Prop :=
  vs.length = n * sz ∧ n ≤ c ∧ c ≤ maxLen ∧ (0 < n → ∃ (g : Nat) (cur : Array Value), A = some ⟨g, 0, none⟩ ∧ base ≤ g ∧ w.heap[g]? = some (.cells cur T (0, 0)) ∧ cur.toList.take (n * sz) = vs)

theorem grown_trans {a b c : World} {r : Option Nat} (h : a.grownBy b r) (k : b.grownBy c r) : a.grownBy c r := h.trans k
theorem grown_of_below {a w : World} (h : Below a.heap.size a w) (r : Option Nat) : a.grownBy w r := ⟨h.os, h.tape, h.output, h.size, fun i hi _ => h.block i hi⟩
theorem grown_set (w : World) (g i : Nat) (v : Value) : w.grownBy (w.setCell ⟨g, i, none⟩ v) (some g) :=
  ⟨rfl, rfl, rfl, by simp [World.setCell], fun k hk hne => Below.heap_setCell w ⟨g, i, none⟩ v k (fun e => hne (by rw [e]))⟩
/-- What a call that writes to a new block alone leaves. -/
theorem below_grown {B : Nat} {a w w' : World} {r : Option Nat} (h : Below B a w) (hB : B ≤ w.heap.size) (hg : w.grownBy w' r) (hr : ∀ x, r = some x → B ≤ x) : Below B a w' := h.grown hg hB hr

section
variable {w w' : World} {base n c sz : Nat} {A : Option Addr} {T : TypeId} {vs : List Value}
theorem RowO.len (h : RowO w base T sz A n c vs) : vs.length = n * sz := h.1
theorem RowO.nil (w : World) (base : Nat) (T : TypeId) (sz c : Nat) (A : Option Addr) (hc : c ≤ maxLen) : RowO w base T sz A 0 c [] := ⟨by simp, Nat.zero_le _, hc, fun h => absurd h (by omega)⟩
theorem RowO.at_ (h : RowO w base T sz A n c vs) (hn : 0 < n) :
    ∃ g : Nat, A = some ⟨g, 0, none⟩ ∧ base ≤ g ∧ g < w.heap.size ∧ (∀ j, j < n * sz → w.cell? ⟨g, j, none⟩ = vs[j]?) ∧ (∀ j, w.frozen? ⟨g, j, none⟩ = false) := by
  obtain ⟨hl, _, _, h⟩ := h
  obtain ⟨g, cur, hA, hb, hg, ht⟩ := h hn
  refine ⟨g, hA, hb, (Array.getElem?_eq_some_iff.1 hg).1, fun j hj => ?_, fun j => frozen_of_row w g j cur _ hg⟩
  rw [cell_of_row w g j cur _ (0, 0) hg, ← ht, List.getElem?_take, if_pos hj]
  simp
theorem RowO.keepAt (h : RowO w base T sz A n c vs) (hk : ∀ g, 0 < n → A = some ⟨g, 0, none⟩ → base ≤ g → g < w.heap.size → w'.heap[g]? = w.heap[g]?) : RowO w' base T sz A n c vs :=
  ⟨h.1, h.2.1, h.2.2.1, fun hn => by
    obtain ⟨g, cur, hA, hb, hg, ht⟩ := h.2.2.2 hn
    exact ⟨g, cur, hA, hb, (hk g hn hA hb (Array.getElem?_eq_some_iff.1 hg).1).trans hg, ht⟩⟩
theorem RowO.below (h : RowO w base T sz A n c vs) (hb : Below w.heap.size w w') : RowO w' base T sz A n c vs := h.keepAt fun g _ _ _ hg => hb.block g hg
theorem RowO.alloc (h : RowO w base T sz A n c vs) (o : Obj) : RowO (w.alloc o) base T sz A n c vs := h.below (below_al (Below.refl _ _) o)
theorem RowO.drewN (h : RowO w base T sz A n c vs) (q : Nat) : RowO (w.drewN q) base T sz A n c vs := h
theorem RowO.drew (h : RowO w base T sz A n c vs) : RowO w.drew base T sz A n c vs := h
theorem RowO.more (h : RowO w base T sz A n c vs) {base' : Nat} (hb : base' ≤ base) : RowO w base' T sz A n c vs :=
  ⟨h.1, h.2.1, h.2.2.1, fun hn => by
    obtain ⟨g, cur, hA, hbg, rest⟩ := h.2.2.2 hn
    exact ⟨g, cur, hA, by omega, rest⟩⟩
/-- A change of one other block. -/
theorem RowO.grown (h : RowO w base T sz A n c vs) {r : Option Nat} (hg : w.grownBy w' r) (hr : ∀ x, r = some x → x < base) : RowO w' base T sz A n c vs :=
  h.keepAt fun g _ _ hb hlt => hg.block g hlt (fun e => by have := hr g e.symm; omega)
theorem RowO.grownFar (h : RowO w base T sz A n c vs) {r : Option Nat} (hg : w.grownBy w' r) (hr : ∀ g, A = some ⟨g, 0, none⟩ → r ≠ some g) : RowO w' base T sz A n c vs :=
  h.keepAt fun g _ hA _ hlt => hg.block g hlt (fun e => hr g hA e.symm)
theorem RowO.setLow (h : RowO w base T sz A n c vs) {b i : Nat} (hb : b < base) (v : Value) : RowO (w.setCell ⟨b, i, none⟩ v) base T sz A n c vs :=
  h.grown (grown_set w b i v) (fun x e => by injection e with e; omega)
theorem RowO.set {g : Nat} (h : RowO w base T sz (some ⟨g, 0, none⟩) n c vs) (i : Nat) (hi : i < n * sz) (v : Value) : RowO (w.setCell ⟨g, i, none⟩ v) base T sz (some ⟨g, 0, none⟩) n c (vs.set i v) := by
  obtain ⟨hl, hn, hm, hh⟩ := h
  have hn0 : 0 < n := Nat.pos_of_ne_zero (fun e => by subst e; omega)
  obtain ⟨g', cur, hA, hb, hg, ht⟩ := hh hn0
  injection hA with hA
  injection hA with hA
  subst hA
  refine ⟨by rw [List.length_set]; exact hl, hn, hm, fun _ => ⟨g, cur.setIfInBounds i v, rfl, hb, heap_setCell_same w g _ cur _ v hg, ?_⟩⟩
  rw [Array.toList_setIfInBounds, List.take_set, ht]
theorem RowO.clip (h : RowO w base T sz A n c vs) : RowO w base T sz A n n vs := ⟨h.1, Nat.le_refl _, Nat.le_trans h.2.1 h.2.2.1, h.2.2.2⟩
theorem RowO.of_own (h : w.ownsRow base T sz (.slice A n c) n vs) : RowO w base T sz A n c vs := by
  rcases h.2 with ⟨hv, h0⟩ | ⟨g, cap, cur, hv, hb, hg, hnc, hcm, hs, ht⟩
  · injection hv with h1 h2 h3
    subst h0 h3
    exact ⟨h.1, Nat.le_refl _, by decide, fun h => absurd h (by omega)⟩
  · injection hv with h1 h2 h3
    subst h1 h3
    exact ⟨h.1, hnc, hcm, fun _ => ⟨g, cur, rfl, hb, hg, ht⟩⟩
end

/-- The block of a list that is not empty. -/
def rowOf (A : Option Addr) (n : Nat) : Option Nat := if n = 0 then none else A.map (·.block)
theorem rowOf_pos {g n : Nat} (hn : 0 < n) : rowOf (some ⟨g, 0, none⟩) n = some g := by
  unfold rowOf
  rw [if_neg (by omega)]
  rfl
theorem rowOf_nil (A : Option Addr) : rowOf A 0 = none := rfl
theorem RowO.row {w : World} {base n c sz : Nat} {A : Option Addr} {T : TypeId} {vs : List Value} (h : RowO w base T sz A n c vs) : ∀ g, rowOf A n = some g → base ≤ g ∧ g < w.heap.size := fun g hg => by
  by_cases hn : n = 0
  · subst hn; cases hg
  · obtain ⟨b, rfl, hb, hl, -⟩ := h.at_ (by omega)
    rw [rowOf_pos (by omega)] at hg
    injection hg with hg
    subst hg
    exact ⟨hb, hl⟩

def IntO (w : World) (base : Nat) (A : Option Addr) (n c : Nat) (xs : List Int) : Prop := RowO w base 3 1 A n c (xs.map (Value.int .i64))
section
variable {w w' : World} {base n c : Nat} {A : Option Addr} {xs : List Int}
theorem IntO.len (h : IntO w base A n c xs) : xs.length = n := by have := h.1; simpa using this
theorem IntO.of_own (h : OwnI w base A n c xs) : IntO w base A n c xs := RowO.of_own h
theorem IntO.below (h : IntO w base A n c xs) (hb : Below w.heap.size w w') : IntO w' base A n c xs := RowO.below h hb
theorem IntO.at_ (h : IntO w base A n c xs) (hn : 0 < n) :
    ∃ g : Nat, A = some ⟨g, 0, none⟩ ∧ base ≤ g ∧ g < w.heap.size ∧ (∀ j, j < n → w.cell? ⟨g, j, none⟩ = some (.int .i64 (xs.getD j 0))) ∧ (∀ j, w.frozen? ⟨g, j, none⟩ = false) := by
  obtain ⟨g, h1, h2, h3, h4, h5⟩ := RowO.at_ h hn
  refine ⟨g, h1, h2, h3, fun j hj => ?_, h5⟩
  have hl := h.len
  rw [h4 j (by omega)]
  have hj' : j < xs.length := by omega
  simp [List.getD, hj']
end

set_option maxHeartbeats 1000000 in
theorem laws_eqIntO (A B : Option Addr) (n c d b1 b2 : Nat) (xs : List Int) (w : World) (h1 : IntO w b1 A n c xs) (h2 : IntO w b2 B n d xs) (hn : n ≤ 2000000) :
    Calls Try.prog 28 #[.slice A n c, .slice B n d] w fun e w' => e = .returned (.bool true) ∧ Below w.heap.size w w' := by
  have H1 := Lib.hid h1
  have H2 := Lib.hid h2
  clear h1 h2
  go_enter Try.func28, Try.ntmps28
  go_wp2_with fail
  go_loopw [5] (fun i wr => ∃ k q : Nat, k ≤ n ∧ i = .int .i64 k ∧ wr = w.drewN q) (fun i _ => n - (intOf i).toNat)
  case atStart => exact ⟨0, 0, Nat.zero_le _, rfl, rfl⟩
  case round =>
    obtain ⟨k, q, hk, rfl, rfl⟩ := hrel
    by_cases hlt : k < n
    · obtain ⟨g1, rfl, _, _, hc1, _⟩ := H1.out.at_ (by omega)
      obtain ⟨g2, rfl, _, _, hc2, _⟩ := H2.out.at_ (by omega)
      have e1 := hc1 k hlt
      have e2 := hc2 k hlt
      have hlt' : (k : Int) < (n : Int) := by omega
      have hk0 : (0 : Int) ≤ (k : Int) := by omega
      clear hc1 hc2
      generalize xs.getD k 0 = x at *
      go_wp2_with fail
      go_quiet (fail)
      go_wp2_with fail
      go_roundw
      case rel => exact ⟨k + 1, _, by omega, by go_num, rfl⟩
      case measure => simp [intOf]; omega
    · have hge : ¬ (k : Int) < (n : Int) := by omega
      go_wp2_with fail
      go_ret
      exact ⟨rfl, below_drewN' (Below.refl _ _) _⟩

set_option maxHeartbeats 1000000 in
theorem laws_sameIntO (A B : Option Addr) (n c d b1 b2 : Nat) (xs : List Int) (w : World) (h1 : IntO w b1 A n c xs) (h2 : IntO w b2 B n d xs) (hn : n ≤ 2000000) :
    Calls Try.prog 44 #[.slice A n c, .slice B n d] w fun e w' => e = .returned (.bool true) ∧ Below w.heap.size w w' := by
  have H1 := Lib.hid h1
  have H2 := Lib.hid h2
  clear h1 h2
  go_enter Try.func44, Try.ntmps44
  go_wp2_with fail
  go_loopw [5] (fun i wr => ∃ k q : Nat, k ≤ n ∧ i = .int .i64 k ∧ wr = w.drewN q) (fun i _ => n - (intOf i).toNat)
  case atStart => exact ⟨0, 0, Nat.zero_le _, rfl, rfl⟩
  case round =>
    obtain ⟨k, q, hk, rfl, rfl⟩ := hrel
    by_cases hlt : k < n
    · obtain ⟨g1, rfl, _, _, hc1, _⟩ := H1.out.at_ (by omega)
      obtain ⟨g2, rfl, _, _, hc2, _⟩ := H2.out.at_ (by omega)
      have e1 := hc1 k hlt
      have e2 := hc2 k hlt
      have hlt' : (k : Int) < (n : Int) := by omega
      have hk0 : (0 : Int) ≤ (k : Int) := by omega
      clear hc1 hc2
      generalize xs.getD k 0 = x at *
      go_wp2_with fail
      go_quiet (fail)
      go_wp2_with fail
      go_roundw
      case rel => exact ⟨k + 1, _, by omega, by go_num, rfl⟩
      case measure => simp [intOf]; omega
    · have hge : ¬ (k : Int) < (n : Int) := by omega
      go_wp2_with fail
      go_ret
      exact ⟨rfl, below_drewN' (Below.refl _ _) _⟩

set_option maxHeartbeats 1000000 in
theorem laws_markIntO (A : Option Addr) (n c base : Nat) (xs : List Int) (k0 : Int) (w : World) (h1 : IntO w base A n c xs) (hn : n ≤ 2000000) (hk : 0 ≤ k0) (hk2 : k0 ≤ 1000000000) :
    Calls Try.prog 30 #[.slice A n c, .int .i64 k0] w fun e w' => e = .returned (.int .i64 (k0 + n)) ∧ IntO w' base A n c (marks k0 n) ∧ w.grownBy w' (rowOf A n) := by
  have H0 : ∃ vs : List Value, RowO w base 3 1 A n c vs ∧ (∀ t, t < n → ∃ x : Int, vs[t]? = some (.int .i64 x)) := by
    refine ⟨_, h1, fun t ht => ?_⟩
    have hl := h1.len
    exact ⟨xs[t]'(by omega), by simp [List.getElem?_eq_getElem (show t < xs.length by omega)]⟩
  have H0 := Lib.hid H0
  clear h1
  go_enter Try.func30, Try.ntmps30
  go_wp2_with fail
  go_loopw [1, 5] (fun kv i wr => ∃ (j : Nat) (vs : List Value), j ≤ n ∧ i = .int .i64 j ∧ kv = .int .i64 (k0 + j) ∧ RowO wr base 3 1 A n c vs ∧ (∀ t, t < n → ∃ x : Int, vs[t]? = some (.int .i64 x)) ∧ (∀ t, t < j → vs[t]? = some (.int .i64 (k0 + t))) ∧ w.grownBy wr (rowOf A n))
    (fun _ i _ => n - (intOf i).toNat)
  case atStart =>
    obtain ⟨vs, h1, h2⟩ := H0.out
    exact ⟨0, vs, Nat.zero_le _, rfl, by simp, h1, h2, fun t ht => by omega, World.grownBy.refl w _⟩
  case round =>
    obtain ⟨j, vs, hj, rfl, rfl, ho, hint, hpre, hgr⟩ := hrel
    by_cases hlt : j < n
    · obtain ⟨g, rfl, hbg, hgl, hc1, hf1⟩ := ho.at_ (by omega)
      obtain ⟨x, hx⟩ := hint j hlt
      have e1 := (hc1 j (by omega)).trans hx
      have f1 := hf1 j
      have hst := ho.set j (by omega) (.int .i64 (k0 + j))
      have hsg := grown_set wr g j (.int .i64 (k0 + j))
      have hgb : rowOf (some ⟨g, 0, none⟩) n = some g := rowOf_pos (by omega)
      have HGB := Lib.hid hgb
      have hvl : vs.length = n := by have := ho.1; omega
      rw [hgb] at hgr
      have HS := Lib.hid (And.intro hst hsg)
      have HI := Lib.hid hint
      have HP := Lib.hid hpre
      have HG := Lib.hid hgr
      have HV := Lib.hid hvl
      have hlt' : (j : Int) < (n : Int) := by omega
      have hk0 : (0 : Int) ≤ (j : Int) := by omega
      clear hc1 hf1 hst hsg hint hpre hgr hgb ho hx hvl
      go_wp2_with fail
      go_roundw
      case rel =>
        refine ⟨j + 1, _, by omega, by go_num, by go_num, HS.out.1, fun t ht => ?_, fun t ht => ?_, by rw [HGB.out]; exact HG.out.trans HS.out.2⟩
        · by_cases e : j = t
          · subst e
            exact ⟨k0 + j, by simp [HV.out, hlt]⟩
          · obtain ⟨y, hy⟩ := HI.out t ht
            exact ⟨y, by simp [e, hy]⟩
        · by_cases e : j = t
          · subst e
            simp [HV.out, hlt]
          · simp [e, HP.out t (by omega)]
      case measure => simp [intOf]; omega
    · have hge : ¬ (j : Int) < (n : Int) := by omega
      have hjn : j = n := by omega
      subst hjn
      have HS := Lib.hid ho
      have HP := Lib.hid hpre
      have HG := Lib.hid hgr
      clear ho hpre hint hgr
      go_wp2_with fail
      go_ret
      refine ⟨rfl, ?_, HG.out⟩
      have : (marks k0 j).map (Value.int .i64) = vs := by
        have hl := HS.out.1
        apply List.ext_getElem?
        intro t
        by_cases ht : t < j
        · rw [HP.out t ht]; simp [marks, ht]
        · rw [List.getElem?_eq_none (by simp [marks]; omega), List.getElem?_eq_none (by omega)]
      unfold IntO
      rw [this]
      exact HS.out

set_option maxHeartbeats 1000000 in
theorem laws_heldIntO (A : Option Addr) (n c base : Nat) (k0 : Int) (w : World) (h1 : IntO w base A n c (marks k0 n)) (hn : n ≤ 2000000) (hk : 0 ≤ k0) (hk2 : k0 ≤ 1000000000) :
    Calls Try.prog 31 #[.slice A n c, .int .i64 k0] w fun e w' => e = .returned (.int .i64 (k0 + n)) ∧ w = w' := by
  have H1 := Lib.hid h1
  clear h1
  go_enter Try.func31, Try.ntmps31
  go_wp2_with fail
  go_loop [1, 5] (fun kv i => ∃ j : Nat, j ≤ n ∧ i = .int .i64 j ∧ kv = .int .i64 (k0 + j)) (fun _ i => n - (intOf i).toNat)
  case atStart => exact ⟨0, Nat.zero_le _, rfl, by simp⟩
  case round =>
    obtain ⟨j, hj, rfl, rfl⟩ := hrel
    by_cases hlt : j < n
    · obtain ⟨g, rfl, _, _, hc1, _⟩ := H1.out.at_ (by omega)
      have e1 := hc1 j hlt
      rw [marks_at k0 n j hlt] at e1
      have hlt' : (j : Int) < (n : Int) := by omega
      have hk0 : (0 : Int) ≤ (j : Int) := by omega
      clear hc1
      go_wp2_with fail
      go_round
      case rel => exact ⟨j + 1, by omega, by go_num, by go_num⟩
      case measure => simp [intOf]; omega
    · have hge : ¬ (j : Int) < (n : Int) := by omega
      have hjn : j = n := by omega
      subst hjn
      go_wp2_with fail
      go_ret
      exact ⟨rfl, rfl⟩

set_option maxHeartbeats 400000 in
theorem clip_ints (A : Option Addr) (n c : Nat) (w : World) (hc : n ≤ c) :
    Calls Try.prog 76 #[.slice A n c] w fun e w' => e = .returned (.slice A n n) ∧ w = w' := by
  have hc' : (n : Int) ≤ (c : Int) := by omega
  have hn0 : (0 : Int) ≤ (n : Int) := by omega
  go_enter Try.func76, Try.ntmps76
  go_wp2_with fail
  go_ret
  exact ⟨rfl, rfl⟩

end Go.Proofs.Ytpglfbjjmnaojaa
