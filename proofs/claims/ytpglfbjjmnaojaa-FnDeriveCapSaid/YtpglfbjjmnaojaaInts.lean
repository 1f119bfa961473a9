/- Lists of integers that a call made: what eqIntS, sameInts, markIntS, heldIntS do with them. No condition beyond those written. -/
import Derived.Test.YtpglfbjjmnaojaaBlocks
namespace Go.Proofs.Ytpglfbjjmnaojaa
open Go.RowKit
set_option linter.unusedVariables false

/-- The slice value '.slice A n c' owns the integers xs, from block base on. -/
def OwnI (w : World) (base : Nat) (A : Option Addr) (n c : Nat) (xs : List Int) : Prop := w.ownsRow base 3 1 (.slice A n c) n (xs.map (Value.int .i64))
section
variable {w w' : World} {base n c : Nat} {A : Option Addr} {xs : List Int} {vs : List Value}
theorem OwnI.len (h : OwnI w base A n c xs) : xs.length = n := by have := h.1; simpa using this
theorem OwnI.nil (w : World) (base : Nat) : OwnI w base none 0 0 [] := World.ownsRow_nil w base 3 1
theorem own_at (h : w.ownsRow base 3 1 (.slice A n c) n vs) (hn : 0 < n) :
    ∃ g : Nat, A = some ⟨g, 0, none⟩ ∧ base ≤ g ∧ g < w.heap.size ∧ (∀ j, j < n → w.cell? ⟨g, j, none⟩ = vs[j]?) ∧ (∀ j, w.frozen? ⟨g, j, none⟩ = false) := by
  rcases h.2 with ⟨_, h0⟩ | ⟨g, cap, cur, hv, hb, hg, _⟩
  · omega
  · injection hv with h1 h2 h3
    subst h1 h3
    exact ⟨g, rfl, hb, (Array.getElem?_eq_some_iff.1 hg).1, fun j hj => h.cellAt j (by omega), fun j => h.frozenAt j⟩
theorem OwnI.at_ (h : OwnI w base A n c xs) (hn : 0 < n) :
    ∃ g : Nat, A = some ⟨g, 0, none⟩ ∧ base ≤ g ∧ g < w.heap.size ∧ (∀ j, j < n → w.cell? ⟨g, j, none⟩ = some (.int .i64 (xs.getD j 0))) ∧ (∀ j, w.frozen? ⟨g, j, none⟩ = false) := by
  obtain ⟨g, h1, h2, h3, h4, h5⟩ := own_at h hn
  refine ⟨g, h1, h2, h3, fun j hj => ?_, h5⟩
  have hl := h.len
  rw [h4 j hj]
  have hj' : j < xs.length := by omega
  simp [List.getD, hj']
theorem OwnI.below (h : OwnI w base A n c xs) (hb : Below w.heap.size w w') : OwnI w' base A n c xs :=
  h.kept (row := none) ⟨hb.os, hb.tape, hb.output, hb.size, fun k hk _ => hb.block k hk⟩ (by cases h' : (Value.slice A n c).ownBlock <;> simp)
theorem OwnI.alloc (h : OwnI w base A n c xs) (o : Obj) : OwnI (w.alloc o) base A n c xs := h.below (below_al (Below.refl _ _) o)
theorem OwnI.drewN (h : OwnI w base A n c xs) (q : Nat) : OwnI (w.drewN q) base A n c xs := h
theorem OwnI.drew (h : OwnI w base A n c xs) : OwnI w.drew base A n c xs := h
/-- A store to a block that is not the list's. -/
theorem OwnI.setOther (h : OwnI w base A n c xs) {b i : Nat} (hb : b < base) (v : Value) : OwnI (w.setCell ⟨b, i, none⟩ v) base A n c xs := ownsRow_setCell_below h hb v
theorem OwnI.more (h : OwnI w base A n c xs) {base' : Nat} (hb : base' ≤ base) : OwnI w base' A n c xs := by
  refine ⟨h.1, ?_⟩
  rcases h.2 with h0 | ⟨g, cap, cur, hv, hbg, rest⟩
  · exact .inl h0
  · exact .inr ⟨g, cap, cur, hv, by omega, rest⟩
end
theorem below_drewN' {B : Nat} {a w : World} (h : Below B a w) (n : Nat) : Below B a (w.drewN n) := ⟨h.os, h.tape, h.output, h.size, h.block⟩

set_option maxHeartbeats 1000000 in
theorem laws_eqIntS (A B : Option Addr) (n c d b1 b2 : Nat) (xs : List Int) (w : World) (h1 : OwnI w b1 A n c xs) (h2 : OwnI w b2 B n d xs) (hn : n ≤ 1000000) :
    Calls Try.prog 28 #[.slice A n c, .slice B n d] w fun e w' => e = .returned (.bool true) ∧ Below w.heap.size w w' := by
  have H1 := Lib.hid h1
  have H2 := Lib.hid h2
  clear h1 h2
  go_enter Try.func28, Try.ntmps28
  go_wp2_with fail
  go_loopw [5] (fun i wr => ∃ k q : Nat, k ≤ n ∧ i = .int .i64 k ∧ wr = w.drewN q) (fun i _ => n - (intOf i).toNat)
  case atStart => exact ⟨0, 0, Nat.zero_le _, rfl, rfl⟩
  case round =>
    obtain ⟨k, q, hk, rfl, rfl⟩ := hrel
    by_cases hlt : k < n
    · obtain ⟨g1, rfl, _, _, hc1, _⟩ := H1.out.at_ (by omega)
      obtain ⟨g2, rfl, _, _, hc2, _⟩ := H2.out.at_ (by omega)
      have e1 := hc1 k hlt
      have e2 := hc2 k hlt
      have hlt' : (k : Int) < (n : Int) := by omega
      have hk0 : (0 : Int) ≤ (k : Int) := by omega
      clear hc1 hc2
      generalize xs.getD k 0 = x at *
      go_wp2_with fail
      go_quiet (fail)
      go_wp2_with fail
      go_roundw
      case rel => exact ⟨k + 1, _, by omega, by go_num, rfl⟩
      case measure => simp [intOf]; omega
    · have hge : ¬ (k : Int) < (n : Int) := by omega
      go_wp2_with fail
      go_ret
      exact ⟨rfl, below_drewN' (Below.refl _ _) _⟩

set_option maxHeartbeats 1000000 in
theorem laws_sameInts (A B : Option Addr) (n c d b1 b2 : Nat) (xs : List Int) (w : World) (h1 : OwnI w b1 A n c xs) (h2 : OwnI w b2 B n d xs) (hn : n ≤ 1000000) :
    Calls Try.prog 44 #[.slice A n c, .slice B n d] w fun e w' => e = .returned (.bool true) ∧ Below w.heap.size w w' := by
  have H1 := Lib.hid h1
  have H2 := Lib.hid h2
  clear h1 h2
  go_enter Try.func44, Try.ntmps44
  go_wp2_with fail
  go_loopw [5] (fun i wr => ∃ k q : Nat, k ≤ n ∧ i = .int .i64 k ∧ wr = w.drewN q) (fun i _ => n - (intOf i).toNat)
  case atStart => exact ⟨0, 0, Nat.zero_le _, rfl, rfl⟩
  case round =>
    obtain ⟨k, q, hk, rfl, rfl⟩ := hrel
    by_cases hlt : k < n
    · obtain ⟨g1, rfl, _, _, hc1, _⟩ := H1.out.at_ (by omega)
      obtain ⟨g2, rfl, _, _, hc2, _⟩ := H2.out.at_ (by omega)
      have e1 := hc1 k hlt
      have e2 := hc2 k hlt
      have hlt' : (k : Int) < (n : Int) := by omega
      have hk0 : (0 : Int) ≤ (k : Int) := by omega
      clear hc1 hc2
      generalize xs.getD k 0 = x at *
      go_wp2_with fail
      go_quiet (fail)
      go_wp2_with fail
      go_roundw
      case rel => exact ⟨k + 1, _, by omega, by go_num, rfl⟩
      case measure => simp [intOf]; omega
    · have hge : ¬ (k : Int) < (n : Int) := by omega
      go_wp2_with fail
      go_ret
      exact ⟨rfl, below_drewN' (Below.refl _ _) _⟩

/-- The numbers that markIntS writes. -/
def marks (k : Int) (n : Nat) : List Int := (List.range n).map fun t : Nat => k + (t : Int)
theorem marks_at (k : Int) (n j : Nat) (h : j < n) : (marks k n).getD j 0 = k + j := by simp [marks, List.getD, h]

set_option maxHeartbeats 1000000 in
theorem laws_markIntS (A : Option Addr) (n c base : Nat) (xs : List Int) (k0 : Int) (w : World) (h1 : OwnI w base A n c xs) (hn : n ≤ 1000000) (hk : 0 ≤ k0) (hk2 : k0 ≤ 1000000000) :
    Calls Try.prog 30 #[.slice A n c, .int .i64 k0] w fun e w' => e = .returned (.int .i64 (k0 + n)) ∧ OwnI w' base A n c (marks k0 n) ∧ w.grownBy w' (Value.slice A n c).ownBlock := by
  have H0 : ∃ vs : List Value, w.ownsRow base 3 1 (.slice A n c) n vs ∧ (∀ t, t < n → ∃ x : Int, vs[t]? = some (.int .i64 x)) := by
    refine ⟨_, h1, fun t ht => ?_⟩
    have hl := h1.len
    exact ⟨xs[t]'(by omega), by simp [List.getElem?_eq_getElem (show t < xs.length by omega)]⟩
  have H0 := Lib.hid H0
  clear h1
  go_enter Try.func30, Try.ntmps30
  go_wp2_with fail
  go_loopw [1, 5] (fun kv i wr => ∃ (j : Nat) (vs : List Value), j ≤ n ∧ i = .int .i64 j ∧ kv = .int .i64 (k0 + j) ∧ wr.ownsRow base 3 1 (.slice A n c) n vs ∧ (∀ t, t < n → ∃ x : Int, vs[t]? = some (.int .i64 x)) ∧ (∀ t, t < j → vs[t]? = some (.int .i64 (k0 + t))) ∧ w.grownBy wr (Value.slice A n c).ownBlock)
    (fun _ i _ => n - (intOf i).toNat)
  case atStart =>
    obtain ⟨vs, h1, h2⟩ := H0.out
    exact ⟨0, vs, Nat.zero_le _, rfl, by simp, h1, h2, fun t ht => by omega, World.grownBy.refl w _⟩
  case round =>
    obtain ⟨j, vs, hj, rfl, rfl, ho, hint, hpre, hgr⟩ := hrel
    by_cases hlt : j < n
    · obtain ⟨g, rfl, hbg, hgl, hc1, hf1⟩ := own_at ho (by omega)
      obtain ⟨x, hx⟩ := hint j hlt
      have e1 := (hc1 j hlt).trans hx
      have f1 := hf1 j
      have hst := ho.stored j (.int .i64 (k0 + j))
      have hgb : (Value.slice (some ⟨g, 0, none⟩) n c).ownBlock = some g := rfl
      have hvl : vs.length = n := by have := ho.1; omega
      rw [hgb] at hgr
      have HS := Lib.hid hst
      have HI := Lib.hid hint
      have HP := Lib.hid hpre
      have HG := Lib.hid hgr
      have HV := Lib.hid hvl
      have hlt' : (j : Int) < (n : Int) := by omega
      have hk0 : (0 : Int) ≤ (j : Int) := by omega
      clear hc1 hf1 hst hint hpre hgr hgb ho hx hvl
      go_wp2_with fail
      go_roundw
      case rel =>
        refine ⟨j + 1, _, by omega, by go_num, by go_num, HS.out.1, fun t ht => ?_, fun t ht => ?_, HG.out.trans HS.out.2⟩
        · by_cases e : j = t
          · subst e
            exact ⟨k0 + j, by simp [HV.out, hlt]⟩
          · obtain ⟨y, hy⟩ := HI.out t ht
            exact ⟨y, by simp [e, hy]⟩
        · by_cases e : j = t
          · subst e
            simp [HV.out, hlt]
          · simp [e, HP.out t (by omega)]
      case measure => simp [intOf]; omega
    · have hge : ¬ (j : Int) < (n : Int) := by omega
      have hjn : j = n := by omega
      subst hjn
      have HS := Lib.hid ho
      have HP := Lib.hid hpre
      have HG := Lib.hid hgr
      clear ho hpre hint hgr
      go_wp2_with fail
      go_ret
      refine ⟨rfl, ?_, HG.out⟩
      have : (marks k0 j).map (Value.int .i64) = vs := by
        have hl := HS.out.1
        apply List.ext_getElem?
        intro t
        by_cases ht : t < j
        · rw [HP.out t ht]; simp [marks, ht]
        · rw [List.getElem?_eq_none (by simp [marks]; omega), List.getElem?_eq_none (by omega)]
      unfold OwnI
      rw [this]
      exact HS.out

set_option maxHeartbeats 1000000 in
theorem laws_heldIntS (A : Option Addr) (n c base : Nat) (k0 : Int) (w : World) (h1 : OwnI w base A n c (marks k0 n)) (hn : n ≤ 1000000) (hk : 0 ≤ k0) (hk2 : k0 ≤ 1000000000) :
    Calls Try.prog 31 #[.slice A n c, .int .i64 k0] w fun e w' => e = .returned (.int .i64 (k0 + n)) ∧ w = w' := by
  have H1 := Lib.hid h1
  clear h1
  go_enter Try.func31, Try.ntmps31
  go_wp2_with fail
  go_loop [1, 5] (fun kv i => ∃ j : Nat, j ≤ n ∧ i = .int .i64 j ∧ kv = .int .i64 (k0 + j)) (fun _ i => n - (intOf i).toNat)
  case atStart => exact ⟨0, Nat.zero_le _, rfl, by simp⟩
  case round =>
    obtain ⟨j, hj, rfl, rfl⟩ := hrel
    by_cases hlt : j < n
    · obtain ⟨g, rfl, _, _, hc1, _⟩ := H1.out.at_ (by omega)
      have e1 := hc1 j hlt
      rw [marks_at k0 n j hlt] at e1
      have hlt' : (j : Int) < (n : Int) := by omega
      have hk0 : (0 : Int) ≤ (j : Int) := by omega
      clear hc1
      go_wp2_with fail
      go_round
      case rel => exact ⟨j + 1, by omega, by go_num, by go_num⟩
      case measure => simp [intOf]; omega
    · have hge : ¬ (j : Int) < (n : Int) := by omega
      have hjn : j = n := by omega
      subst hjn
      go_wp2_with fail
      go_ret
      exact ⟨rfl, rfl⟩

end Go.Proofs.Ytpglfbjjmnaojaa
