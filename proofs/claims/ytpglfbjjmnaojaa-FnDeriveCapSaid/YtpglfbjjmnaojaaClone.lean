/- The copy of a list of entries: slices.Clone, slices.Clip and the program's clone, over the cells. No condition beyond those written. -/
import Derived.Test.YtpglfbjjmnaojaaRowO
import Derived.Laws.AppendOwn
import Derived.Laws.AppendOwnNone
namespace Go.Proofs.Ytpglfbjjmnaojaa
open Go.RowKit
set_option linter.unusedVariables false

theorem entry_info : (Try.prog.info? 48).map (fun i => (i.zero, i.size, i.bytes)) = some (some (.agg #[.int .i64 0, .int .i64 0, .int .i64 0, .int .i64 0, .int .i64 0, .bool false]), 6, 48) := by kernel_rfl

set_option maxHeartbeats 1000000 in
theorem clone1_row (A : Option Addr) (n c b1 : Nat) (vs : List Value) (w : World) (h : RowO w b1 48 6 A n c vs) (h1 : ∀ u ∈ vs, u.oneCell' = true) (hn : n ≤ 2000000) (hA : A = none → n = 0) :
    Calls Try.prog 78 #[.slice A n c] w fun e w' => (∃ (A' : Option Addr) (c' : Nat), e = .returned (.slice A' n c') ∧ RowO w' w.heap.size 48 6 A' n c' vs) ∧ Below w.heap.size w w' := by
  obtain ⟨i0, hi, hz0, hz1, hz2⟩ := info_parts entry_info
  have q : ∀ (w : World) (a : Option Addr) (n c n' c' : Nat), (binOp .eql 25 (.slice a n c) (.slice none n' c')).run Try.prog w = .ok (.bool a.isNone) w := fun w a n c n' c' => Lib.run_eql_slice_nil w _ _ a n c n' c' Try.underlying25
  cases A with
  | none =>
    obtain rfl := hA rfl
    have hvs : vs = [] := List.eq_nil_of_length_eq_zero (by have := h.1; omega)
    subst hvs
    clear h
    go_enter Try.func78, Try.ntmps78
    go_wp2_with fail
    go_ret
    exact ⟨⟨_, _, rfl, RowO.nil _ _ _ _ _ _ (by decide)⟩, Below.refl _ _⟩
  | some ad =>
    have hcell : ∀ j u, vs[j]? = some u → w.cell? (ad.add j) = some u := by
      intro j u hj
      have hjl : j < vs.length := (List.getElem?_eq_some_iff.1 hj).1
      have hl := h.1
      obtain ⟨g, hA, _, _, hc, _⟩ := h.at_ (by omega)
      injection hA with hA
      subst hA
      rw [Go.WideShapes.add_plain, Nat.zero_add, hc j (by omega), hj]
    have HC := Lib.hid hcell
    have HL := Lib.hid h.1
    have HV := Lib.hid h1
    clear hcell h h1
    go_enter Try.func78, Try.ntmps78
    go_wp2_with (at_builtin; refine wpList_append_own _ rfl _ _ 25 rfl w.heap.size 48 i0 _ 6 48 Try.underlying25 hi hz0 hz1 hz2 rfl (by decide) _ _ _ rfl (World.ownsRow_made w #[] 0 (Nat.le_refl _) (Nat.zero_le _) (by simp)) ad n c vs rfl ?qc1 ?qc2 ?qc3 ?qc4 ?qc5 ?qc6 ?_)
    case qc1 => exact HL.out
    case qc2 =>
      intro j u hj
      have := HC.out j u hj
      rw [World.cell?_alloc_lt]
      · exact this
      · exact World.block_lt_of_cell? w _ this
    case qc3 => exact HV.out
    case qc4 => simp only [maxLen]; omega
    case qc5 => omega
    case qc6 => simp
    intro v' w1 hown hgrow _
    have hown : w1.ownsRow w.heap.size 48 6 v' n vs := by simpa using hown
    have hrow : ∃ A' c', v' = .slice A' n c' := by
      rcases hown.2 with ⟨rfl, h0⟩ | ⟨g, cap, cur, rfl, _⟩
      · exact ⟨none, 0, by rw [h0]⟩
      · exact ⟨_, _, rfl⟩
    obtain ⟨A', c', rfl⟩ := hrow
    have hB : Below w.heap.size w w1 := ((Below.refl _ w).alloc (Nat.le_refl _) _).grown hgrow (by simp) (by intro k hk; simp [Value.ownBlock] at hk; omega)
    have hO := RowO.of_own hown
    have HO := Lib.hid hO
    have HB := Lib.hid hB
    clear hown hgrow hO hB
    go_wp2_with fail
    go_ret
    exact ⟨⟨_, _, rfl, HO.out⟩, HB.out⟩

set_option maxHeartbeats 400000 in
theorem clip_ents (A : Option Addr) (n c : Nat) (w : World) (hc : n ≤ c) :
    Calls Try.prog 77 #[.slice A n c] w fun e w' => e = .returned (.slice A n n) ∧ w = w' := by
  have hc' : (n : Int) ≤ (c : Int) := by omega
  have hn0 : (0 : Int) ≤ (n : Int) := by omega
  go_enter Try.func77, Try.ntmps77
  go_wp2_with fail
  go_ret
  exact ⟨rfl, rfl⟩

set_option maxHeartbeats 400000 in
theorem clone_row (A : Option Addr) (n c b1 : Nat) (vs : List Value) (w : World) (h : RowO w b1 48 6 A n c vs) (h1 : ∀ u ∈ vs, u.oneCell' = true) (hn : n ≤ 2000000) (hA : A = none → n = 0) :
    Calls Try.prog 59 #[.slice A n c] w fun e w' => (∃ A' : Option Addr, e = .returned (.slice A' n n) ∧ RowO w' w.heap.size 48 6 A' n n vs) ∧ Below w.heap.size w w' := by
  have hc1 := clone1_row A n c b1 vs w h h1 hn hA
  clear h h1
  go_enter Try.func59, Try.ntmps59
  go_wp2_with fail
  refine hc1.mono ?_
  rintro e w1 ⟨⟨A', c', rfl, hO⟩, hB⟩
  have hcc := hO.2.1
  have HO := Lib.hid hO
  have HB := Lib.hid hB
  clear hO hB hc1
  go_wp2_with fail
  refine (clip_ents A' n c' w1 hcc).mono ?_
  rintro e w2 ⟨rfl, rfl⟩
  go_wp2_with fail
  go_ret
  exact ⟨⟨_, rfl, HO.out.clip⟩, HB.out⟩

end Go.Proofs.Ytpglfbjjmnaojaa
