/- What sameTable and sameTables answer on equal lists. No condition beyond those written. -/
import Derived.Test.YtdafogfpbpjmdaaTabE
namespace Go.Proofs.Ytdafogfpbpjmdaa
open Go.RowKit
set_option linter.unusedVariables false

set_option maxHeartbeats 4000000 in
theorem laws_sameTable (bits guard gbits : Int) (S S' : Option Addr) (n c c' : Nat) (cs : List Cp) (w : World) (h1 : CapRd w S n cs) (h2 : CapRd w S' n cs) (hn : n ≤ 2000000) :
    Calls Try.prog 69 #[.agg #[.int .i64 bits, .int .i64 guard, .int .i64 gbits, .slice S n c], .agg #[.int .i64 bits, .int .i64 guard, .int .i64 gbits, .slice S' n c']] w
    fun e w' => e = .returned (.bool true) ∧ Below w.heap.size w w' := by
  have hB0 := below_al (below_al (Below.refl _ w) (.cells #[.int .i64 bits, .int .i64 guard, .int .i64 gbits, .slice S n c] 29)) (.cells #[.int .i64 bits, .int .i64 guard, .int .i64 gbits, .slice S' n c'] 29)
  have hA := (CAt.new w 29 [.int .i64 bits, .int .i64 guard, .int .i64 gbits, .slice S n c]).alloc (.cells #[.int .i64 bits, .int .i64 guard, .int .i64 gbits, .slice S' n c'] 29)
  have hE := CAt.new (w.alloc (.cells #[.int .i64 bits, .int .i64 guard, .int .i64 gbits, .slice S n c] 29)) 29 [.int .i64 bits, .int .i64 guard, .int .i64 gbits, .slice S' n c']
  rw [World.size_alloc] at hE
  have H1 := Lib.hid (h1.below hB0)
  have H2 := Lib.hid (h2.below hB0)
  have HA := Lib.hid hA
  have HE := Lib.hid hE
  have HB0 := Lib.hid hB0
  clear h1 h2 hA hE hB0
  go_enter Try.func69, Try.ntmps69
  go_wp2_with fail
  generalize (w.alloc (.cells #[.int .i64 bits, .int .i64 guard, .int .i64 gbits, .slice S n c] 29)).alloc (.cells #[.int .i64 bits, .int .i64 guard, .int .i64 gbits, .slice S' n c'] 29) = W at *
  go_loopw [5] (fun i wr => ∃ j q : Nat, j ≤ n ∧ i = .int .i64 j ∧ wr = W.drewN q) (fun i _ => n - (intOf i).toNat)
  case atStart => exact ⟨0, 0, Nat.zero_le _, rfl, rfl⟩
  case round =>
    obtain ⟨j, q, hj, rfl, rfl⟩ := hrel
    obtain ⟨x0, x1, x2, x3⟩ := HA.out.cells4
    obtain ⟨y0, y1, y2, y3⟩ := HE.out.cells4
    by_cases hlt : j < n
    · obtain ⟨g, o, rfl, hg, hc⟩ := H1.out.2 (by omega)
      obtain ⟨g', o', rfl, hg', hc'⟩ := H2.out.2 (by omega)
      obtain ⟨a0, a1, a2, a3⟩ := hc j hlt
      obtain ⟨b0, b1, b2, b3⟩ := hc' j hlt
      obtain ⟨k, x, r, b, hx⟩ : ∃ k x r b, cs.getD j C0 = ⟨k, x, r, b⟩ := ⟨_, _, _, _, rfl⟩
      rw [hx] at a0 a1 a2 a3 b0 b1 b2 b3
      simp only at a0 a1 a2 a3 b0 b1 b2 b3
      have hlt' : (j : Int) < (n : Int) := by omega
      have hj0 : (0 : Int) ≤ (j : Int) := by omega
      clear hc hc' hx
      go_wp2_with fail
      go_quiet (fail)
      go_wp2_with fail
      go_roundw
      case rel => exact ⟨j + 1, _, by omega, by go_num, rfl⟩
      case measure => simp [intOf]; omega
    · have hge : ¬ (j : Int) < (n : Int) := by omega
      go_wp2_with fail
      go_ret
      exact ⟨rfl, below_drewN' HB0.out _⟩

set_option maxHeartbeats 8000000 in
theorem laws_sameTables (A A' : Option Addr) (n c c' : Nat) (ts : List Tab) (w : World) (h1 : TabRd w A n ts) (h2 : TabRd w A' n ts) (hn : n ≤ 2000000) (hs : SmallT ts) :
    Calls Try.prog 42 #[.slice A n c, .slice A' n c'] w fun e w' => e = .returned (.bool true) ∧ Below w.heap.size w w' := by
  have H1 := Lib.hid h1
  have H2 := Lib.hid h2
  have HS := Lib.hid hs
  clear h1 h2 hs
  go_enter Try.func42, Try.ntmps42
  go_wp2_with fail
  go_loopw [5] (fun i wr => ∃ j : Nat, j ≤ n ∧ i = .int .i64 j ∧ Below w.heap.size w wr) (fun i _ => n - (intOf i).toNat)
  case atStart => exact ⟨0, Nat.zero_le _, rfl, Below.refl _ _⟩
  case round =>
    obtain ⟨j, hj, rfl, hb⟩ := hrel
    by_cases hlt : j < n
    · obtain ⟨g, o, rfl, hg, hc⟩ := H1.out.2 (by omega)
      obtain ⟨g', o', rfl, hg', hc'⟩ := H2.out.2 (by omega)
      obtain ⟨S, q, hc⟩ := hc j hlt
      obtain ⟨S', q', hc'⟩ := hc' j hlt
      have HT : Hid (TwT w g (o + j * 4) g' (o' + j * 4) (ts.getD j T0) S S' q q' wr) := ⟨hb, ⟨hg, hc⟩, ⟨hg', hc'⟩⟩
      have hsm := HS.out j
      have he := fun W R (hW : TwT w g (o + j * 4) g' (o' + j * 4) (ts.getD j T0) S S' q q' W ∧ R) => laws_sameTable (ts.getD j T0).bits (ts.getD j T0).guard (ts.getD j T0).gbits S S' (ts.getD j T0).slots.length q q' (ts.getD j T0).slots W (TwT.rd hW).1 (TwT.rd hW).2 hsm
      have hlt' : (j : Int) < (n : Int) := by omega
      have hj0 : (0 : Int) ≤ (j : Int) := by omega
      clear hb hg hg' hc hc' hsm
      generalize hx : (ts.getD j T0).bits = x at *
      generalize hy : (ts.getD j T0).guard = y at *
      generalize hz : (ts.getD j T0).gbits = z at *
      generalize hm : (ts.getD j T0).slots.length = m at *
      have HX := Lib.hid hx
      have HY := Lib.hid hy
      have HZ := Lib.hid hz
      have HM := Lib.hid hm
      clear hx hy hz hm
      go_wp2_with fail
      (first
        | (go_region_held3 (fun w' => TwT w g (o + j * 4) g' (o' + j * 4) (ts.getD j T0) S S' q q' w' ∧
              w'.cell? ⟨g, o + j * 4, none⟩ = some (.int .i64 x) ∧ w'.cell? ⟨g, o + j * 4 + 1, none⟩ = some (.int .i64 y) ∧ w'.cell? ⟨g, o + j * 4 + 2, none⟩ = some (.int .i64 z) ∧ w'.cell? ⟨g, o + j * 4 + 3, none⟩ = some (.slice S m q) ∧
              w'.cell? ⟨g', o' + j * 4, none⟩ = some (.int .i64 x) ∧ w'.cell? ⟨g', o' + j * 4 + 1, none⟩ = some (.int .i64 y) ∧ w'.cell? ⟨g', o' + j * 4 + 2, none⟩ = some (.int .i64 z) ∧ w'.cell? ⟨g', o' + j * 4 + 3, none⟩ = some (.slice S' m q'))
            (first | exact (TwT.drew HT.out).cells HX.out HY.out HZ.out HM.out | exact (TwT.step (by assumption) (by assumption)).cells HX.out HY.out HZ.out HM.out)
            (first | (go_at_call 69; refine (he _ _ (by assumption)).mono ?_; rintro e w9 ⟨rfl, hb9⟩)))
        | fail)
      have hT : TwT w g (o + j * 4) g' (o' + j * 4) (ts.getD j T0) S S' q q' w9 := And.left (by assumption)
      have HT := Lib.hid hT
      clear hT
      go_wp2_with fail
      go_roundw
      case rel => exact ⟨j + 1, by omega, by go_num, HT.out.1⟩
      case measure => simp [intOf]; omega
    · have hge : ¬ (j : Int) < (n : Int) := by omega
      have HB := Lib.hid hb
      clear hb
      go_wp2_with fail
      go_ret
      exact ⟨rfl, HB.out⟩

end Go.Proofs.Ytdafogfpbpjmdaa
