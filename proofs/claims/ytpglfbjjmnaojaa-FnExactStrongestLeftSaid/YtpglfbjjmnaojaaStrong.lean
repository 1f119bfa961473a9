/- StrongestLeft of the program and of the reference. No condition beyond those written. -/
import Derived.Test.YtpglfbjjmnaojaaDValid
import Derived.Test.YtpglfbjjmnaojaaDValidI
namespace Go.Proofs.Ytpglfbjjmnaojaa
open Go.RowKit
set_option linter.unusedVariables false

/-- The rights that the live entries of one object among the first j leave together. -/
def strong (es : List Ent) (k o : Int) : Nat → Int
  | 0 => 0
  | j + 1 => if !(es.getD j E0).g && (es.getD j E0).k == k && (es.getD j E0).o == o then bits .or .i64 (strong es k o j) (es.getD j E0).r else strong es k o j
def strongest (es : List Ent) (k o : Int) : Int := if dValid es then strong es k o es.length else 0

set_option maxRecDepth 8000 in
set_option maxHeartbeats 16000000 in
theorem spec_StrongestLeft (A : Option Addr) (n c b1 : Nat) (es : List Ent) (K O : Int) (w : World) (h : EntO w b1 A n c es) (hn : n ≤ 2000000) :
    Calls Try.prog 22 #[.slice A n c, .int .i64 K, .int .i64 O] w fun e w' => e = .returned (.int .i64 (strongest es K O)) ∧ Below w.heap.size w w' := by
  have hK : EntK w.heap.size w A n c b1 es w := ⟨h, Below.refl _ _, Nat.le_refl _⟩
  have hl := h.1
  have HL := Lib.hid hl
  clear h hl
  have hV := fun W (h : EntO W b1 A n c es) => spec_DerivationValid A n c b1 es W h hn
  have HK := Lib.hid hK
  clear hK
  have HV := Lib.hid hV
  clear hV
  go_enter Try.func22, Try.ntmps22
  go_wp2_with fail
  go_loopw [7, 8] (fun v i wr => ∃ j : Nat, j ≤ n ∧ i = .int .i64 j ∧ (0 < j → dValid es = true) ∧ v = .int .i64 (strong es K O j) ∧ EntK w.heap.size w A n c b1 es wr) (fun _ i _ => n - (intOf i).toNat)
  case atStart => exact ⟨0, Nat.zero_le _, rfl, fun h => absurd h (by omega), rfl, HK.out⟩
  case round =>
    clear HK
    obtain ⟨j, hj, rfl, hdv, rfl, hK⟩ := hrel
    have HDV := Lib.hid hdv
    clear hdv
    by_cases hlt : j < n
    · have hlt0 : (j : Int) < (n : Int) := by omega
      cases hd : dValid es
      · have hv := HV.out _ hK.1
        rw [hd] at hv
        have HKK := Lib.hid hK
        clear hK
        go_wp2_with fail
        refine hv.mono ?_
        rintro e w1 ⟨rfl, hb1⟩
        go_wp2_with fail
        go_ret
        have hj0 : j = 0 := by
          by_cases h : 0 < j
          · have := HDV.out h
            rw [hd] at this
            cases this
          · omega
        refine ⟨?_, HKK.out.2.1.trans (hb1.mono HKK.out.2.2)⟩
        subst hj0
        simp [strongest, hd, strong]
      · have hv := HV.out _ hK.1
        rw [hd] at hv
        have HKK := Lib.hid hK
        clear hK
        go_wp2_with fail
        refine hv.mono ?_
        rintro e w1 ⟨rfl, hb1⟩
        have hK := EntK.step hb1 ⟨HKK.out, trivial⟩
        clear hb1 hv HKK
        obtain ⟨g, rfl, -, hgl, -⟩ := hK.1.at_ (by omega)
        obtain ⟨k, o, r, b, p, q, hx⟩ : ∃ k o r b p q, es.getD j E0 = ⟨k, o, r, b, p, q⟩ := ⟨_, _, _, _, _, _, rfl⟩
        have HS : Hid (strong es K O (j + 1) = if !q && k == K && o == O then bits .or .i64 (strong es K O j) r else strong es K O j) := by show _ = _; rw [strong, hx]
        have HX := Lib.hid hx
        clear hx
        have hlt' : (j : Int) < (n : Int) := by omega
        have hj0 : (0 : Int) ≤ (j : Int) := by omega
        obtain ⟨a0, a1, a2, a3, a4, a5⟩ := hK.cells hlt HX.out
        have HKK := Lib.hid hK
        clear hK
        cases q <;> cases h1 : (k == K) <;> cases h2 : (o == O)
        all_goals
          go_wp2_with fail
          go_roundw
          case rel => exact ⟨j + 1, by omega, by go_num, fun _ => (by first | exact hd | trivial), by rw [HS.out]; simp [h1, h2], HKK.out⟩
          case measure => simp [intOf]; omega
    · have hge : ¬ (j : Int) < (n : Int) := by omega
      have hjn : j = n := by omega
      subst hjn
      have HKK := Lib.hid hK
      clear hK
      go_wp2_with fail
      go_ret
      refine ⟨?_, HKK.out.2.1⟩
      unfold strongest
      rw [HL.out]
      by_cases h : 0 < j
      · rw [HDV.out h]
        rfl
      · obtain rfl : j = 0 := by omega
        simp [strong]

set_option maxRecDepth 8000 in
set_option maxHeartbeats 16000000 in
theorem impl_StrongestLeft (A : Option Addr) (n c b1 : Nat) (es : List Ent) (K O : Int) (w : World) (h : EntO w b1 A n c es) (hn : n ≤ 2000000) :
    Calls Try.prog 23 #[.slice A n c, .int .i64 K, .int .i64 O] w fun e w' => e = .returned (.int .i64 (strongest es K O)) ∧ Below w.heap.size w w' := by
  have hK : EntK w.heap.size w A n c b1 es w := ⟨h, Below.refl _ _, Nat.le_refl _⟩
  have hl := h.1
  have HL := Lib.hid hl
  clear h hl
  have hV := fun W (h : EntO W b1 A n c es) => impl_DerivationValid A n c b1 es W h hn
  cases hd : dValid es
  · have hv := hV _ hK.1
    rw [hd] at hv
    go_enter Try.func23, Try.ntmps23
    go_wp2_with fail
    refine hv.mono ?_
    rintro e w1 ⟨rfl, hb1⟩
    go_wp2_with fail
    go_ret
    exact ⟨by simp [strongest, hd], hb1⟩
  · have hv := hV _ hK.1
    rw [hd] at hv
    have HK := Lib.hid hK
    clear hV hK
    go_enter Try.func23, Try.ntmps23
    go_wp2_with fail
    refine hv.mono ?_
    rintro e w1 ⟨rfl, hb1⟩
    have hK1 := EntK.step hb1 ⟨HK.out, trivial⟩
    have HK1 := Lib.hid hK1
    clear hb1 hv HK hK1
    go_wp2_with fail
    go_loopw [7, 15] (fun v i wr => ∃ j : Nat, j ≤ n ∧ i = .int .i64 j ∧ v = .int .i64 (strong es K O j) ∧ EntK w.heap.size w A n c b1 es wr) (fun _ i _ => n - (intOf i).toNat)
    case atStart => exact ⟨0, Nat.zero_le _, rfl, rfl, HK1.out⟩
    case round =>
      clear HK1
      obtain ⟨j, hj, rfl, rfl, hK⟩ := hrel
      by_cases hlt : j < n
      · have hlt0 : (j : Int) < (n : Int) := by omega
        obtain ⟨g, rfl, -, hgl, -⟩ := hK.1.at_ (by omega)
        obtain ⟨k, o, r, b, p, q, hx⟩ : ∃ k o r b p q, es.getD j E0 = ⟨k, o, r, b, p, q⟩ := ⟨_, _, _, _, _, _, rfl⟩
        have HS : Hid (strong es K O (j + 1) = if !q && k == K && o == O then bits .or .i64 (strong es K O j) r else strong es K O j) := by show _ = _; rw [strong, hx]
        have HX := Lib.hid hx
        clear hx
        have hlt' : (j : Int) < (n : Int) := by omega
        have hj0 : (0 : Int) ≤ (j : Int) := by omega
        obtain ⟨a0, a1, a2, a3, a4, a5⟩ := hK.cells hlt HX.out
        have HKK := Lib.hid (hK.alloc (.cells #[.int .i64 k, .int .i64 o, .int .i64 r, .int .i64 b, .int .i64 p, .bool q] 48))
        clear hK
        cases q <;> cases h1 : (k == K) <;> cases h2 : (o == O)
        all_goals
          go_wp2_with fail
          go_roundw
          case rel => exact ⟨j + 1, by omega, by go_num, by rw [HS.out]; simp [h1, h2], HKK.out⟩
          case measure => simp [intOf]; omega
      · have hge : ¬ (j : Int) < (n : Int) := by omega
        have hjn : j = n := by omega
        subst hjn
        have HKK := Lib.hid hK
        clear hK
        go_wp2_with fail
        go_ret
        refine ⟨?_, HKK.out.2.1⟩
        unfold strongest
        rw [HL.out, hd]
        rfl

end Go.Proofs.Ytpglfbjjmnaojaa
