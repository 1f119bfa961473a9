/- DerivationValid of the program and of the reference. No condition beyond those written. -/
import Derived.Test.YtpglfbjjmnaojaaEntK
namespace Go.Proofs.Ytpglfbjjmnaojaa
open Go.RowKit
set_option linter.unusedVariables false

/-- The list stays, and one block beside it. -/
def EntC (B : Nat) (w0 : World) (A : Option Addr) (n c b1 : Nat) (es : List Ent) (g0 : Nat) (T : TypeId) (vs : List Value) (w : World) : Prop := EntK B w0 A n c b1 es w ∧ CAt w g0 T vs
section
variable {B n c b1 g0 : Nat} {w0 w w1 : World} {A : Option Addr} {es : List Ent} {T : TypeId} {vs : List Value} {R : Prop}
theorem EntC.drew (h : EntC B w0 A n c b1 es g0 T vs w) : EntC B w0 A n c b1 es g0 T vs w.drew := ⟨h.1.drew, h.2⟩
theorem EntC.step (hb : Below w.heap.size w w1) (h : EntC B w0 A n c b1 es g0 T vs w ∧ R) : EntC B w0 A n c b1 es g0 T vs w1 := ⟨EntK.step hb ⟨h.1.1, trivial⟩, h.1.2.below hb⟩
theorem EntC.cells2 {g : Nat} {a0 a1 a2 a3 a4 a5 : Value} (h : EntC B w0 (some ⟨g, 0, none⟩) n c b1 es g0 T [a0, a1, a2, a3, a4, a5] w) {i : Nat} {k o r b p : Int} {q : Bool} (hi : i < n) (he : es.getD i E0 = ⟨k, o, r, b, p, q⟩) :
    EntC B w0 (some ⟨g, 0, none⟩) n c b1 es g0 T [a0, a1, a2, a3, a4, a5] w ∧
    (w.cell? ⟨g0, 0, none⟩ = some a0 ∧ w.cell? ⟨g0, 1, none⟩ = some a1 ∧ w.cell? ⟨g0, 2, none⟩ = some a2 ∧ w.cell? ⟨g0, 3, none⟩ = some a3 ∧ w.cell? ⟨g0, 4, none⟩ = some a4 ∧ w.cell? ⟨g0, 5, none⟩ = some a5 ∧
    w.cell? ⟨g, i * 6, none⟩ = some (.int .i64 k) ∧ w.cell? ⟨g, i * 6 + 1, none⟩ = some (.int .i64 o) ∧ w.cell? ⟨g, i * 6 + 2, none⟩ = some (.int .i64 r) ∧ w.cell? ⟨g, i * 6 + 3, none⟩ = some (.int .i64 b) ∧ w.cell? ⟨g, i * 6 + 4, none⟩ = some (.int .i64 p) ∧ w.cell? ⟨g, i * 6 + 5, none⟩ = some (.bool q)) := by
  obtain ⟨x0, x1, x2, x3, x4, x5⟩ := h.2.cells6
  obtain ⟨y0, y1, y2, y3, y4, y5⟩ := h.1.cells hi he
  exact ⟨h, x0, x1, x2, x3, x4, x5, y0, y1, y2, y3, y4, y5⟩
end

set_option maxRecDepth 8000 in
set_option maxHeartbeats 16000000 in
theorem impl_DerivationValid (A : Option Addr) (n c b1 : Nat) (es : List Ent) (w : World) (h : EntO w b1 A n c es) (hn : n ≤ 2000000) :
    Calls Try.prog 20 #[.slice A n c] w fun e w' => e = .returned (.bool (dValid es)) ∧ Below w.heap.size w w' := by
  have hK : EntK w.heap.size w A n c b1 es w := ⟨h, Below.refl _ _, Nat.le_refl _⟩
  have hl := h.1
  have HK := Lib.hid hK
  have HL := Lib.hid hl
  clear h hK hl
  go_enter Try.func20, Try.ntmps20
  go_wp2_with fail
  go_loopw [7] (fun i wr => ∃ j : Nat, j ≤ n ∧ i = .int .i64 j ∧ okTo es j = true ∧ EntK w.heap.size w A n c b1 es wr) (fun i _ => n - (intOf i).toNat)
  case atStart => exact ⟨0, Nat.zero_le _, rfl, rfl, HK.out⟩
  case round =>
    clear HK
    obtain ⟨j, hj, rfl, hok, hK⟩ := hrel
    by_cases hlt : j < n
    · obtain ⟨g, rfl, -, hgl, -⟩ := hK.1.at_ (by omega)
      obtain ⟨k, o, r, b, p, q, hx⟩ : ∃ k o r b p q, es.getD j E0 = ⟨k, o, r, b, p, q⟩ := ⟨_, _, _, _, _, _, rfl⟩
      have hent := entOk_parts hx
      have HNO := Lib.hid (fun h => dValid_no HL.out hlt (show entOk es j = false from h))
      have HYES := Lib.hid (fun (h : entOk es j = true) => show okTo es (j + 1) = true by rw [okTo_succ, hok, h]; rfl)
      obtain ⟨a0, a1, a2, a3, a4, a5⟩ := hK.cells hlt hx
      have HX := Lib.hid hx
      have HK := Lib.hid hK
      have HE := Lib.hid hent
      have hlt' : (j : Int) < (n : Int) := by omega
      have hj0 : (0 : Int) ≤ (j : Int) := by omega
      have hw1 : IntKind.i64.wrap ((j : Int) - 1) = (j : Int) - 1 := by rw [IntKind.wrap_i64]; omega
      clear hx hok hK hent
      cases h1 : capOk k o r b
      · go_wp2_with (first | (go_at_call 52; refine (impl_CapValid _ _ _ _ _).mono ?_; rintro e w' ⟨rfl, rfl⟩) | (go_at_call 53; refine (impl_in _ _ _ _).mono ?_; rintro e w' ⟨rfl, rfl⟩))
        go_ret
        have hB := HK.out
        exact ⟨ret_bool (HNO.out (by rw [HE.out]; simp [h1])).symm, (by have hB1 := hB.2.1; have hB2 := hB.2.2; repeat (with_reducible first | exact hB1 | exact hB2 | refine below_drewN' ?_ _ | refine below_al ?_ _))⟩
      · cases h2 : (k == 0)
        · cases h3 : inB p (-1) (j - 1)
          · go_wp2_with (first | (go_at_call 52; refine (impl_CapValid _ _ _ _ _).mono ?_; rintro e w' ⟨rfl, rfl⟩) | (go_at_call 53; refine (impl_in _ _ _ _).mono ?_; rintro e w' ⟨rfl, rfl⟩))
            go_ret
            have hB := HK.out
            exact ⟨ret_bool (HNO.out (by rw [HE.out]; simp [h1, h2, h3])).symm, (by have hB1 := hB.2.1; have hB2 := hB.2.2; repeat (with_reducible first | exact hB1 | exact hB2 | refine below_drewN' ?_ _ | refine below_al ?_ _))⟩
          · have hp3 := inB_iff.1 h3
            by_cases hp : 0 ≤ p
            · have hip : p < (n : Int) := by omega
              obtain ⟨i, rfl⟩ := Int.eq_ofNat_of_zero_le hp
              have hi : i < n := by omega
              obtain ⟨k2, o2, r2, b2, p2, q2, hx2⟩ : ∃ k2 o2 r2 b2 p2 q2, es.getD i E0 = ⟨k2, o2, r2, b2, p2, q2⟩ := ⟨_, _, _, _, _, _, rfl⟩
              obtain ⟨-, -, -, -, -, -, -, y0, y1, y2, y3, y4, y5⟩ := HK.out.cells2 hlt HX.out hi hx2
              have HX2 := Lib.hid hx2
              clear hx2
              have hpn : ¬ (i : Int) < 0 := by omega
              have HE2 : Hid (entOk es j = (q || (!q2 && capWithin k o r b k2 o2 r2 b2))) := by
                show _ = _
                rw [HE.out, h1, h2, h3, show ((i : Int)).toNat = i by omega, HX2.out]
                simp [entWithin, hpn]
              clear HE hp3
              cases q
              · cases q2
                · cases h4 : capWithin k o r b k2 o2 r2 b2
                  all_goals
                    have hcw := fun W => impl_CapWithin k o r b k2 o2 r2 b2 W
                    rw [h4] at hcw
                    go_wp2_with (first | (go_at_call 52; refine (impl_CapValid _ _ _ _ _).mono ?_; rintro e w' ⟨rfl, rfl⟩) | (go_at_call 53; refine (impl_in _ _ _ _).mono ?_; rintro e w' ⟨rfl, rfl⟩))
                    have hKh : EntC w.heap.size w (some ⟨g, 0, none⟩) n c b1 es wr.heap.size 48 [.int .i64 k, .int .i64 o, .int .i64 r, .int .i64 b, .int .i64 (i : Int), .bool false] _ := ⟨EntK.alloc (EntK.alloc HK.out (.cells #[.int .i64 k, .int .i64 o, .int .i64 r, .int .i64 b, .int .i64 (i : Int), .bool false] 48)) (.cells #[.int .i64 k, .int .i64 o, .int .i64 r, .int .i64 b] 46), CAt.alloc (CAt.new wr 48 _) _⟩
                    (first
                      | (go_region_held3 (fun w' => EntC w.heap.size w (some ⟨g, 0, none⟩) n c b1 es wr.heap.size 48 [.int .i64 k, .int .i64 o, .int .i64 r, .int .i64 b, .int .i64 (i : Int), .bool false] w' ∧ w'.cell? ⟨wr.heap.size, 0, none⟩ = some (.int .i64 k) ∧ w'.cell? ⟨wr.heap.size, 1, none⟩ = some (.int .i64 o) ∧ w'.cell? ⟨wr.heap.size, 2, none⟩ = some (.int .i64 r) ∧ w'.cell? ⟨wr.heap.size, 3, none⟩ = some (.int .i64 b) ∧ w'.cell? ⟨wr.heap.size, 4, none⟩ = some (.int .i64 (i : Int)) ∧ w'.cell? ⟨wr.heap.size, 5, none⟩ = some (.bool false) ∧ w'.cell? ⟨g, i * 6, none⟩ = some (.int .i64 k2) ∧ w'.cell? ⟨g, i * 6 + 1, none⟩ = some (.int .i64 o2) ∧ w'.cell? ⟨g, i * 6 + 2, none⟩ = some (.int .i64 r2) ∧ w'.cell? ⟨g, i * 6 + 3, none⟩ = some (.int .i64 b2) ∧ w'.cell? ⟨g, i * 6 + 4, none⟩ = some (.int .i64 p2) ∧ w'.cell? ⟨g, i * 6 + 5, none⟩ = some (.bool false))
                          (first | exact (EntC.drew hKh).cells2 hi HX2.out | exact (EntC.step (by assumption) (by assumption)).cells2 hi HX2.out)
                          (first | (go_at_call 45; refine (hcw _).mono ?_; rintro e w9 ⟨rfl, hb9⟩)))
                      | fail)
                    have hT : EntC w.heap.size w (some ⟨g, 0, none⟩) n c b1 es wr.heap.size 48 [.int .i64 k, .int .i64 o, .int .i64 r, .int .i64 b, .int .i64 (i : Int), .bool false] w9 := And.left (by assumption)
                    have HT := Lib.hid hT
                    clear hT
                    go_wp2_with fail
                  · go_ret
                    exact ⟨ret_bool (HNO.out (by rw [HE2.out, h4]; rfl)).symm, HT.out.1.2.1⟩
                  · go_roundw
                    case rel => exact ⟨j + 1, by omega, by go_num, HYES.out (by rw [HE2.out, h4]; rfl), HT.out.1⟩
                    case measure => simp [intOf]; omega
                · go_wp2_with (first | (go_at_call 52; refine (impl_CapValid _ _ _ _ _).mono ?_; rintro e w' ⟨rfl, rfl⟩) | (go_at_call 53; refine (impl_in _ _ _ _).mono ?_; rintro e w' ⟨rfl, rfl⟩))
                  go_quiet (fail)
                  go_wp2_with fail
                  go_ret
                  have hB := HK.out
                  exact ⟨ret_bool (HNO.out (by rw [HE2.out]; rfl)).symm, (by have hB1 := hB.2.1; have hB2 := hB.2.2; repeat (with_reducible first | exact hB1 | exact hB2 | refine below_drewN' ?_ _ | refine below_al ?_ _))⟩
              · go_wp2_with (first | (go_at_call 52; refine (impl_CapValid _ _ _ _ _).mono ?_; rintro e w' ⟨rfl, rfl⟩) | (go_at_call 53; refine (impl_in _ _ _ _).mono ?_; rintro e w' ⟨rfl, rfl⟩))
                go_quiet (fail)
                go_wp2_with fail
                go_roundw
                case rel =>
                  refine ⟨j + 1, by omega, by go_num, HYES.out (by rw [HE2.out]; rfl), ?_⟩
                  have hB := HK.out
                  repeat (with_reducible first | exact hB | refine EntK.drewN ?_ _ | refine EntK.alloc ?_ _)
                case measure => simp [intOf]; omega
            · have hpd : decide (0 ≤ p) = false := by simp; omega
              have hpn : p < 0 := by omega
              cases q
              all_goals
                go_wp2_with (first | (go_at_call 52; refine (impl_CapValid _ _ _ _ _).mono ?_; rintro e w' ⟨rfl, rfl⟩) | (go_at_call 53; refine (impl_in _ _ _ _).mono ?_; rintro e w' ⟨rfl, rfl⟩))
                go_quiet (fail)
                go_wp2_with fail
                go_roundw
                case rel =>
                  refine ⟨j + 1, by omega, by go_num, HYES.out (by rw [HE.out, h1, h2, h3]; simp [hpn]), ?_⟩
                  have hB := HK.out
                  repeat (with_reducible first | exact hB | refine EntK.drewN ?_ _ | refine EntK.alloc ?_ _)
                case measure => simp [intOf]; omega
        · go_wp2_with (first | (go_at_call 52; refine (impl_CapValid _ _ _ _ _).mono ?_; rintro e w' ⟨rfl, rfl⟩) | (go_at_call 53; refine (impl_in _ _ _ _).mono ?_; rintro e w' ⟨rfl, rfl⟩))
          go_ret
          have hB := HK.out
          exact ⟨ret_bool (HNO.out (by rw [HE.out]; simp [h1, h2])).symm, (by have hB1 := hB.2.1; have hB2 := hB.2.2; repeat (with_reducible first | exact hB1 | exact hB2 | refine below_drewN' ?_ _ | refine below_al ?_ _))⟩
    · have hge : ¬ (j : Int) < (n : Int) := by omega
      have hjn : j = n := by omega
      subst hjn
      have hK' := Lib.hid hK
      have HD := Lib.hid (dValid_end HL.out hok)
      clear hK hok
      go_wp2_with fail
      go_ret
      exact ⟨ret_bool (by rw [HD.out]), hK'.out.2.1⟩

end Go.Proofs.Ytpglfbjjmnaojaa
