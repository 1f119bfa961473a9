/- sameTree on equal lists; what the laws on trees keep. No condition beyond those written. -/
import Derived.Test.YtpglfbjjmnaojaaDrawTree2
import Derived.Test.YtpglfbjjmnaojaaTexts
namespace Go.Proofs.Ytpglfbjjmnaojaa
open Go.RowKit
set_option linter.unusedVariables false

set_option maxHeartbeats 2000000 in
theorem laws_sameTree (A A' : Option Addr) (n c c' b1 b2 : Nat) (es : List Ent) (w : World) (h1 : EntO w b1 A n c es) (h2 : EntO w b2 A' n c' es) (hn : n ≤ 2000000) :
    Calls Try.prog 40 #[.slice A n c, .slice A' n c'] w fun e w' => e = .returned (.bool true) ∧ Below w.heap.size w w' := by
  have H1 := Lib.hid h1
  have H2 := Lib.hid h2
  clear h1 h2
  go_enter Try.func40, Try.ntmps40
  go_wp2_with fail
  go_loopw [5] (fun i wr => ∃ k q : Nat, k ≤ n ∧ i = .int .i64 k ∧ wr = w.drewN q) (fun i _ => n - (intOf i).toNat)
  case atStart => exact ⟨0, 0, Nat.zero_le _, rfl, rfl⟩
  case round =>
    obtain ⟨k, q, hk, rfl, rfl⟩ := hrel
    by_cases hlt : k < n
    · obtain ⟨g1, rfl, _, _, hc1, _⟩ := H1.out.at_ (by omega)
      obtain ⟨g2, rfl, _, _, hc2, _⟩ := H2.out.at_ (by omega)
      obtain ⟨a0, a1, a2, a3, a4, a5⟩ := hc1 k hlt
      obtain ⟨d0, d1, d2, d3, d4, d5⟩ := hc2 k hlt
      have hlt' : (k : Int) < (n : Int) := by omega
      have hk0 : (0 : Int) ≤ (k : Int) := by omega
      clear hc1 hc2
      generalize (es.getD k E0).k = x0 at *
      generalize (es.getD k E0).o = x1 at *
      generalize (es.getD k E0).r = x2 at *
      generalize (es.getD k E0).b = x3 at *
      generalize (es.getD k E0).p = x4 at *
      generalize (es.getD k E0).g = x5 at *
      go_wp2_with fail
      go_quiet (fail)
      go_wp2_with fail
      go_roundw
      case rel => exact ⟨k + 1, _, by omega, by go_num, rfl⟩
      case measure => simp [intOf]; omega
    · have hge : ¬ (k : Int) < (n : Int) := by omega
      go_wp2_with fail
      go_ret
      exact ⟨rfl, below_drewN' (Below.refl _ _) _⟩

theorem EntO.source' {w : World} {base n c : Nat} {ad : Addr} {es : List Ent} (h : EntO w base (some ad) n c es) : ∀ j u, (flat es)[j]? = some u → w.cell? (ad.add j) = some u := by
  intro j u hj
  have hjl : j < (flat es).length := (List.getElem?_eq_some_iff.1 hj).1
  rw [flat_len, h.1] at hjl
  obtain ⟨g, hA, -⟩ := h.at_ (by omega)
  injection hA with hA
  subst hA
  exact h.source j u hj
theorem EntK.of {B : Nat} {w w1 : World} {A : Option Addr} {n c b1 : Nat} {es : List Ent} (h : EntO w1 b1 A n c es) (hb : Below B w w1) (hs : B ≤ w1.heap.size) : EntK B w A n c b1 es w1 := ⟨h, hb, hs⟩
theorem revL_live {es : List Ent} {n : Int} (h : liveB es n = true) : revL es n = revokeE es n := by simp [revL, h]
theorem revL_dead {es : List Ent} {n : Int} (h : liveB es n = false) : revL es n = [] := by simp [revL, h]
theorem remL_live {es : List Ent} {n : Int} (h : liveB es n = true) : remL es n = removeE es n := by simp [remL, h]
theorem remL_dead {es : List Ent} {n : Int} (h : liveB es n = false) : remL es n = [] := by simp [remL, h]
theorem descL_live {es : List Ent} {n : Int} (h : liveB es n = true) : descL es n = desc es n := by simp [descL, h]
theorem descL_dead {es : List Ent} {n : Int} (h : liveB es n = false) : descL es n = [] := by simp [descL, h]
theorem dValid_bad {es : List Ent} {k o r b : Int} {g : Bool} : dValid (es ++ [⟨k, o, r, b, es.length, g⟩]) = false := by
  refine dValid_no (j := es.length) (n := es.length + 1) (by simp) (by omega) ?_
  cases h : entOk (es ++ [⟨k, o, r, b, es.length, g⟩]) es.length
  · rfl
  · have := (entOk_iff.1 h).2.2.1
    rw [entAt_append_end] at this
    simp only at this
    omega

end Go.Proofs.Ytpglfbjjmnaojaa
