/- What markEntryS writes and heldEntryS reads. No condition beyond those written. -/
import Derived.Test.YtpglfbjjmnaojaaEntS
import Derived.Test.YtpglfbjjmnaojaaRowO
namespace Go.Proofs.Ytpglfbjjmnaojaa
open Go.RowKit
set_option linter.unusedVariables false

/-- The entry that is marked from number K on. -/
def markE (K : Int) : Ent := ⟨K, K + 1, K + 1 + 1, K + 1 + 1 + 1, K + 1 + 1 + 1 + 1, (K + 1 + 1 + 1 + 1 + 1) % 3 == 0⟩
def marksE (k : Int) (n : Nat) : List Ent := (List.range n).map fun t : Nat => markE (k + 6 * (t : Int))
theorem marksE_len (k : Int) (n : Nat) : (marksE k n).length = n := by simp [marksE]
theorem marksE_at (k : Int) (n j : Nat) (h : j < n) : (marksE k n).getD j E0 = markE (k + 6 * (j : Int)) := by simp [marksE, List.getD, h]
theorem grown_sets6 {w : World} {g : Nat} {a0 a1 a2 a3 a4 a5 : Nat} {v0 v1 v2 v3 v4 v5 : Value} : w.grownBy ((((((w.setCell ⟨g, a0, none⟩ v0).setCell ⟨g, a1, none⟩ v1).setCell ⟨g, a2, none⟩ v2).setCell ⟨g, a3, none⟩ v3).setCell ⟨g, a4, none⟩ v4).setCell ⟨g, a5, none⟩ v5) (some g) :=
  (((((grown_set _ g _ _).trans (grown_set _ g _ _)).trans (grown_set _ g _ _)).trans (grown_set _ g _ _)).trans (grown_set _ g _ _)).trans (grown_set _ g _ _)

theorem EntO.row {w : World} {base n c : Nat} {A : Option Addr} {es : List Ent} (h : EntO w base A n c es) : ∀ g, rowOf A n = some g → base ≤ g ∧ g < w.heap.size := fun g hg => by
  by_cases hn : n = 0
  · subst hn; cases hg
  · obtain ⟨b, rfl, hb, hl, -⟩ := h.at_ (by omega)
    rw [rowOf_pos (by omega)] at hg
    injection hg with hg
    subst hg
    exact ⟨hb, hl⟩
/-- A change of one other block leaves the list. -/
theorem EntO.grownFar {w w' : World} {base n c : Nat} {A : Option Addr} {es : List Ent} (h : EntO w base A n c es) {r : Option Nat} (hg : w.grownBy w' r) (hr : ∀ x, r = some x → x < base) : EntO w' base A n c es :=
  ⟨h.1, h.2.1, h.2.2.1, fun hn => by
    obtain ⟨g, cur, hA, hb, hgg, ht⟩ := h.2.2.2 hn
    exact ⟨g, cur, hA, hb, (hg.block g (Array.getElem?_eq_some_iff.1 hgg).1 (fun e => by have := hr g e.symm; omega)).trans hgg, ht⟩⟩

set_option maxHeartbeats 4000000 in
theorem laws_markEntryS (A : Option Addr) (n c base : Nat) (es : List Ent) (k0 : Int) (w : World) (h1 : EntO w base A n c es) (hn : n ≤ 2000000) (hk : 0 ≤ k0) (hk2 : k0 ≤ 1000000000) :
    Calls Try.prog 29 #[.slice A n c, .int .i64 k0] w fun e w' => e = .returned (.int .i64 (k0 + 6 * n)) ∧ EntO w' base A n c (marksE k0 n) ∧ w.grownBy w' (rowOf A n) := by
  have H0 := Lib.hid h1
  clear h1
  go_enter Try.func29, Try.ntmps29
  go_wp2_with fail
  go_loopw [1, 5] (fun kv i wr => ∃ (j : Nat) (K : Int) (vs : List Ent), j ≤ n ∧ i = .int .i64 j ∧ kv = .int .i64 K ∧ K = k0 + 6 * j ∧ EntO wr base A n c vs ∧ (∀ t, t < j → vs.getD t E0 = markE (k0 + 6 * (t : Int))) ∧ w.grownBy wr (rowOf A n))
    (fun _ i _ => n - (intOf i).toNat)
  case atStart => exact ⟨0, k0, es, Nat.zero_le _, rfl, rfl, by omega, H0.out, fun t ht => by omega, World.grownBy.refl w _⟩
  case round =>
    obtain ⟨j, K, vs, hj, rfl, rfl, hK, ho, hpre, hgr⟩ := hrel
    by_cases hlt : j < n
    · obtain ⟨g, rfl, hbg, hgl, hc1, hf1⟩ := ho.at_ (by omega)
      obtain ⟨a0, a1, a2, a3, a4, a5⟩ := hc1 j hlt
      have hst := ho.setAll j hlt (markE K)
      have hgb : rowOf (some ⟨g, 0, none⟩) n = some g := rowOf_pos (by omega)
      have HGB := Lib.hid hgb
      rw [hgb] at hgr
      have HS := Lib.hid hst
      have HP := Lib.hid hpre
      have HG := Lib.hid hgr
      have HV := Lib.hid ho.len
      have hK0 : 0 ≤ K := by omega
      have hK1 : K ≤ 2000000000 := by omega
      have HK := Lib.hid hK
      have hlt' : (j : Int) < (n : Int) := by omega
      have hj0 : (0 : Int) ≤ (j : Int) := by omega
      have h3 : (K + 1 + 1 + 1 + 1 + 1).tmod 3 = (K + 1 + 1 + 1 + 1 + 1) % 3 := Int.tmod_eq_emod_of_nonneg (by omega)
      clear hc1 hst hpre hgr hgb ho hK
      go_wp2_with fail
      go_roundw
      case rel =>
        refine ⟨j + 1, _, vs.set j (markE K), by omega, by go_num, rfl, by rw [HK.out]; omega, HS.out, fun t ht => ?_, by rw [HGB.out]; exact HG.out.trans grown_sets6⟩
        by_cases e : j = t
        · subst e
          rw [← HK.out]
          simp [List.getD, HV.out, hlt]
        · rw [← HP.out t (by omega)]
          simp [List.getD, e]
      case measure => simp [intOf]; omega
    · have hge : ¬ (j : Int) < (n : Int) := by omega
      have hjn : j = n := by omega
      subst hjn
      have hv : vs = marksE k0 j := ents_ext (by rw [ho.len, marksE_len]) fun t ht => by
        rw [ho.len] at ht
        rw [hpre t ht, marksE_at _ _ _ ht]
      subst hv
      subst hK
      have HS := Lib.hid ho
      have HG := Lib.hid hgr
      clear ho hpre hgr
      go_wp2_with fail
      go_ret
      exact ⟨rfl, HS.out, HG.out⟩

set_option maxHeartbeats 4000000 in
theorem laws_heldEntryS (A : Option Addr) (n c base : Nat) (k0 : Int) (w : World) (h1 : EntO w base A n c (marksE k0 n)) (hn : n ≤ 2000000) (hk : 0 ≤ k0) (hk2 : k0 ≤ 1000000000) :
    Calls Try.prog 34 #[.slice A n c, .int .i64 k0] w fun e w' => e = .returned (.int .i64 (k0 + 6 * n)) ∧ w = w' := by
  have H1 := Lib.hid h1
  clear h1
  go_enter Try.func34, Try.ntmps34
  go_wp2_with fail
  go_loop [1, 5] (fun kv i => ∃ (j : Nat) (K : Int), j ≤ n ∧ i = .int .i64 j ∧ kv = .int .i64 K ∧ K = k0 + 6 * j) (fun _ i => n - (intOf i).toNat)
  case atStart => exact ⟨0, k0, Nat.zero_le _, rfl, rfl, by omega⟩
  case round =>
    obtain ⟨j, K, hj, rfl, rfl, hK⟩ := hrel
    by_cases hlt : j < n
    · obtain ⟨g, rfl, _, _, hc1, _⟩ := H1.out.at_ (by omega)
      obtain ⟨a0, a1, a2, a3, a4, a5⟩ := hc1 j hlt
      rw [marksE_at k0 n j hlt, ← hK] at a0 a1 a2 a3 a4 a5
      simp only [markE] at a0 a1 a2 a3 a4 a5
      have hK0 : 0 ≤ K := by omega
      have hK1 : K ≤ 2000000000 := by omega
      have HK := Lib.hid hK
      have hlt' : (j : Int) < (n : Int) := by omega
      have hj0 : (0 : Int) ≤ (j : Int) := by omega
      have h3 : (K + 1 + 1 + 1 + 1 + 1).tmod 3 = (K + 1 + 1 + 1 + 1 + 1) % 3 := Int.tmod_eq_emod_of_nonneg (by omega)
      clear hc1 hK
      go_wp2_with fail
      go_round
      case rel => exact ⟨j + 1, _, by omega, by go_num, rfl, by rw [HK.out]; omega⟩
      case measure => simp [intOf]; omega
    · have hge : ¬ (j : Int) < (n : Int) := by omega
      have hjn : j = n := by omega
      subst hjn
      subst hK
      go_wp2_with fail
      go_ret
      exact ⟨rfl, rfl⟩

end Go.Proofs.Ytpglfbjjmnaojaa
