/- What markCapS writes and heldCapS reads. No condition beyond those written. -/
import Derived.Test.YtdafogfpbpjmdaaTabC
namespace Go.Proofs.Ytdafogfpbpjmdaa
open Go.RowKit
set_option linter.unusedVariables false

/-- The capability that is marked from number K on. -/
def markC (K : Int) : Cp := ⟨K, K + 1, K + 1 + 1, K + 1 + 1 + 1⟩
def marksC (k : Int) (n : Nat) : List Cp := (List.range n).map fun t : Nat => markC (k + 4 * (t : Int))
theorem marksC_len (k : Int) (n : Nat) : (marksC k n).length = n := by simp [marksC]
theorem marksC_at (k : Int) (n j : Nat) (h : j < n) : (marksC k n).getD j C0 = markC (k + 4 * (j : Int)) := by simp [marksC, List.getD, h]
theorem grown_sets4 {w : World} {g : Nat} {a0 a1 a2 a3 : Nat} {v0 v1 v2 v3 : Value} : w.grownBy ((((w.setCell ⟨g, a0, none⟩ v0).setCell ⟨g, a1, none⟩ v1).setCell ⟨g, a2, none⟩ v2).setCell ⟨g, a3, none⟩ v3) (some g) :=
  (((grown_set _ g _ _).trans (grown_set _ g _ _)).trans (grown_set _ g _ _)).trans (grown_set _ g _ _)

set_option maxHeartbeats 4000000 in
theorem laws_markCapS (A : Option Addr) (n c base : Nat) (es : List Cp) (k0 : Int) (w : World) (h1 : CapO w base A n c es) (hn : n ≤ 2000000) (hk : 0 ≤ k0) (hk2 : k0 ≤ 1000000000000000000) :
    Calls Try.prog 56 #[.slice A n c, .int .i64 k0] w fun e w' => e = .returned (.int .i64 (k0 + 4 * n)) ∧ CapO w' base A n c (marksC k0 n) ∧ w.grownBy w' (rowOf A n) ∧ w'.heap.size = w.heap.size := by
  have H0 := Lib.hid h1
  clear h1
  go_enter Try.func56, Try.ntmps56
  go_wp2_with fail
  go_loopw [1, 5] (fun kv i wr => ∃ (j : Nat) (K : Int) (vs : List Cp), j ≤ n ∧ i = .int .i64 j ∧ kv = .int .i64 K ∧ K = k0 + 4 * j ∧ CapO wr base A n c vs ∧ (∀ t, t < j → vs.getD t C0 = markC (k0 + 4 * (t : Int))) ∧ w.grownBy wr (rowOf A n) ∧ wr.heap.size = w.heap.size)
    (fun _ i _ => n - (intOf i).toNat)
  case atStart => exact ⟨0, k0, es, Nat.zero_le _, rfl, rfl, by omega, H0.out, fun t ht => by omega, World.grownBy.refl w _, rfl⟩
  case round =>
    obtain ⟨j, K, vs, hj, rfl, rfl, hK, ho, hpre, hgr, hsz⟩ := hrel
    by_cases hlt : j < n
    · obtain ⟨g, rfl, hbg, hgl, hc1, hf1⟩ := ho.at_ (by omega)
      obtain ⟨a0, a1, a2, a3⟩ := hc1 j hlt
      have hst := ho.setAll j hlt (markC K)
      have hgb : rowOf (some ⟨g, 0, none⟩) n = some g := rowOf_pos (by omega)
      have HGB := Lib.hid hgb
      rw [hgb] at hgr
      have HS := Lib.hid hst
      have HP := Lib.hid hpre
      have HG := Lib.hid hgr
      have HV := Lib.hid ho.len
      have HSZ := Lib.hid hsz
      have hK0 : 0 ≤ K := by omega
      have hK1 : K ≤ 2000000000000000000 := by omega
      have HK := Lib.hid hK
      have hlt' : (j : Int) < (n : Int) := by omega
      have hj0 : (0 : Int) ≤ (j : Int) := by omega
      clear hc1 hst hpre hgr hgb ho hK hsz
      go_wp2_with fail
      go_roundw
      case rel =>
        refine ⟨j + 1, _, vs.set j (markC K), by omega, by go_num, rfl, by rw [HK.out]; omega, HS.out, fun t ht => ?_, by rw [HGB.out]; exact HG.out.trans grown_sets4, by simp; exact HSZ.out⟩
        by_cases e : j = t
        · subst e
          rw [← HK.out]
          simp [List.getD, HV.out, hlt]
        · rw [← HP.out t (by omega)]
          simp [List.getD, e]
      case measure => simp [intOf]; omega
    · have hge : ¬ (j : Int) < (n : Int) := by omega
      have hjn : j = n := by omega
      subst hjn
      have hv : vs = marksC k0 j := list_ext (d := C0) (by rw [ho.len, marksC_len]) fun t ht => by
        rw [ho.len] at ht
        rw [hpre t ht, marksC_at _ _ _ ht]
      subst hv
      subst hK
      have HS := Lib.hid ho
      have HG := Lib.hid hgr
      have HSZ := Lib.hid hsz
      clear ho hpre hgr hsz
      go_wp2_with fail
      go_ret
      exact ⟨rfl, HS.out, HG.out, HSZ.out⟩

set_option maxHeartbeats 4000000 in
theorem laws_heldCapS (A : Option Addr) (n c base : Nat) (k0 : Int) (w : World) (h1 : CapO w base A n c (marksC k0 n)) (hn : n ≤ 2000000) (hk : 0 ≤ k0) (hk2 : k0 ≤ 1000000000000000000) :
    Calls Try.prog 57 #[.slice A n c, .int .i64 k0] w fun e w' => e = .returned (.int .i64 (k0 + 4 * n)) ∧ w = w' := by
  have H1 := Lib.hid h1
  clear h1
  go_enter Try.func57, Try.ntmps57
  go_wp2_with fail
  go_loop [1, 5] (fun kv i => ∃ (j : Nat) (K : Int), j ≤ n ∧ i = .int .i64 j ∧ kv = .int .i64 K ∧ K = k0 + 4 * j) (fun _ i => n - (intOf i).toNat)
  case atStart => exact ⟨0, k0, Nat.zero_le _, rfl, rfl, by omega⟩
  case round =>
    obtain ⟨j, K, hj, rfl, rfl, hK⟩ := hrel
    by_cases hlt : j < n
    · obtain ⟨g, rfl, _, _, hc1, _⟩ := H1.out.at_ (by omega)
      obtain ⟨a0, a1, a2, a3⟩ := hc1 j hlt
      rw [marksC_at k0 n j hlt, ← hK] at a0 a1 a2 a3
      simp only [markC] at a0 a1 a2 a3
      have hK0 : 0 ≤ K := by omega
      have hK1 : K ≤ 2000000000000000000 := by omega
      have HK := Lib.hid hK
      have hlt' : (j : Int) < (n : Int) := by omega
      have hj0 : (0 : Int) ≤ (j : Int) := by omega
      clear hc1 hK
      go_wp2_with fail
      go_round
      case rel => exact ⟨j + 1, _, by omega, by go_num, rfl, by rw [HK.out]; omega⟩
      case measure => simp [intOf]; omega
    · have hge : ¬ (j : Int) < (n : Int) := by omega
      have hjn : j = n := by omega
      subst hjn
      subst hK
      go_wp2_with fail
      go_ret
      exact ⟨rfl, rfl⟩

/-! ### A table changed in place -/
section
variable {w w' : World} {base n c g : Nat} {A : Option Addr} {rs : List TR}
/-- The slots of one table written, in their own block. -/
theorem TabO.slotsSet (h : TabO w base A n c rs) {t : Nat} (ht : t < n) {cs : List Cp} (hlen : cs.length = (rs.getD t TR0).t.slots.length) (hgr : w.grownBy w' (rs.getD t TR0).row) (hC : CapO w' base (rs.getD t TR0).S (rs.getD t TR0).t.slots.length (rs.getD t TR0).c cs) :
    TabO w' base A n c (rs.set t ⟨{ (rs.getD t TR0).t with slots := cs }, (rs.getD t TR0).S, (rs.getD t TR0).c⟩) := by
  have hl := h.len
  have hT : 29 ≠ 41 := by decide
  have hct := h.slots t ht
  have gset : ∀ i, (rs.set t ⟨{ (rs.getD t TR0).t with slots := cs }, (rs.getD t TR0).S, (rs.getD t TR0).c⟩).getD i TR0 = if t = i then ⟨{ (rs.getD t TR0).t with slots := cs }, (rs.getD t TR0).S, (rs.getD t TR0).c⟩ else rs.getD i TR0 := fun i => getD_set_t (by omega)
  have he : ∀ i, ((rs.set t ⟨{ (rs.getD t TR0).t with slots := cs }, (rs.getD t TR0).S, (rs.getD t TR0).c⟩).getD i TR0).cells = (rs.getD i TR0).cells := fun i => by
    rw [gset]
    split
    · next e => subst e; simp [TR.cells, hlen]
    · rfl
  have hr : ∀ i, ((rs.set t ⟨{ (rs.getD t TR0).t with slots := cs }, (rs.getD t TR0).S, (rs.getD t TR0).c⟩).getD i TR0).row = (rs.getD i TR0).row := fun i => by
    rw [gset]
    split
    · next e => subst e; simp [TR.row, hlen]
    · rfl
  have hfl : flatT (rs.set t ⟨{ (rs.getD t TR0).t with slots := cs }, (rs.getD t TR0).S, (rs.getD t TR0).c⟩) = flatT rs := by
    apply List.ext_getElem?
    intro q
    by_cases hq : q < n * 4
    · have h4 : q % 4 < 4 := Nat.mod_lt _ (by omega)
      have q1 := flatG_get (f := TR.cells) (sz := 4) (d := TR0) (fun _ => rfl) rs (q / 4) (q % 4) (by omega) h4
      have q2 := flatG_get (f := TR.cells) (sz := 4) (d := TR0) (fun _ => rfl) (rs.set t ⟨{ (rs.getD t TR0).t with slots := cs }, (rs.getD t TR0).S, (rs.getD t TR0).c⟩) (q / 4) (q % 4) (by rw [List.length_set]; omega) h4
      rw [show q / 4 * 4 + q % 4 = q by omega] at q1 q2
      unfold flatT
      rw [q1, q2, he]
    · rw [List.getElem?_eq_none (by rw [flatT_len, List.length_set]; omega), List.getElem?_eq_none (by rw [flatT_len]; omega)]
  refine ⟨?_, fun i hi => ?_, fun i m hi hm him y hy => ?_⟩
  · rw [hfl]
    exact RowO.grownRow h.row hgr fun y hy e => rows_apart hT h.row hct _ hy e
  · rw [gset]
    split
    · next e =>
      show CapO w' base (rs.getD t TR0).S cs.length (rs.getD t TR0).c cs
      rw [hlen]
      exact hC
    · next e => exact RowO.grownRow (h.slots i hi) hgr fun y hy e' => h.apart i t hi ht (fun e'' => e e''.symm) y hy e'
  · rw [hr] at hy ⊢
    exact h.apart i m hi hm him y hy
/-- The three numbers of one table written. -/
theorem TabO.heads (h : TabO w base (some ⟨g, 0, none⟩) n c rs) {i : Nat} (hi : i < n) (a b d : Int) :
    TabO (((w.setCell ⟨g, i * 4, none⟩ (.int .i64 a)).setCell ⟨g, i * 4 + 1, none⟩ (.int .i64 b)).setCell ⟨g, i * 4 + 2, none⟩ (.int .i64 d)) base (some ⟨g, 0, none⟩) n c (rs.set i ⟨⟨a, b, d, (rs.getD i TR0).t.slots⟩, (rs.getD i TR0).S, (rs.getD i TR0).c⟩) := by
  have hl := h.len
  have hT : 29 ≠ 41 := by decide
  have hg : rowOf (some (⟨g, 0, none⟩ : Addr)) n = some g := rowOf_pos (by omega)
  have hgr : w.grownBy (((w.setCell ⟨g, i * 4, none⟩ (.int .i64 a)).setCell ⟨g, i * 4 + 1, none⟩ (.int .i64 b)).setCell ⟨g, i * 4 + 2, none⟩ (.int .i64 d)) (some g) := ((grown_set _ _ _ _).trans (grown_set _ _ _ _)).trans (grown_set _ _ _ _)
  have gset : ∀ k, (rs.set i ⟨⟨a, b, d, (rs.getD i TR0).t.slots⟩, (rs.getD i TR0).S, (rs.getD i TR0).c⟩).getD k TR0 = if i = k then ⟨⟨a, b, d, (rs.getD i TR0).t.slots⟩, (rs.getD i TR0).S, (rs.getD i TR0).c⟩ else rs.getD k TR0 := fun k => getD_set_t (by omega)
  have at_ : ∀ (l : List TR) (x : TR), l.length = n → (l.set i x).getD i TR0 = x := fun l x hl => by simp [List.getD, hl, hi]
  have row := RowO.set (RowO.set (RowO.set h.row (i * 4) (by omega) (.int .i64 a)) (i * 4 + 1) (by omega) (.int .i64 b)) (i * 4 + 2) (by omega) (.int .i64 d)
  rcases hx : rs.getD i TR0 with ⟨⟨x, y, z, s⟩, S, q⟩
  rw [hx] at gset
  have e : (((flatT rs).set (i * 4) (.int .i64 a)).set (i * 4 + 1) (.int .i64 b)).set (i * 4 + 2) (.int .i64 d) = flatT (rs.set i ⟨⟨a, b, d, s⟩, S, q⟩) := by
    unfold flatT
    have e1 := flatG_set (f := TR.cells) (sz := 4) (d := TR0) (fun _ => rfl) rs i 0 ⟨⟨a, y, z, s⟩, S, q⟩ (.int .i64 a) (by omega) (by omega) (by rw [hx]; rfl)
    rw [Nat.add_zero] at e1
    rw [e1, flatG_set (f := TR.cells) (sz := 4) (d := TR0) (fun _ => rfl) _ i 1 ⟨⟨a, b, z, s⟩, S, q⟩ (.int .i64 b) (by rw [List.length_set]; omega) (by omega) (by rw [at_ _ _ hl]; rfl), List.set_set,
      flatG_set (f := TR.cells) (sz := 4) (d := TR0) (fun _ => rfl) _ i 2 ⟨⟨a, b, d, s⟩, S, q⟩ (.int .i64 d) (by rw [List.length_set]; omega) (by omega) (by rw [at_ _ _ hl]; rfl), List.set_set]
  rw [e] at row
  have hrow : ∀ k, ((rs.set i ⟨⟨a, b, d, s⟩, S, q⟩).getD k TR0).row = (rs.getD k TR0).row := fun k => by
    rw [gset]
    split
    · next e => subst e; rw [hx]; rfl
    · rfl
  refine ⟨row, fun k hk => ?_, fun k m hk hm hkm y hy => ?_⟩
  · have far := fun (hc : CapO w base (rs.getD k TR0).S (rs.getD k TR0).t.slots.length (rs.getD k TR0).c (rs.getD k TR0).t.slots) => RowO.grownRow (r := some g) hc hgr fun y hy e' => by
      injection e' with e'
      subst e'
      exact rows_apart hT h.row hc _ hg hy
    have := far (h.slots k hk)
    rw [gset]
    split
    · next e => subst e; rw [hx] at this; exact this
    · exact this
  · rw [hrow] at hy ⊢
    exact h.apart k m hk hm hkm y hy
end

end Go.Proofs.Ytdafogfpbpjmdaa
