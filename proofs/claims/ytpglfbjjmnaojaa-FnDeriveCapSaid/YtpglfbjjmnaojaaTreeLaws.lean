/- Plain facts on derivation trees, with no program in sight: removing, revoking and deriving keep a tree valid, and what lies below an entry then. No condition beyond those written. -/
import Derived.Test.YtpglfbjjmnaojaaTreePlain
namespace Go.Proofs.Ytpglfbjjmnaojaa
open Go.RowKit
set_option linter.unusedVariables false

theorem ent_ext {es es' : List Ent} (hl : es.length = es'.length) (h : ∀ i : Int, 0 ≤ i → i < es.length → entAt es i = entAt es' i) : es = es' := by
  apply List.ext_getElem hl
  intro i h1 h2
  have := h i (by omega) (by omega)
  rw [entAt_nat, entAt_nat] at this
  simpa [List.getD, h1, h2] using this
theorem entOk_of {es : List Ent} (hv : dValid es = true) {i : Int} (h0 : 0 ≤ i) (hi : i < es.length) : entOk es i = true := by
  have := dValid_ok hv i.toNat (by omega)
  rwa [show ((i.toNat : Nat) : Int) = i by omega] at this
theorem entOk_imp {es es' : List Ent} {i : Int} (h : entOk es i = true) (hc : (entAt es' i).k = (entAt es i).k ∧ (entAt es' i).o = (entAt es i).o ∧ (entAt es' i).r = (entAt es i).r ∧ (entAt es' i).b = (entAt es i).b)
    (hp : -1 ≤ (entAt es' i).p ∧ (entAt es' i).p ≤ i - 1)
    (hg : (entAt es' i).g = false → 0 ≤ (entAt es' i).p → (entAt es' (entAt es' i).p).g = false ∧ entWithin (entAt es' i) (entAt es' (entAt es' i).p) = true) : entOk es' i = true := by
  have h := entOk_iff.1 h
  refine entOk_iff.2 ⟨?_, ?_, hp, hg⟩
  · rw [hc.1, hc.2.1, hc.2.2.1, hc.2.2.2]; exact h.1
  · rw [hc.1]; exact h.2.1

theorem ent_with {x : Ent} {a b : Bool} (h : a = b) : ({ x with g := a } : Ent) = { x with g := b } := by rw [h]
/-- A beginning of a valid tree. -/
theorem entAt_take {es : List Ent} {k : Nat} {i : Int} (h0 : 0 ≤ i) (hi : i < k) : entAt (es.take k) i = entAt es i := by
  unfold entAt
  rw [List.getD, List.getD, List.getElem?_take, if_pos (by omega)]
theorem dValid_take {es : List Ent} (hv : dValid es = true) (k : Nat) : dValid (es.take k) = true := by
  have hl := dValid_len hv
  refine dValid_mk (by rw [List.length_take]; omega) fun i hi => ?_
  rw [List.length_take] at hi
  have hp := dValid_par hv (i := (i : Int)) (by omega) (by omega)
  have e1 : entAt (es.take k) i = entAt es i := entAt_take (by omega) (by omega)
  refine entOk_imp (entOk_of hv (by omega) (by omega : (i : Int) < es.length)) ⟨by rw [e1], by rw [e1], by rw [e1], by rw [e1]⟩ (by rw [e1]; omega) ?_
  rw [e1]
  intro hg hp0
  rw [entAt_take hp0 (by omega)]
  exact dValid_live hv (by omega) (by omega) hg hp0

/-! ### Removing some entries that close downwards: 'gone' of a list -/
theorem goneE_nil (es : List Ent) : goneE es [] = es := by
  refine ent_ext (goneE_len _ _) fun i h0 hi => ?_
  rw [goneE_len] at hi
  rw [goneE_at h0 hi]
  simp
/-- What keeps a tree valid: with every entry of l all live entries derived from it directly are in l. -/
theorem dValid_gone {es : List Ent} {l : List Int} (hv : dValid es = true) (hl : ∀ i : Int, 0 ≤ i → i < es.length → (entAt es i).g = false → 0 ≤ (entAt es i).p → (entAt es i).p ∈ l → i ∈ l) : dValid (goneE es l) = true := by
  have hlen := dValid_len hv
  refine dValid_mk (by rw [goneE_len]; exact hlen) fun i hi => ?_
  rw [goneE_len] at hi
  have hp := dValid_par hv (i := (i : Int)) (by omega) (by omega)
  have e1 := goneE_at (es := es) (l := l) (i := (i : Int)) (by omega) (by omega)
  have e2 : (entAt (goneE es l) i).p = (entAt es i).p := by rw [e1]
  refine entOk_imp (entOk_of hv (by omega) (by omega : (i : Int) < es.length)) ⟨by rw [e1], by rw [e1], by rw [e1], by rw [e1]⟩ (by rw [e2]; omega) ?_
  rw [e1]
  intro hg hp0
  simp only [Bool.or_eq_false_iff, decide_eq_false_iff_not] at hg
  have hl2 := dValid_live hv (by omega) (by omega) hg.1 hp0
  have hni : (entAt es i).p ∉ l := fun h => hg.2 (hl i (by omega) (by omega) hg.1 hp0 h)
  show (entAt (goneE es l) (entAt es i).p).g = false ∧ entWithin { entAt es i with g := _ } (entAt (goneE es l) (entAt es i).p) = true
  rw [goneE_at hp0 (show (entAt es i).p < es.length by omega)]
  exact ⟨by simp [hl2.1, hni], hl2.2⟩
theorem desc_closed {es : List Ent} {n : Int} (hv : dValid es = true) (hn : 0 ≤ n) : ∀ i : Int, 0 ≤ i → i < es.length → (entAt es i).g = false → 0 ≤ (entAt es i).p → (entAt es i).p ∈ desc es n → i ∈ desc es n := by
  intro i h0 hi hg hp0 h
  have hp := dValid_par hv h0 hi
  have hm := mem_desc.1 h
  refine mem_desc.2 ⟨⟨h0, hi⟩, by omega, ?_⟩
  rw [below_eq hn (dValid_up hv) h0 hi, hg]
  simp [hm.2.1, hm.2.2]
theorem dValid_revoke {es : List Ent} {n : Int} (hv : dValid es = true) (hn : 0 ≤ n) : dValid (revokeE es n) = true := dValid_gone hv (desc_closed hv hn)
theorem not_desc_self {es : List Ent} {n : Int} : n ∉ desc es n := fun h => by have := mem_desc.1 h; omega
theorem gone_parent (es : List Ent) (l : List Int) {i : Int} (h0 : 0 ≤ i) (hi : i < es.length) : (entAt (goneE es l) i).p = (entAt es i).p := by rw [goneE_at h0 hi]
theorem gone_mark (es : List Ent) (l : List Int) {i : Int} (h0 : 0 ≤ i) (hi : i < es.length) : (entAt (goneE es l) i).g = ((entAt es i).g || decide (i ∈ l)) := by rw [goneE_at h0 hi]
theorem revoke_live {es : List Ent} {n : Int} (h0 : 0 ≤ n) (hn : n < es.length) : (entAt (revokeE es n) n).g = (entAt es n).g := by
  unfold revokeE
  rw [gone_mark _ _ h0 hn]
  simp [not_desc_self]
/-- Behind a removal of what closes downwards, what lies below an entry is what lay below it and stays. -/
theorem below_gone_eq {es : List Ent} {l : List Int} {n : Int} (hv : dValid es = true) (hn : 0 ≤ n) (hl : ∀ i : Int, 0 ≤ i → i < es.length → (entAt es i).g = false → 0 ≤ (entAt es i).p → (entAt es i).p ∈ l → i ∈ l) :
    ∀ i : Int, 0 ≤ i → i < es.length → below (goneE es l) n i = (below es n i && !decide (i ∈ l)) := by
  have hup : ∀ i : Int, 0 ≤ i → i < (goneE es l).length → (entAt (goneE es l) i).p < i := fun i h0 hi => by
    rw [goneE_len] at hi
    rw [gone_parent _ _ h0 hi]
    exact (dValid_par hv h0 hi).2
  refine up_ind hn (dValid_up hv) _ fun i h0 hi ih => ?_
  rw [below_eq hn hup h0 (by rw [goneE_len]; exact hi), below_eq hn (dValid_up hv) h0 hi, gone_parent _ _ h0 hi, gone_mark _ _ h0 hi]
  cases hg : (entAt es i).g
  · by_cases hlt : n < (entAt es i).p
    · rw [ih hlt]
      by_cases hp : (entAt es i).p ∈ l
      · have := hl i h0 hi hg (by omega) hp
        simp [hp, this]
      · have hne : ((entAt es i).p == n) = false := by rw [beq_eq_false_iff_ne]; omega
        simp [hp, hlt, hne]
        rw [Bool.and_comm]
    · simp [hlt]
      rw [Bool.and_comm]
  · simp
theorem desc_gone {es : List Ent} {l : List Int} {n : Int} (hv : dValid es = true) (hn : 0 ≤ n) (hl : ∀ i : Int, 0 ≤ i → i < es.length → (entAt es i).g = false → 0 ≤ (entAt es i).p → (entAt es i).p ∈ l → i ∈ l) (i : Int) :
    i ∈ desc (goneE es l) n ↔ i ∈ desc es n ∧ i ∉ l := by
  rw [mem_desc, mem_desc, goneE_len]
  constructor
  · rintro ⟨h1, h2, h3⟩
    rw [below_gone_eq hv hn hl i h1.1 h1.2] at h3
    simp only [Bool.and_eq_true, Bool.not_eq_true', decide_eq_false_iff_not] at h3
    exact ⟨⟨h1, h2, h3.1⟩, h3.2⟩
  · rintro ⟨⟨h1, h2, h3⟩, h4⟩
    refine ⟨h1, h2, ?_⟩
    rw [below_gone_eq hv hn hl i h1.1 h1.2, h3]
    simp [h4]
theorem desc_revoked {es : List Ent} {n : Int} (hv : dValid es = true) (hn : 0 ≤ n) : desc (revokeE es n) n = [] := by
  apply List.eq_nil_iff_forall_not_mem.2
  intro i hi
  have := (desc_gone hv hn (desc_closed hv hn) i).1 hi
  exact this.2 this.1
theorem revoke_revoked {es : List Ent} {n : Int} (hv : dValid es = true) (hn : 0 ≤ n) : revokeE (revokeE es n) n = revokeE es n := by
  conv => lhs; unfold revokeE
  rw [show desc (goneE es (desc es n)) n = [] from desc_revoked hv hn, goneE_nil]
  rfl
theorem desc_trans {es : List Ent} {n m i : Int} (hv : dValid es = true) (hn : 0 ≤ n) (h : m ∈ desc es n) (hi : i ∈ desc es m) : i ∈ desc es n := by
  have h1 := mem_desc.1 h
  have h2 := mem_desc.1 hi
  exact mem_desc.2 ⟨h2.1, by omega, below_trans hv hn h1.2.1 h1.1.2 h1.2.2 i h2.1.1 h2.1.2 h2.2.2⟩
theorem revoke_after {es : List Ent} {n m : Int} (hv : dValid es = true) (hn : 0 ≤ n) (h : m ∈ desc es n) : revokeE (revokeE es m) n = revokeE es n := by
  have hm := mem_desc.1 h
  refine ent_ext (by simp only [revokeE_len]) fun i h0 hi => ?_
  simp only [revokeE_len] at hi
  have h1 := goneE_at (es := es) (l := desc es m) h0 hi
  have h2 := goneE_at (es := revokeE es m) (l := desc (revokeE es m) n) h0 (by rw [revokeE_len]; exact hi)
  have h3 := goneE_at (es := es) (l := desc es n) h0 hi
  have hd := desc_gone hv hn (desc_closed hv (show 0 ≤ m by omega)) i
  have ht := fun h' => desc_trans (i := i) hv hn h h'
  show entAt (goneE (revokeE es m) (desc (revokeE es m) n)) i = entAt (goneE es (desc es n)) i
  rw [h2, h3]
  have e1 : entAt (revokeE es m) i = { entAt es i with g := (entAt es i).g || decide (i ∈ desc es m) } := h1
  rw [e1]
  refine ent_with (x := entAt es i) ?_
  show ((entAt es i).g || decide (i ∈ desc es m) || decide (i ∈ desc (goneE es (desc es m)) n)) = ((entAt es i).g || decide (i ∈ desc es n))
  cases (entAt es i).g
  · simp only [Bool.false_or]
    rw [Bool.eq_iff_iff]
    simp only [Bool.or_eq_true, decide_eq_true_eq, hd]
    constructor
    · rintro (h | h)
      · exact ht h
      · exact h.1
    · intro h'
      by_cases hh : i ∈ desc es m
      · exact .inl hh
      · exact .inr ⟨h', hh⟩
  · rfl
theorem desc_live {es : List Ent} {n m : Int} (hv : dValid es = true) (hn : 0 ≤ n) (h : m ∈ desc es n) : liveB es m = true := by
  have hm := mem_desc.1 h
  exact liveB_iff.2 ⟨hv, hm.1, below_live hv hn hm.1.1 hm.1.2 hm.2.2⟩
theorem revoke_keeps_live {es : List Ent} {n m : Int} (hl : liveB es n = true) (h : m = n ∨ m ∈ desc es n) : liveB (revokeE es m) n = true := by
  obtain ⟨hv, hn, hg⟩ := liveB_iff.1 hl
  have hm0 : 0 ≤ m := by
    rcases h with rfl | h
    · exact hn.1
    · have := mem_desc.1 h; omega
  refine liveB_iff.2 ⟨dValid_revoke hv hm0, by rw [revokeE_len]; exact hn, ?_⟩
  unfold revokeE
  rw [gone_mark _ _ hn.1 hn.2, hg]
  have : n ∉ desc es m := fun hh => by
    have := mem_desc.1 hh
    rcases h with rfl | h
    · omega
    · have := mem_desc.1 h; omega
  simp [this]
/-- Which entries revoking changes. -/
theorem revoke_same {es : List Ent} {n i : Int} (hv : dValid es = true) (hn : 0 ≤ n) (h0 : 0 ≤ i) (hi : i < es.length) :
    entAt (revokeE es n) i = if n < i ∧ below es n i = true then { entAt es i with g := true } else entAt es i := by
  have h := goneE_at (es := es) (l := desc es n) h0 hi
  have hm : i ∈ desc es n ↔ n < i ∧ below es n i = true := by rw [mem_desc]; simp [h0, hi]
  show entAt (goneE es (desc es n)) i = _
  rw [h]
  by_cases hh : n < i ∧ below es n i = true
  · rw [if_pos hh]
    simp [hm, hh]
  · rw [if_neg hh]
    simp [hm, hh]
theorem revoke_changed {es : List Ent} {n i : Int} (hv : dValid es = true) (hn : 0 ≤ n) (h0 : 0 ≤ i) (hi : i < es.length) :
    entEq (entAt (revokeE es n) i) (entAt es i) = !(decide (n < i) && below es n i) := by
  rw [revoke_same hv hn h0 hi]
  by_cases hh : n < i ∧ below es n i = true
  · rw [if_pos hh, hh.2]
    have hg := below_live hv hn h0 hi hh.2
    have h1 : decide (n < i) = true := by simp [hh.1]
    rw [h1]
    unfold entEq
    simp [hg]
  · rw [if_neg hh, entEq_refl]
    by_cases h1 : n < i
    · have h2 : below es n i = false := by
        cases hb : below es n i
        · rfl
        · exact absurd ⟨h1, hb⟩ hh
      simp [h2]
    · simp [h1]

/-! ### Removing one entry -/
theorem remove_parent {es : List Ent} {n i : Int} (h0 : 0 ≤ i) (hi : i < es.length) : (entAt (removeE es n) i).p = if (entAt es i).p = n ∧ (entAt es i).g = false then (entAt es n).p else (entAt es i).p := by rw [removeE_at h0 hi]
theorem remove_mark {es : List Ent} {n i : Int} (h0 : 0 ≤ i) (hi : i < es.length) : (entAt (removeE es n) i).g = ((entAt es i).g || decide (i = n)) := by rw [removeE_at h0 hi]
theorem remove_within {es : List Ent} {n i j : Int} (h0 : 0 ≤ i) (hi : i < es.length) (j0 : 0 ≤ j) (hj : j < es.length) : entWithin (entAt (removeE es n) i) (entAt (removeE es n) j) = entWithin (entAt es i) (entAt es j) := by
  rw [removeE_at h0 hi, removeE_at j0 hj]; rfl
theorem dValid_remove {es : List Ent} {n : Int} (hl : liveB es n = true) : dValid (removeE es n) = true := by
  obtain ⟨hv, hn, hgn⟩ := liveB_iff.1 hl
  have hlen := dValid_len hv
  refine dValid_mk (by rw [removeE_len]; exact hlen) fun i hi => ?_
  rw [removeE_len] at hi
  have i0 : (0 : Int) ≤ (i : Int) := by omega
  have i1 : (i : Int) < es.length := by omega
  have hp := dValid_par hv i0 i1
  have hpn := dValid_par hv hn.1 hn.2
  have e1 := removeE_at (es := es) (n := n) i0 i1
  refine entOk_imp (entOk_of hv i0 i1) ⟨by rw [e1], by rw [e1], by rw [e1], by rw [e1]⟩ ?_ ?_
  · rw [remove_parent i0 i1]
    split
    · next h => have := h.1; omega
    · omega
  · rw [remove_parent i0 i1, remove_mark i0 i1]
    intro hg hp0
    simp only [Bool.or_eq_false_iff, decide_eq_false_iff_not] at hg
    by_cases hc : (entAt es i).p = n ∧ (entAt es i).g = false
    · rw [if_pos hc] at hp0 ⊢
      have a1 := dValid_live hv i0 i1 hg.1 (by omega)
      rw [hc.1] at a1
      have a2 := dValid_live hv hn.1 hn.2 hgn hp0
      rw [remove_mark hp0 (by omega), remove_within i0 i1 hp0 (by omega)]
      refine ⟨?_, entWithin_trans a1.2 a2.2⟩
      have : ¬ (entAt es n).p = n := by omega
      simp [a2.1, this]
    · rw [if_neg hc] at hp0 ⊢
      have a1 := dValid_live hv i0 i1 hg.1 hp0
      have hne : ¬ (entAt es i).p = n := fun h => hc ⟨h, hg.1⟩
      rw [remove_mark hp0 (by omega), remove_within i0 i1 hp0 (by omega)]
      exact ⟨by simp [a1.1, hne], a1.2⟩
theorem below_remove {es : List Ent} {n k : Int} (hl : liveB es n = true) (hk0 : 0 ≤ k) (hkn : k ≠ n) :
    ∀ i : Int, 0 ≤ i → i < es.length → below (removeE es n) k i = (below es k i && !decide (i = n)) := by
  obtain ⟨hv, hn, hgn⟩ := liveB_iff.1 hl
  have hv' := dValid_remove hl
  have hpn := dValid_par hv hn.1 hn.2
  have hup : ∀ i : Int, 0 ≤ i → i < (removeE es n).length → (entAt (removeE es n) i).p < i := dValid_up hv'
  suffices H : ∀ m : Nat, ∀ i : Int, 0 ≤ i → i < es.length → i < m → below (removeE es n) k i = (below es k i && !decide (i = n)) from fun i h0 hi => H (i.toNat + 1) i h0 hi (by omega)
  intro m
  induction m with
  | zero => intro i h0 _ h; omega
  | succ m ih =>
    intro i h0 hi him
    have hp := dValid_par hv h0 hi
    rw [below_eq hk0 hup h0 (by rw [removeE_len]; exact hi), below_eq hk0 (dValid_up hv) h0 hi, remove_parent h0 hi, remove_mark h0 hi]
    by_cases hin : i = n
    · simp [hin]
    · cases hg : (entAt es i).g
      · by_cases hpi : (entAt es i).p = n
        · rw [if_pos ⟨hpi, rfl⟩, hpi]
          have e1 : below es k n = ((entAt es n).p == k || (decide (k < (entAt es n).p) && below es k (entAt es n).p)) := by
            rw [below_eq hk0 (dValid_up hv) hn.1 hn.2, hgn]; simp
          have hne : (n == k) = false := by rw [beq_eq_false_iff_ne]; exact fun h => hkn h.symm
          by_cases hlt : k < (entAt es n).p
          · have h2 := ih (entAt es n).p (by omega) (by omega) (by omega)
            have h3 : ¬ (entAt es n).p = n := by omega
            rw [h2, e1]
            have h4 : k < n := by omega
            simp [hin, hne, h3, hlt, h4]
          · by_cases hkn2 : k < n
            · rw [e1]
              simp [hin, hne, hlt, hkn2]
            · have h4 : ((entAt es n).p == k) = false := by rw [beq_eq_false_iff_ne]; omega
              simp [hin, hne, hlt, hkn2, h4]
        · rw [if_neg (fun h => hpi h.1)]
          by_cases hlt : k < (entAt es i).p
          · rw [ih (entAt es i).p (by omega) (by omega) (by omega)]
            simp [hin, hpi, hlt]
          · simp [hin, hlt]
      · simp
theorem desc_remove {es : List Ent} {n k : Int} (hl : liveB es n = true) (hk0 : 0 ≤ k) (hkn : k ≠ n) : desc (removeE es n) k = (desc es k).filter fun i => !decide (i = n) := by
  unfold desc descTo
  rw [removeE_len, List.filter_filter]
  apply List.filter_congr
  intro i hi
  obtain ⟨j, hj, rfl⟩ := List.mem_map.1 hi
  have hj' := List.mem_range.1 hj
  rw [below_remove hl hk0 hkn (Int.ofNat j) (Int.natCast_nonneg j) (by show (j : Int) < _; omega)]
  cases decide (k < Int.ofNat j) <;> cases below es k (Int.ofNat j) <;> simp
theorem remove_gone {es : List Ent} {n : Int} (h0 : 0 ≤ n) (hn : n < es.length) : (entAt (removeE es n) n).g = true := by rw [remove_mark h0 hn]; simp
theorem remove_keeps {es : List Ent} {n k : Int} (h0 : 0 ≤ k) (hk : k < es.length) (hkn : k ≠ n) (hg : (entAt es k).g = false) : (entAt (removeE es n) k).g = false := by rw [remove_mark h0 hk, hg]; simp [hkn]
theorem remove_held {es : List Ent} {n k : Int} (h0 : 0 ≤ k) (hk : k < es.length) : (entAt (removeE es n) k).k = (entAt es k).k ∧ (entAt (removeE es n) k).o = (entAt es k).o ∧ (entAt (removeE es n) k).r = (entAt es k).r ∧ (entAt (removeE es n) k).b = (entAt es k).b := by
  rw [removeE_at h0 hk]; exact ⟨rfl, rfl, rfl, rfl⟩

/-! ### Deriving one entry -/
theorem dValid_derive {es : List Ent} {n : Int} {e : Ent} (hl : liveB es n = true) (h30 : es.length < 30) (hp : e.p = n) (hg : e.g = false) (hk : e.k ≠ 0) (hc : capOk e.k e.o e.r e.b = true) (hw : entWithin e (entAt es n) = true) : dValid (es ++ [e]) = true := by
  obtain ⟨hv, hn, hgn⟩ := liveB_iff.1 hl
  refine dValid_mk (by rw [List.length_append]; simp; omega) fun i hi => ?_
  rw [List.length_append, List.length_singleton] at hi
  by_cases h : i < es.length
  · have e1 : entAt (es ++ [e]) i = entAt es i := entAt_append_lt (by omega) (by omega)
    have hpi := dValid_par hv (i := (i : Int)) (by omega) (by omega)
    refine entOk_imp (entOk_of hv (by omega) (by omega : (i : Int) < es.length)) ⟨by rw [e1], by rw [e1], by rw [e1], by rw [e1]⟩ (by rw [e1]; omega) ?_
    rw [e1]
    intro h1 h2
    rw [entAt_append_lt h2 (by omega)]
    exact dValid_live hv (by omega) (by omega) h1 h2
  · have hi2 : i = es.length := by omega
    subst hi2
    refine entOk_iff.2 ?_
    rw [entAt_append_end, hp]
    refine ⟨hc, hk, by omega, fun _ _ => ?_⟩
    rw [entAt_append_lt hn.1 hn.2]
    exact ⟨hgn, hw⟩
theorem below_derive {es : List Ent} {n k : Int} {e : Ent} (hv : dValid es = true) (hv' : dValid (es ++ [e]) = true) (hk : 0 ≤ k) : ∀ i : Int, 0 ≤ i → i < es.length → below (es ++ [e]) k i = below es k i := by
  refine up_ind hk (dValid_up hv) _ fun i h0 hi ih => ?_
  rw [below_eq hk (dValid_up hv') h0 (by rw [List.length_append]; simp; omega), below_eq hk (dValid_up hv) h0 hi, entAt_append_lt h0 hi]
  by_cases hlt : k < (entAt es i).p
  · rw [ih hlt]
  · simp [hlt]
theorem desc_derive {es : List Ent} {n : Int} {e : Ent} (hl : liveB es n = true) (hv' : dValid (es ++ [e]) = true) (hp : e.p = n) (hg : e.g = false) : desc (es ++ [e]) n = desc es n ++ [(es.length : Int)] := by
  obtain ⟨hv, hn, hgn⟩ := liveB_iff.1 hl
  unfold desc
  rw [List.length_append, List.length_singleton, descTo_succ]
  rw [descTo_congr (es' := es) (fun i h0 hi => below_derive (n := n) hv hv' hn.1 i h0 hi)]
  have h1 : below (es ++ [e]) n es.length = true := by
    rw [below_eq hn.1 (dValid_up hv') (by omega) (by rw [List.length_append]; simp; omega), entAt_append_end, hp, hg]
    simp
  have h2 : n < (es.length : Int) := hn.2
  simp [h1, h2]
theorem revoke_derived {es : List Ent} {n : Int} {e : Ent} (hl : liveB es n = true) (hv' : dValid (es ++ [e]) = true) (hp : e.p = n) (hg : e.g = false) : revokeE (es ++ [e]) n = revokeE es n ++ [{ e with g := true }] := by
  obtain ⟨hv, hn, hgn⟩ := liveB_iff.1 hl
  unfold revokeE
  rw [desc_derive hl hv' hp hg]
  have hlen : (goneE es (desc es n)).length = es.length := goneE_len _ _
  refine ent_ext (by rw [goneE_len, List.length_append, List.length_append, goneE_len]; rfl) fun i h0 hi => ?_
  rw [goneE_len] at hi
  rw [goneE_at h0 hi]
  rw [List.length_append, List.length_singleton] at hi
  by_cases h : i < es.length
  · rw [entAt_append_lt h0 h, entAt_append_lt h0 (by rw [goneE_len]; exact h), goneE_at h0 h]
    have : i ≠ (es.length : Int) := by omega
    simp [this]
  · have hi2 : i = (es.length : Int) := by omega
    subst hi2
    rw [entAt_append_end]
    have h3 : entAt (goneE es (desc es n) ++ [{ e with g := true }]) (es.length : Int) = { e with g := true } := by
      rw [← hlen]; exact entAt_append_end
    rw [h3]
    simp

end Go.Proofs.Ytpglfbjjmnaojaa
