/- The rule of XRegion for a region that reads a slot which a later operation of its own writes. No condition beyond those written. -/
import Derived.Test.YtpglfbjjmnaojaaRegion
namespace Go.Proofs.Ytpglfbjjmnaojaa
open Go.RowKit
set_option linter.unusedVariables false

section
variable {P : Program} {ops : Array Oper} {Q : Exit → Act → World → Prop}

/-- Whatever writes slot t waits for operation i. -/
def lateSlot (ops : Array Oper) (i t : Nat) : Bool := ops.all fun o => o.dst != some t || o.after.any fun e => Region.binds .any e && e.on == i

structure RInv3 (ops : Array Oper) (a0 : Act) (V : Nat → Value → World → Prop) (G : Nat → World → Prop) (f : Nat) (listed : Array Bool) (a : Act) (w : World) : Prop where
  defers : a.defers = a0.defers
  size : a.tmps.size = a0.tmps.size
  frame : ∀ t, (∀ j oj, ops[j]? = some oj → oj.dst = some t → listed.getD j false = false) → a.eval (.tmp t) = a0.eval (.tmp t)
  closed : ∀ j oj, ops[j]? = some oj → listed.getD j false = true → ∀ e, e ∈ oj.after.toList → Region.binds .any e = true → listed.getD e.on false = true
  val : ∀ i o, ops[i]? = some o → listed.getD i false = true → o.dst ≠ none → V i (valOf a o) w
  inv : G f w

def ROb3 (P : Program) (ops : Array Oper) (Q : Exit → Act → World → Prop) (a0 : Act) (V : Nat → Value → World → Prop) (G : Nat → World → Prop) (Le : World → World → Prop) (i : Nat) (o : Oper) : Prop :=
  ∀ (f : Nat) (a : Act) (w : World) (K : Act → World → Prop),
    (∀ t, lateSlot ops i t = true → a.eval (.tmp t) = a0.eval (.tmp t)) →
    (∀ e, e ∈ o.after.toList → Region.binds .any e = true → ∀ oe, ops[e.on]? = some oe → oe.dst ≠ none → V e.on (valOf a oe) w) →
    f + 1 ≤ ops.size → G (f + 1) w →
    (∀ v w', (o.dst ≠ none → V i v w') → G f w' → Le w w' → K (a.put o.dst v) w') →
    if Region.wanted o (yielded ops a.tmps) = true then o.wp P a w K Q else K (a.put o.dst undef) w

def RObs3 (P : Program) (ops : Array Oper) (Q : Exit → Act → World → Prop) (a0 : Act) (V : Nat → Value → World → Prop) (G : Nat → World → Prop) (Le : World → World → Prop) : Nat → List Oper → Prop
  | _, [] => True
  | i, o :: l => ROb3 P ops Q a0 V G Le i o ∧ RObs3 P ops Q a0 V G Le (i + 1) l

theorem RObs3.at_ {a0 : Act} {V : Nat → Value → World → Prop} {G : Nat → World → Prop} {Le : World → World → Prop} : ∀ (l : List Oper) (k : Nat), RObs3 P ops Q a0 V G Le k l → ∀ i o, l[i]? = some o → ROb3 P ops Q a0 V G Le (k + i) o
  | [], _, _, _, _, h => by simp at h
  | o :: l, k, ⟨h1, h2⟩, 0, o', h => by simp at h; subst h; exact h1
  | o :: l, k, ⟨h1, h2⟩, i + 1, o', h => by
    have := RObs3.at_ l (k + 1) h2 i o' (by simpa using h)
    rwa [show k + 1 + i = k + (i + 1) by omega] at this

theorem wpAny_inv3 {a0 : Act} {V : Nat → Value → World → Prop} {G : Nat → World → Prop} {Le : World → World → Prop} (hd : dstsOk ops a0.tmps.size = true) (he : edgesOk ops = true)
    (hst : ∀ j u w w', Le w w' → V j u w → V j u w') (hob : RObs3 P ops Q a0 V G Le 0 ops.toList)
    (hfin : ∀ f a w, a.defers = a0.defers → a.tmps.size = a0.tmps.size → (∀ t, (ops.all fun o => o.dst != some t) = true → a.eval (.tmp t) = a0.eval (.tmp t)) →
      (∀ i o, ops[i]? = some o → o.dst ≠ none → V i (valOf a o) w) → G f w → Q .normal a w) :
    ∀ (f : Nat) (listed : Array Bool) (a : Act) (w : World), listed.size = ops.size → (unl ops listed).length = f →
      RInv3 ops a0 V G f listed a w → wpAny P .any ops Q f listed a w := by
  have hdn : (ops.toList.filterMap (·.dst)).Nodup := by simpa using (Bool.and_eq_true_iff.1 hd).1
  have hdl : ∀ d, d ∈ ops.toList.filterMap (·.dst) → d < a0.tmps.size := fun d hm => of_decide_eq_true (List.all_eq_true.1 (Bool.and_eq_true_iff.1 hd).2 d hm)
  have fin : ∀ (f : Nat) (listed : Array Bool) (a : Act) (w : World), listed.size = ops.size → RInv3 ops a0 V G f listed a w → Region.ready .any ops listed = [] → Q .normal a w := by
    intro f listed a w hs hI hr
    refine hfin f a w hI.defers hI.size (fun t ht => hI.frame t fun j oj hj hdj => by
      have := (Array.all_eq_true_iff_forall_mem.1 ht) oj (Array.mem_of_getElem? hj)
      simp [hdj] at this) (fun i o hi ho => ?_) hI.inv
    have hlt : i < ops.size := (Array.getElem?_eq_some_iff.1 hi).1
    have := not_ready hs he hr i hlt
    refine hI.val i o hi ?_ ho
    have h4 : i < listed.size := by omega
    simp [Array.getD, h4] at this ⊢
    exact this
  intro f
  induction f with
  | zero =>
    intro listed a w hs hu hI
    have hr : Region.ready .any ops listed = [] := by
      cases hc : Region.ready .any ops listed with
      | nil => rfl
      | cons i l =>
        have := (ready_unl (ops := ops) (listed := listed) (i := i) (by rw [hc]; exact List.mem_cons_self)).1
        rw [List.eq_nil_of_length_eq_zero hu] at this
        cases this
    exact ⟨hr, fin _ _ _ _ hs hI hr⟩
  | succ f ih =>
    intro listed a w hs hu hI
    refine ⟨fin _ _ _ _ hs hI, fun i hi => ?_⟩
    obtain ⟨hiu, o, ho, hdeps⟩ := ready_unl hi
    have hlt := (mem_unl.1 hiu).1
    have hlen := unl_set hs hiu
    have hle : (unl ops listed).length ≤ ops.size := by
      have := List.length_filter_le (fun i => !listed.getD i true) (List.range ops.size)
      simpa [unl] using this
    have ob := RObs3.at_ ops.toList 0 hob i o (by simpa using ho)
    rw [Nat.zero_add] at ob
    have hiF : listed.getD i false = false := by
      have h1 := (mem_unl.1 hiu).2
      have h4 : i < listed.size := by omega
      simp [Array.getD, h4] at h1 ⊢
      exact h1
    have hres := ob f a w (wpAny P .any ops Q f (listed.setIfInBounds i true)) (fun t ht => hI.frame t fun j oj hj hdj => by
        have h1 := (Array.all_eq_true_iff_forall_mem.1 ht) oj (Array.mem_of_getElem? hj)
        simp only [hdj, bne_self_eq_false, Bool.false_or, Array.any_eq_true, Bool.and_eq_true, beq_iff_eq] at h1
        obtain ⟨q, hq, hb, hon⟩ := h1
        cases hc : listed.getD j false
        · rfl
        · have := hI.closed j oj hj hc (oj.after[q]) (Array.mem_toList_iff.2 (Array.getElem_mem hq)) hb
          rw [hon, hiF] at this
          cases this)
      (fun e hem hb oe hoe hn => hI.val e.on oe hoe (hdeps e hem hb) hn) (by omega) hI.inv (fun v w' hv hG hL => by
        refine ih _ _ _ (by simpa using hs) (by omega) ⟨?_, ?_, ?_, ?_, ?_, hG⟩
        · rw [← hI.defers]; cases o.dst <;> rfl
        · rw [← hI.size]; cases o.dst <;> simp [Act.put]
        · intro t ht
          have hne : o.dst ≠ some t := fun hd => by
            have := ht i o ho hd
            have h4 : i < listed.size := by omega
            simp [Array.getD, h4] at this
          rw [eval_put_other hne]
          refine hI.frame t fun j oj hj hdj => ?_
          have h1 := ht j oj hj hdj
          have hjlt : j < ops.size := (Array.getElem?_eq_some_iff.1 hj).1
          by_cases hji : i = j
          · subst hji; exact hiF
          · simp [Array.getD, hs, hjlt, hji] at h1 ⊢
            exact h1
        · intro j oj hj hlj e hem hb
          have grow : listed.getD e.on false = true → (listed.setIfInBounds i true).getD e.on false = true := fun h => by
            by_cases hl : e.on < listed.size
            · by_cases hei : i = e.on
              · simp [Array.getD, hl, hei]
              · simp [Array.getD, hl, hei] at h ⊢
                exact h
            · simp [Array.getD, hl] at h
          by_cases hji : j = i
          · subst hji
            rw [ho] at hj
            injection hj with hj
            subst hj
            exact grow (hdeps e hem hb)
          · have hjlt : j < ops.size := (Array.getElem?_eq_some_iff.1 hj).1
            have hlj' : listed.getD j false = true := by
              have hji' : i ≠ j := fun h => hji h.symm
              simp [Array.getD, hs, hjlt, hji'] at hlj ⊢
              exact hlj
            exact grow (hI.closed j oj hj hlj' e hem hb)
        · intro j oj hj hlj hn
          have hjlt : j < ops.size := (Array.getElem?_eq_some_iff.1 hj).1
          by_cases hji : j = i
          · subst hji
            rw [ho] at hj
            injection hj with hj
            subst hj
            cases hdst : o.dst with
            | none => exact absurd hdst hn
            | some d =>
              have hmem : d ∈ ops.toList.filterMap (·.dst) := List.mem_filterMap.2 ⟨o, List.mem_of_getElem? (by simpa using ho), hdst⟩
              have : valOf (a.put (some d) v) o = v := by
                simp only [valOf, hdst]
                exact eval_put_same (by rw [hI.size]; exact hdl d hmem)
              rw [this]
              exact hv hn
          · have hlj' : listed.getD j false = true := by
              have hji' : i ≠ j := fun h => hji h.symm
              simp [Array.getD, hs, hjlt, hji'] at hlj ⊢
              exact hlj
            have hval := hI.val j oj hj hlj' hn
            have : valOf (a.put o.dst v) oj = valOf a oj := by
              cases hdj : oj.dst with
              | none => exact absurd hdj hn
              | some d =>
                simp only [valOf, hdj]
                refine eval_put_other fun hod => hji ?_
                exact dsts_one ops.toList hdn j i oj o d (by simpa using hj) (by simpa using ho) hdj hod
            rw [this]
            exact hst j _ w w' hL hval)
    unfold wpOp
    rw [ho]
    show if Region.wanted o (yielded ops a.tmps) = true then _ else _
    split
    · rename_i hw; rw [if_pos hw] at hres; exact .inl hres
    · rename_i hw; rw [if_neg hw] at hres; exact hres

/-- A region that draws its order, by an invariant. -/
theorem wp_region_inv3 {id : Nat} {l : List Oper} {a0 : Act} {w : World} (V : Nat → Value → World → Prop) (G : Nat → World → Prop) (Le : World → World → Prop) (hm : P.follows .mixedOrders = true)
    (hd : dstsOk l.toArray a0.tmps.size = true) (he : edgesOk l.toArray = true) (hst : ∀ j u w w', Le w w' → V j u w → V j u w') (hG : G l.length w.drew)
    (hob : RObs3 P l.toArray Q a0 V G Le 0 l)
    (hfin : ∀ f a w', a.defers = a0.defers → a.tmps.size = a0.tmps.size → (∀ t, (l.toArray.all fun o => o.dst != some t) = true → a.eval (.tmp t) = a0.eval (.tmp t)) →
      (∀ i o, l[i]? = some o → o.dst ≠ none → V i (valOf a o) w') → G f w' → Q .normal a w') : (Code.region id l.toArray true).wp P Q a0 w := by
  refine wp_region_any hm ?_
  refine wpAny_inv3 (ops := l.toArray) (V := V) (G := G) (Le := Le) hd he hst (by simpa using hob) (fun f a w' h1 h2 h3 h4 h5 => hfin f a w' h1 h2 h3 (fun i o hi => h4 i o (by simpa using hi)) h5) _ _ _ _ (by simp) ?_ ⟨rfl, rfl, fun _ _ => rfl, ?_, ?_, ?_⟩
  · have : unl l.toArray (Array.replicate l.toArray.size false) = List.range l.length := by
      unfold unl
      rw [List.filter_eq_self.2]
      · simp
      · intro i hi
        have : i < l.length := by simpa using hi
        simp [Array.getD, this]
    rw [this]
    simp
  · intro i o hi hl
    have hlt : i < l.length := by simpa using (Array.getElem?_eq_some_iff.1 hi).1
    simp [Array.getD, hlt] at hl
  · intro i o hi hl
    have hlt : i < l.length := by simpa using (Array.getElem?_eq_some_iff.1 hi).1
    simp [Array.getD, hlt] at hl
  · simpa using hG
end

end Go.Proofs.Ytpglfbjjmnaojaa
