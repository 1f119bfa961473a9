/- A rule for a region that draws its order, with stores among its operations: of a store, a property of the address that it wrote to is kept, too; each operation has its own relation between the worlds. No condition beyond those written. -/
import Derived.Test.YtabjkjbclpokeaaRegion
namespace Go.Proofs.Ytabjkjbclpokeaa
open Go.RowKit
set_option linter.unusedVariables false

section
variable {P : Program} {ops : Array Oper} {Q : Exit → Act → World → Prop}

/-- The slot that is looked at: what the operation writes; of a store, where it stores to. -/
def watch (o : Oper) : Option Nat := match o.dst with
  | some d => some d
  | none => match o.op with
    | .store _ (.tmp p) _ => some p
    | _ => none
def seen (a : Act) (o : Oper) : Value := match watch o with | some d => a.eval (.tmp d) | none => undef
def seenNow (a : Act) (o : Oper) (v : Value) : Value := match o.dst with | some _ => v | none => seen a o

structure RInv2 (ops : Array Oper) (a0 : Act) (V : Nat → Value → World → Prop) (G : Nat → World → Prop) (f : Nat) (listed : Array Bool) (a : Act) (w : World) : Prop where
  defers : a.defers = a0.defers
  size : a.tmps.size = a0.tmps.size
  frame : ∀ t, (ops.all fun o => o.dst != some t) = true → a.eval (.tmp t) = a0.eval (.tmp t)
  val : ∀ i o, ops[i]? = some o → listed.getD i false = true → V i (seen a o) w
  closed : ∀ i o, ops[i]? = some o → listed.getD i false = true → ∀ e, e ∈ o.after.toList → Region.binds .any e = true → listed.getD e.on false = true
  inv : G f w

def ROb2 (P : Program) (ops : Array Oper) (Q : Exit → Act → World → Prop) (a0 : Act) (V : Nat → Value → World → Prop) (G : Nat → World → Prop) (Le : Nat → World → World → Prop) (i : Nat) (o : Oper) : Prop :=
  ∀ (f : Nat) (a : Act) (w : World) (K : Act → World → Prop),
    (∀ t, (ops.all fun o => o.dst != some t) = true → a.eval (.tmp t) = a0.eval (.tmp t)) →
    (∀ e, e ∈ o.after.toList → Region.binds .any e = true → ∀ oe, ops[e.on]? = some oe → V e.on (seen a oe) w) →
    f + 1 ≤ ops.size → G (f + 1) w →
    (∀ v w', V i (seenNow a o v) w' → G f w' → Le i w w' → K (a.put o.dst v) w') →
    if Region.wanted o (yielded ops a.tmps) = true then o.wp P a w K Q else K (a.put o.dst undef) w

def RObs2 (P : Program) (ops : Array Oper) (Q : Exit → Act → World → Prop) (a0 : Act) (V : Nat → Value → World → Prop) (G : Nat → World → Prop) (Le : Nat → World → World → Prop) : Nat → List Oper → Prop
  | _, [] => True
  | i, o :: l => ROb2 P ops Q a0 V G Le i o ∧ RObs2 P ops Q a0 V G Le (i + 1) l

theorem RObs2.at_ {a0 : Act} {V : Nat → Value → World → Prop} {G : Nat → World → Prop} {Le : Nat → World → World → Prop} : ∀ (l : List Oper) (k : Nat), RObs2 P ops Q a0 V G Le k l → ∀ i o, l[i]? = some o → ROb2 P ops Q a0 V G Le (k + i) o
  | [], _, _, _, _, h => by simp at h
  | o :: l, k, ⟨h1, h2⟩, 0, o', h => by simp at h; subst h; exact h1
  | o :: l, k, ⟨h1, h2⟩, i + 1, o', h => by
    have := RObs2.at_ l (k + 1) h2 i o' (by simpa using h)
    rwa [show k + 1 + i = k + (i + 1) by omega] at this

/-- A store waits for the operation that writes its address. -/
def storesOk (ops : Array Oper) : Bool := ops.toList.all fun oj => match oj.dst with
  | some _ => true
  | none => match watch oj with
    | none => true
    | some p => ops.toList.zipIdx.all fun (oi, i) => oi.dst != some p || oj.after.toList.any fun e => e.on == i && Region.binds .any e

theorem seen_put {a : Act} {o : Oper} {d : Option Nat} {v : Value} (h : ∀ p, watch o = some p → d ≠ some p) : seen (a.put d v) o = seen a o := by
  unfold seen
  cases hw : watch o with
  | none => rfl
  | some p => exact eval_put_other (h p hw)

theorem wpAny_inv2 {a0 : Act} {V : Nat → Value → World → Prop} {G : Nat → World → Prop} {Le : Nat → World → World → Prop} (hd : dstsOk ops a0.tmps.size = true) (he : edgesOk ops = true) (hso : storesOk ops = true)
    (hst : ∀ i j u w w', j ≠ i → Le i w w' → V j u w → V j u w') (hob : RObs2 P ops Q a0 V G Le 0 ops.toList)
    (hfin : ∀ f a w, a.defers = a0.defers → a.tmps.size = a0.tmps.size → (∀ t, (ops.all fun o => o.dst != some t) = true → a.eval (.tmp t) = a0.eval (.tmp t)) →
      (∀ i o, ops[i]? = some o → V i (seen a o) w) → G f w → Q .normal a w) :
    ∀ (f : Nat) (listed : Array Bool) (a : Act) (w : World), listed.size = ops.size → (unl ops listed).length = f →
      RInv2 ops a0 V G f listed a w → wpAny P .any ops Q f listed a w := by
  have hdn : (ops.toList.filterMap (·.dst)).Nodup := by simpa using (Bool.and_eq_true_iff.1 hd).1
  have hdl : ∀ d, d ∈ ops.toList.filterMap (·.dst) → d < a0.tmps.size := fun d hm => of_decide_eq_true (List.all_eq_true.1 (Bool.and_eq_true_iff.1 hd).2 d hm)
  have fin : ∀ (f : Nat) (listed : Array Bool) (a : Act) (w : World), listed.size = ops.size → RInv2 ops a0 V G f listed a w → Region.ready .any ops listed = [] → Q .normal a w := by
    intro f listed a w hs hI hr
    refine hfin f a w hI.defers hI.size hI.frame (fun i o hi => ?_) hI.inv
    have hlt : i < ops.size := (Array.getElem?_eq_some_iff.1 hi).1
    have := not_ready hs he hr i hlt
    refine hI.val i o hi ?_
    have h4 : i < listed.size := by omega
    simp [Array.getD, h4] at this ⊢
    exact this
  intro f
  induction f with
  | zero =>
    intro listed a w hs hu hI
    have hr : Region.ready .any ops listed = [] := by
      cases hc : Region.ready .any ops listed with
      | nil => rfl
      | cons i l =>
        have := (ready_unl (ops := ops) (listed := listed) (i := i) (by rw [hc]; exact List.mem_cons_self)).1
        rw [List.eq_nil_of_length_eq_zero hu] at this
        cases this
    exact ⟨hr, fin _ _ _ _ hs hI hr⟩
  | succ f ih =>
    intro listed a w hs hu hI
    refine ⟨fin _ _ _ _ hs hI, fun i hi => ?_⟩
    obtain ⟨hiu, o, ho, hdeps⟩ := ready_unl hi
    have hlt := (mem_unl.1 hiu).1
    have hunl : listed.getD i false = false := by
      have h4 : i < listed.size := by omega
      have := (mem_unl.1 hiu).2
      simp [Array.getD, h4] at this ⊢
      exact this
    have hlen := unl_set hs hiu
    have hle : (unl ops listed).length ≤ ops.size := by
      have := List.length_filter_le (fun i => !listed.getD i true) (List.range ops.size)
      simpa [unl] using this
    have ob := RObs2.at_ ops.toList 0 hob i o (by simpa using ho)
    rw [Nat.zero_add] at ob
    have hother : ∀ j, j ≠ i → (listed.setIfInBounds i true).getD j false = true → listed.getD j false = true := fun j hji hlj => by
      have hji' : i ≠ j := fun h => hji h.symm
      by_cases hj : j < ops.size
      · simp [Array.getD, hs, hj, hji'] at hlj ⊢
        exact hlj
      · simp [Array.getD, hs, hj] at hlj
    have hself : ∀ j, listed.getD j false = true → (listed.setIfInBounds i true).getD j false = true := fun j hlj => by
      by_cases hj : j < ops.size
      · by_cases hji : i = j
        · subst hji; simp [Array.getD, hs, hj]
        · simp [Array.getD, hs, hj, hji] at hlj ⊢
          exact hlj
      · simp [Array.getD, hs, hj] at hlj
    have hres := ob f a w (wpAny P .any ops Q f (listed.setIfInBounds i true)) hI.frame
      (fun e hem hb oe hoe => hI.val e.on oe hoe (hdeps e hem hb)) (by omega) hI.inv (fun v w' hv hG hL => by
        refine ih _ _ _ (by simpa using hs) (by omega) ⟨?_, ?_, ?_, ?_, ?_, hG⟩
        · rw [← hI.defers]; cases o.dst <;> rfl
        · rw [← hI.size]; cases o.dst <;> simp [Act.put]
        · intro t ht
          have hne : o.dst ≠ some t := by
            have := (Array.all_eq_true_iff_forall_mem.1 ht) o (by
              have := List.mem_of_getElem? (l := ops.toList) (i := i) (a := o) (by simpa using ho)
              exact Array.mem_toList_iff.1 this)
            simpa using this
          rw [eval_put_other hne]
          exact hI.frame t ht
        · intro j oj hj hlj
          have hjlt : j < ops.size := (Array.getElem?_eq_some_iff.1 hj).1
          by_cases hji : j = i
          · subst hji
            rw [ho] at hj
            injection hj with hj
            subst hj
            have : seen (a.put o.dst v) o = seenNow a o v := by
              unfold seenNow
              cases hdst : o.dst with
              | none => rfl
              | some d =>
                have hmem : d ∈ ops.toList.filterMap (·.dst) := List.mem_filterMap.2 ⟨o, List.mem_of_getElem? (by simpa using ho), hdst⟩
                have hw : watch o = some d := by simp [watch, hdst]
                simp only [seen, hw]
                exact eval_put_same (by rw [hI.size]; exact hdl d hmem)
            rw [this]
            exact hv
          · have hlj' := hother j hji hlj
            have hval := hI.val j oj hj hlj'
            have : seen (a.put o.dst v) oj = seen a oj := by
              refine seen_put fun p hp hod => ?_
              cases hdj : oj.dst with
              | some d =>
                have : p = d := by simp [watch, hdj] at hp; exact hp.symm
                subst this
                exact hji (dsts_one ops.toList hdn j i oj o p (by simpa using hj) (by simpa using ho) hdj hod)
              | none =>
                have h1 := List.all_eq_true.1 hso oj (List.mem_of_getElem? (i := j) (by simpa using hj))
                simp only [hdj, hp] at h1
                have hz : (o, i) ∈ ops.toList.zipIdx := by
                  rw [List.mem_zipIdx_iff_getElem?]
                  simpa using ho
                have h2 := List.all_eq_true.1 h1 _ hz
                simp only [hod, bne_self_eq_false, Bool.false_or, List.any_eq_true, Bool.and_eq_true, beq_iff_eq] at h2
                obtain ⟨e, hem, heo, heb⟩ := h2
                have h3 := hI.closed j oj hj hlj' e hem heb
                rw [heo, hunl] at h3
                cases h3
            rw [this]
            exact hst i j _ w w' hji hL hval
        · intro j oj hj hlj e hem heb
          by_cases hji : j = i
          · subst hji
            rw [ho] at hj
            injection hj with hj
            subst hj
            exact hself _ (hdeps e hem heb)
          · exact hself _ (hI.closed j oj hj (hother j hji hlj) e hem heb))
    unfold wpOp
    rw [ho]
    show if Region.wanted o (yielded ops a.tmps) = true then _ else _
    split
    · rename_i hw; rw [if_pos hw] at hres; exact .inl hres
    · rename_i hw; rw [if_neg hw] at hres; exact hres

theorem wp_region_inv2 {id : Nat} {l : List Oper} {a0 : Act} {w : World} (V : Nat → Value → World → Prop) (G : Nat → World → Prop) (Le : Nat → World → World → Prop) (hm : P.follows .mixedOrders = true)
    (hd : dstsOk l.toArray a0.tmps.size = true) (he : edgesOk l.toArray = true) (hso : storesOk l.toArray = true) (hst : ∀ i j u w w', j ≠ i → Le i w w' → V j u w → V j u w') (hG : G l.length w.drew)
    (hob : RObs2 P l.toArray Q a0 V G Le 0 l)
    (hfin : ∀ f a w', a.defers = a0.defers → a.tmps.size = a0.tmps.size → (∀ t, (l.toArray.all fun o => o.dst != some t) = true → a.eval (.tmp t) = a0.eval (.tmp t)) →
      (∀ i o, l[i]? = some o → V i (seen a o) w') → G f w' → Q .normal a w') : (Code.region id l.toArray true).wp P Q a0 w := by
  refine wp_region_any hm ?_
  refine wpAny_inv2 (ops := l.toArray) (V := V) (G := G) (Le := Le) hd he hso hst (by simpa using hob) (fun f a w' h1 h2 h3 h4 h5 => hfin f a w' h1 h2 h3 (fun i o hi => h4 i o (by simpa using hi)) h5) _ _ _ _ (by simp) ?_ ⟨rfl, rfl, fun _ _ => rfl, ?_, ?_, ?_⟩
  · have : unl l.toArray (Array.replicate l.toArray.size false) = List.range l.length := by
      unfold unl
      rw [List.filter_eq_self.2]
      · simp
      · intro i hi
        have : i < l.length := by simpa using hi
        simp [Array.getD, this]
    rw [this]
    simp
  · intro i o hi hl
    have hlt : i < l.length := by simpa using (Array.getElem?_eq_some_iff.1 hi).1
    simp [Array.getD, hlt] at hl
  · intro i o hi hl
    have hlt : i < l.length := by simpa using (Array.getElem?_eq_some_iff.1 hi).1
    simp [Array.getD, hlt] at hl
  · simpa using hG
end

end Go.Proofs.Ytabjkjbclpokeaa
