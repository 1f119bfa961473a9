/- A rule for a region that draws its order: each operation is looked at once, in whatever world the operations that it waits for have left; what an operation has yielded is told by a property that later worlds keep. No condition beyond those written. -/
import Derived.Test.YtpglfbjjmnaojaaBase
import Derived.Orders
import Derived.RegionTactic
namespace Go.Proofs.Ytpglfbjjmnaojaa
open Go.RowKit
set_option linter.unusedVariables false

section
variable {P : Program} {ops : Array Oper} {Q : Exit → Act → World → Prop}

/-- What operation o has left in its slot. -/
def valOf (a : Act) (o : Oper) : Value := match o.dst with | some d => a.eval (.tmp d) | none => undef

structure RInv (ops : Array Oper) (a0 : Act) (V : Nat → Value → World → Prop) (G : Nat → World → Prop) (f : Nat) (listed : Array Bool) (a : Act) (w : World) : Prop where
  defers : a.defers = a0.defers
  size : a.tmps.size = a0.tmps.size
  frame : ∀ t, (ops.all fun o => o.dst != some t) = true → a.eval (.tmp t) = a0.eval (.tmp t)
  val : ∀ i o, ops[i]? = some o → listed.getD i false = true → o.dst ≠ none → V i (valOf a o) w
  inv : G f w

/-- What is asked of operation i. -/
def ROb (P : Program) (ops : Array Oper) (Q : Exit → Act → World → Prop) (a0 : Act) (V : Nat → Value → World → Prop) (G : Nat → World → Prop) (Le : World → World → Prop) (i : Nat) (o : Oper) : Prop :=
  ∀ (f : Nat) (a : Act) (w : World) (K : Act → World → Prop),
    (∀ t, (ops.all fun o => o.dst != some t) = true → a.eval (.tmp t) = a0.eval (.tmp t)) →
    (∀ e, e ∈ o.after.toList → Region.binds .any e = true → ∀ oe, ops[e.on]? = some oe → oe.dst ≠ none → V e.on (valOf a oe) w) →
    f + 1 ≤ ops.size → G (f + 1) w →
    (∀ v w', (o.dst ≠ none → V i v w') → G f w' → Le w w' → K (a.put o.dst v) w') →
    if Region.wanted o (yielded ops a.tmps) = true then o.wp P a w K Q else K (a.put o.dst undef) w

def RObs (P : Program) (ops : Array Oper) (Q : Exit → Act → World → Prop) (a0 : Act) (V : Nat → Value → World → Prop) (G : Nat → World → Prop) (Le : World → World → Prop) : Nat → List Oper → Prop
  | _, [] => True
  | i, o :: l => ROb P ops Q a0 V G Le i o ∧ RObs P ops Q a0 V G Le (i + 1) l

theorem RObs.at_ {a0 : Act} {V : Nat → Value → World → Prop} {G : Nat → World → Prop} {Le : World → World → Prop} : ∀ (l : List Oper) (k : Nat), RObs P ops Q a0 V G Le k l → ∀ i o, l[i]? = some o → ROb P ops Q a0 V G Le (k + i) o
  | [], _, _, _, _, h => by simp at h
  | o :: l, k, ⟨h1, h2⟩, 0, o', h => by simp at h; subst h; exact h1
  | o :: l, k, ⟨h1, h2⟩, i + 1, o', h => by
    have := RObs.at_ l (k + 1) h2 i o' (by simpa using h)
    rwa [show k + 1 + i = k + (i + 1) by omega] at this

/-- No two operations write one slot; each slot lies in the frame. -/
def dstsOk (ops : Array Oper) (n : Nat) : Bool :=
  (ops.toList.filterMap (·.dst)).Nodup && (ops.toList.filterMap (·.dst)).all (· < n)

theorem dsts_one : ∀ (l : List Oper), (l.filterMap (·.dst)).Nodup → ∀ (i j : Nat) (oi oj : Oper) (d : Nat), l[i]? = some oi → l[j]? = some oj → oi.dst = some d → oj.dst = some d → i = j
  | [], _, i, _, _, _, _, h, _, _, _ => by simp at h
  | o :: l, hn, i, j, oi, oj, d, hi, hj, di, dj => by
    have mem : ∀ (k : Nat) (ok : Oper), l[k]? = some ok → ok.dst = some d → d ∈ l.filterMap (·.dst) := fun k ok hk hd => List.mem_filterMap.2 ⟨ok, List.mem_of_getElem? hk, hd⟩
    have htail : (l.filterMap (·.dst)).Nodup := by
      cases h : o.dst with
      | none => simpa [List.filterMap_cons, h] using hn
      | some x => exact (List.nodup_cons.1 (by simpa [List.filterMap_cons, h] using hn)).2
    have hno : o.dst = some d → d ∉ l.filterMap (·.dst) := fun h => (List.nodup_cons.1 (by simpa [List.filterMap_cons, h] using hn)).1
    cases i with
    | zero =>
      cases j with
      | zero => rfl
      | succ j =>
        simp at hi; subst hi
        exact absurd (mem j oj (by simpa using hj) dj) (hno di)
    | succ i =>
      cases j with
      | zero =>
        simp at hj; subst hj
        exact absurd (mem i oi (by simpa using hi) di) (hno dj)
      | succ j => rw [dsts_one l htail i j oi oj d (by simpa using hi) (by simpa using hj) di dj]

theorem eval_put_same {a : Act} {d : Nat} {v : Value} (h : d < a.tmps.size) : (a.put (some d) v).eval (.tmp d) = v := by
  simp [Act.eval, Act.put, h]
theorem eval_put_other {a : Act} {d : Option Nat} {t : Nat} {v : Value} (h : d ≠ some t) : (a.put d v).eval (.tmp t) = a.eval (.tmp t) :=
  Act.eval_put fun e he hx => h (by injection hx with hx; rw [he, hx])

/-- Each operation waits for earlier ones alone. -/
def edgesOk (ops : Array Oper) : Bool := ops.toList.zipIdx.all fun (o, i) => o.after.toList.all fun e => !Region.binds .any e || decide (e.on < i)

def unl (ops : Array Oper) (listed : Array Bool) : List Nat := (List.range ops.size).filter fun i => !listed.getD i true

theorem mem_unl {listed : Array Bool} {i : Nat} : i ∈ unl ops listed ↔ i < ops.size ∧ listed.getD i true = false := by
  simp [unl]

theorem unl_set {listed : Array Bool} {i : Nat} (hs : listed.size = ops.size) (hi : i ∈ unl ops listed) : (unl ops (listed.setIfInBounds i true)).length + 1 = (unl ops listed).length := by
  have hlt := (mem_unl.1 hi).1
  have he : unl ops (listed.setIfInBounds i true) = (unl ops listed).erase i := by
    have hn : (unl ops listed).Nodup := List.nodup_range.filter _
    rw [hn.erase_eq_filter]
    unfold unl
    rw [List.filter_filter]
    apply List.filter_congr
    intro j hj
    have hj' : j < ops.size := List.mem_range.1 hj
    by_cases hji : j = i
    · subst hji
      simp [Array.getD, hs, hj']
    · have hji' : i ≠ j := fun h => hji h.symm
      simp [Array.getD, hs, hj', hji, hji']
  rw [he, List.length_erase_of_mem hi]
  have : 0 < (unl ops listed).length := List.length_pos_of_mem hi
  omega

theorem ready_unl {listed : Array Bool} {i : Nat} (h : i ∈ Region.ready .any ops listed) : i ∈ unl ops listed ∧ ∃ o, ops[i]? = some o ∧ ∀ e, e ∈ o.after.toList → Region.binds .any e = true → listed.getD e.on false = true := by
  unfold Region.ready at h
  simp only [List.mem_filter, List.mem_range, Bool.and_eq_true, Bool.not_eq_true'] at h
  obtain ⟨hlt, hl, hr⟩ := h
  refine ⟨mem_unl.2 ⟨hlt, hl⟩, ops[i], Array.getElem?_eq_getElem hlt, fun e he hb => ?_⟩
  rw [Array.getElem?_eq_getElem hlt] at hr
  simp only [Option.map_some, Option.getD_some] at hr
  have := (Array.all_eq_true_iff_forall_mem.1 hr) e (Array.mem_toList_iff.1 he)
  simpa [hb] using this

theorem not_ready {listed : Array Bool} (hs : listed.size = ops.size) (he : edgesOk ops = true) (h : Region.ready .any ops listed = []) : ∀ i, i < ops.size → listed.getD i true = true := by
  intro i
  induction i using Nat.strongRecOn with
  | _ i ih =>
    intro hi
    cases hc : listed.getD i true with
    | true => rfl
    | false =>
      exfalso
      have : i ∈ Region.ready .any ops listed := by
        unfold Region.ready
        simp only [List.mem_filter, List.mem_range, Bool.and_eq_true, Bool.not_eq_true']
        refine ⟨hi, hc, ?_⟩
        rw [Array.getElem?_eq_getElem hi]
        simp only [Option.map_some, Option.getD_some]
        refine Array.all_eq_true_iff_forall_mem.2 fun e hm => ?_
        cases hb : Region.binds .any e with
        | false => simp
        | true =>
          have hz : (ops[i], i) ∈ ops.toList.zipIdx := by
            rw [List.mem_zipIdx_iff_getElem?]
            simp [Array.getElem?_eq_getElem hi]
          have h1 := (List.all_eq_true.1 he) _ hz
          have h2 := (List.all_eq_true.1 h1) e (Array.mem_toList_iff.2 hm)
          have hlt : e.on < i := by simpa [hb] using h2
          have h3 := ih e.on hlt (by omega)
          have h4 : e.on < listed.size := by omega
          simp [Array.getD, h4] at h3 ⊢
          exact h3
      rw [h] at this
      cases this

theorem wpAny_inv {a0 : Act} {V : Nat → Value → World → Prop} {G : Nat → World → Prop} {Le : World → World → Prop} (hd : dstsOk ops a0.tmps.size = true) (he : edgesOk ops = true)
    (hst : ∀ j u w w', Le w w' → V j u w → V j u w') (hob : RObs P ops Q a0 V G Le 0 ops.toList)
    (hfin : ∀ f a w, a.defers = a0.defers → a.tmps.size = a0.tmps.size → (∀ t, (ops.all fun o => o.dst != some t) = true → a.eval (.tmp t) = a0.eval (.tmp t)) →
      (∀ i o, ops[i]? = some o → o.dst ≠ none → V i (valOf a o) w) → G f w → Q .normal a w) :
    ∀ (f : Nat) (listed : Array Bool) (a : Act) (w : World), listed.size = ops.size → (unl ops listed).length = f →
      RInv ops a0 V G f listed a w → wpAny P .any ops Q f listed a w := by
  have hdn : (ops.toList.filterMap (·.dst)).Nodup := by simpa using (Bool.and_eq_true_iff.1 hd).1
  have hdl : ∀ d, d ∈ ops.toList.filterMap (·.dst) → d < a0.tmps.size := fun d hm => of_decide_eq_true (List.all_eq_true.1 (Bool.and_eq_true_iff.1 hd).2 d hm)
  have fin : ∀ (f : Nat) (listed : Array Bool) (a : Act) (w : World), listed.size = ops.size → RInv ops a0 V G f listed a w → Region.ready .any ops listed = [] → Q .normal a w := by
    intro f listed a w hs hI hr
    refine hfin f a w hI.defers hI.size hI.frame (fun i o hi ho => ?_) hI.inv
    have hlt : i < ops.size := (Array.getElem?_eq_some_iff.1 hi).1
    have := not_ready hs he hr i hlt
    refine hI.val i o hi ?_ ho
    have h4 : i < listed.size := by omega
    simp [Array.getD, h4] at this ⊢
    exact this
  intro f
  induction f with
  | zero =>
    intro listed a w hs hu hI
    have hr : Region.ready .any ops listed = [] := by
      cases hc : Region.ready .any ops listed with
      | nil => rfl
      | cons i l =>
        have := (ready_unl (ops := ops) (listed := listed) (i := i) (by rw [hc]; exact List.mem_cons_self)).1
        rw [List.eq_nil_of_length_eq_zero hu] at this
        cases this
    exact ⟨hr, fin _ _ _ _ hs hI hr⟩
  | succ f ih =>
    intro listed a w hs hu hI
    refine ⟨fin _ _ _ _ hs hI, fun i hi => ?_⟩
    obtain ⟨hiu, o, ho, hdeps⟩ := ready_unl hi
    have hlt := (mem_unl.1 hiu).1
    have hlen := unl_set hs hiu
    have hle : (unl ops listed).length ≤ ops.size := by
      have := List.length_filter_le (fun i => !listed.getD i true) (List.range ops.size)
      simpa [unl] using this
    have ob := RObs.at_ ops.toList 0 hob i o (by simpa using ho)
    rw [Nat.zero_add] at ob
    have hres := ob f a w (wpAny P .any ops Q f (listed.setIfInBounds i true)) hI.frame
      (fun e hem hb oe hoe hn => hI.val e.on oe hoe (hdeps e hem hb) hn) (by omega) hI.inv (fun v w' hv hG hL => by
        refine ih _ _ _ (by simpa using hs) (by omega) ⟨?_, ?_, ?_, ?_, hG⟩
        · rw [← hI.defers]; cases o.dst <;> rfl
        · rw [← hI.size]; cases o.dst <;> simp [Act.put]
        · intro t ht
          have hne : o.dst ≠ some t := by
            have := (Array.all_eq_true_iff_forall_mem.1 ht) o (by
              have := List.mem_of_getElem? (l := ops.toList) (i := i) (a := o) (by simpa using ho)
              exact Array.mem_toList_iff.1 this)
            simpa using this
          rw [eval_put_other hne]
          exact hI.frame t ht
        · intro j oj hj hlj hn
          have hjlt : j < ops.size := (Array.getElem?_eq_some_iff.1 hj).1
          by_cases hji : j = i
          · subst hji
            rw [ho] at hj
            injection hj with hj
            subst hj
            cases hdst : o.dst with
            | none => exact absurd hdst hn
            | some d =>
              have hmem : d ∈ ops.toList.filterMap (·.dst) := List.mem_filterMap.2 ⟨o, List.mem_of_getElem? (by simpa using ho), hdst⟩
              have : valOf (a.put (some d) v) o = v := by
                simp only [valOf, hdst]
                exact eval_put_same (by rw [hI.size]; exact hdl d hmem)
              rw [this]
              exact hv hn
          · have hlj' : listed.getD j false = true := by
              have hji' : i ≠ j := fun h => hji h.symm
              simp [Array.getD, hs, hjlt, hji'] at hlj ⊢
              exact hlj
            have hval := hI.val j oj hj hlj' hn
            have : valOf (a.put o.dst v) oj = valOf a oj := by
              cases hdj : oj.dst with
              | none => exact absurd hdj hn
              | some d =>
                simp only [valOf, hdj]
                refine eval_put_other fun hod => hji ?_
                exact dsts_one ops.toList hdn j i oj o d (by simpa using hj) (by simpa using ho) hdj hod
            rw [this]
            exact hst j _ w w' hL hval)
    unfold wpOp
    rw [ho]
    show if Region.wanted o (yielded ops a.tmps) = true then _ else _
    split
    · rename_i hw; rw [if_pos hw] at hres; exact .inl hres
    · rename_i hw; rw [if_neg hw] at hres; exact hres

/-- A region that draws its order, by an invariant. -/
theorem wp_region_inv {id : Nat} {l : List Oper} {a0 : Act} {w : World} (V : Nat → Value → World → Prop) (G : Nat → World → Prop) (Le : World → World → Prop) (hm : P.follows .mixedOrders = true)
    (hd : dstsOk l.toArray a0.tmps.size = true) (he : edgesOk l.toArray = true) (hst : ∀ j u w w', Le w w' → V j u w → V j u w') (hG : G l.length w.drew)
    (hob : RObs P l.toArray Q a0 V G Le 0 l)
    (hfin : ∀ f a w', a.defers = a0.defers → a.tmps.size = a0.tmps.size → (∀ t, (l.toArray.all fun o => o.dst != some t) = true → a.eval (.tmp t) = a0.eval (.tmp t)) →
      (∀ i o, l[i]? = some o → o.dst ≠ none → V i (valOf a o) w') → G f w' → Q .normal a w') : (Code.region id l.toArray true).wp P Q a0 w := by
  refine wp_region_any hm ?_
  refine wpAny_inv (ops := l.toArray) (V := V) (G := G) (Le := Le) hd he hst (by simpa using hob) (fun f a w' h1 h2 h3 h4 h5 => hfin f a w' h1 h2 h3 (fun i o hi => h4 i o (by simpa using hi)) h5) _ _ _ _ (by simp) ?_ ⟨rfl, rfl, fun _ _ => rfl, ?_, ?_⟩
  · have : unl l.toArray (Array.replicate l.toArray.size false) = List.range l.length := by
      unfold unl
      rw [List.filter_eq_self.2]
      · simp
      · intro i hi
        have : i < l.length := by simpa using hi
        simp [Array.getD, this]
    rw [this]
    simp
  · intro i o hi hl
    have hlt : i < l.length := by simpa using (Array.getElem?_eq_some_iff.1 hi).1
    simp [Array.getD, hlt] at hl
  · simpa using hG
end

end Go.Proofs.Ytpglfbjjmnaojaa
