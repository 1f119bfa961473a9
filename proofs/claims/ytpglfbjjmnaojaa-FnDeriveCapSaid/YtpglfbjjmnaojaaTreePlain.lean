/- Plain facts on derivation trees, with no program in sight: what is valid, what lies below an entry, what removing, revoking and deriving leave. No condition beyond those written. -/
import Derived.Test.YtpglfbjjmnaojaaCapPlain
namespace Go.Proofs.Ytpglfbjjmnaojaa
open Go.RowKit
set_option linter.unusedVariables false

/-- Within is transitive. -/
theorem within_trans {k o r x k' o' r' x' k2 o2 r2 x2 : Int} (h : capWithin k o r x k' o' r' x' = true) (h' : capWithin k' o' r' x' k2 o2 r2 x2 = true) : capWithin k o r x k2 o2 r2 x2 = true := by
  unfold capWithin at h h' ⊢
  simp only [Bool.and_eq_true, beq_iff_eq, Bool.or_eq_true] at h h' ⊢
  obtain ⟨⟨⟨⟨⟨a1, a2⟩, a3⟩, a4⟩, a5⟩, a6⟩ := h
  obtain ⟨⟨⟨⟨⟨b1, b2⟩, b3⟩, b4⟩, b5⟩, b6⟩ := h'
  have r1 := capOk_rights a1
  have r2' := capOk_rights a2
  have r3 := capOk_rights b2
  refine ⟨⟨⟨⟨⟨a1, b2⟩, a3.trans b3⟩, a4.trans b4⟩, ?_⟩, by omega⟩
  rw [← rMeet_of r1 r2'] at a5
  rw [← rMeet_of r2' r3] at b5
  rw [← rMeet_of r1 r3]
  have h1 := rMeet_assoc r r' r2
  rw [b5, a5] at h1
  exact h1.symm

/-- An entry: a capability, its parent, whether it has been removed. -/
structure Ent where
  k : Int
  o : Int
  r : Int
  b : Int
  p : Int
  g : Bool
def E0 : Ent := ⟨0, 0, 0, 0, 0, false⟩
def entAt (es : List Ent) (i : Int) : Ent := es.getD i.toNat E0
def Ent.cells (e : Ent) : List Value := [.int .i64 e.k, .int .i64 e.o, .int .i64 e.r, .int .i64 e.b, .int .i64 e.p, .bool e.g]
def entEq (a b : Ent) : Bool := a.k == b.k && a.o == b.o && a.r == b.r && a.b == b.b && a.p == b.p && a.g == b.g
theorem entEq_iff {a b : Ent} : entEq a b = true ↔ a = b := by
  obtain ⟨⟩ := a
  obtain ⟨⟩ := b
  simp [entEq, and_assoc]
theorem entEq_refl (a : Ent) : entEq a a = true := entEq_iff.2 rfl
def entWithin (a b : Ent) : Bool := capWithin a.k a.o a.r a.b b.k b.o b.r b.b
theorem entWithin_trans {a b c : Ent} (h : entWithin a b = true) (h' : entWithin b c = true) : entWithin a c = true := within_trans h h'

def entOk (es : List Ent) (i : Int) : Bool :=
  capOk (entAt es i).k (entAt es i).o (entAt es i).r (entAt es i).b && !((entAt es i).k == 0) && inB (entAt es i).p (-1) (i - 1) &&
    ((entAt es i).g || decide ((entAt es i).p < 0) || (!(entAt es (entAt es i).p).g && entWithin (entAt es i) (entAt es (entAt es i).p)))
def okTo (es : List Ent) (k : Nat) : Bool := (List.range k).all fun i => entOk es i
def dValid (es : List Ent) : Bool := okTo es es.length && decide (es.length ≤ 30)
def liveB (es : List Ent) (n : Int) : Bool := dValid es && inB n 0 (es.length - 1) && !(entAt es n).g

theorem okTo_succ (es : List Ent) (k : Nat) : okTo es (k + 1) = (okTo es k && entOk es k) := by
  simp [okTo, List.range_succ, List.all_append]
theorem okTo_iff {es : List Ent} {k : Nat} : okTo es k = true ↔ ∀ i : Nat, i < k → entOk es i = true := by
  simp [okTo]
theorem okTo_le {es : List Ent} {j k : Nat} (h : okTo es k = true) (hj : j ≤ k) : okTo es j = true := okTo_iff.2 fun i hi => okTo_iff.1 h i (by omega)

/-- What is known of a valid tree. -/
theorem dValid_len {es : List Ent} (h : dValid es = true) : es.length ≤ 30 := by
  simp only [dValid, Bool.and_eq_true, decide_eq_true_eq] at h
  exact h.2
theorem dValid_ok {es : List Ent} (h : dValid es = true) (i : Nat) (hi : i < es.length) : entOk es i = true := by
  simp only [dValid, Bool.and_eq_true] at h
  exact okTo_iff.1 h.1 i hi
theorem dValid_mk {es : List Ent} (hl : es.length ≤ 30) (h : ∀ i : Nat, i < es.length → entOk es i = true) : dValid es = true := by
  simp only [dValid, Bool.and_eq_true, decide_eq_true_eq]
  exact ⟨okTo_iff.2 h, hl⟩
theorem entOk_iff {es : List Ent} {i : Int} : entOk es i = true ↔
    capOk (entAt es i).k (entAt es i).o (entAt es i).r (entAt es i).b = true ∧ (entAt es i).k ≠ 0 ∧ (-1 ≤ (entAt es i).p ∧ (entAt es i).p ≤ i - 1) ∧
    ((entAt es i).g = false → 0 ≤ (entAt es i).p → (entAt es (entAt es i).p).g = false ∧ entWithin (entAt es i) (entAt es (entAt es i).p) = true) := by
  unfold entOk
  simp only [Bool.and_eq_true, Bool.not_eq_true', beq_eq_false_iff_ne, inB_iff, Bool.or_eq_true, decide_eq_true_eq, and_assoc]
  refine and_congr_right fun _ => and_congr_right fun _ => and_congr_right fun _ => and_congr_right fun _ => ?_
  cases (entAt es i).g
  · simp only [Bool.false_eq_true, false_or, forall_const]
    constructor
    · rintro (h | h) h0
      · omega
      · exact h
    · intro h
      by_cases h0 : 0 ≤ (entAt es i).p
      · exact .inr (h h0)
      · exact .inl (by omega)
  · simp
theorem dValid_par {es : List Ent} (h : dValid es = true) {i : Int} (h0 : 0 ≤ i) (hi : i < es.length) : -1 ≤ (entAt es i).p ∧ (entAt es i).p < i := by
  have := (entOk_iff.1 (dValid_ok h i.toNat (by omega))).2.2.1
  rw [show ((i.toNat : Nat) : Int) = i by omega] at this
  omega
theorem dValid_live {es : List Ent} (h : dValid es = true) {i : Int} (h0 : 0 ≤ i) (hi : i < es.length) (hg : (entAt es i).g = false) (hp : 0 ≤ (entAt es i).p) :
    (entAt es (entAt es i).p).g = false ∧ entWithin (entAt es i) (entAt es (entAt es i).p) = true := by
  have := (entOk_iff.1 (dValid_ok h i.toNat (by omega))).2.2.2
  rw [show ((i.toNat : Nat) : Int) = i by omega] at this
  exact this hg hp
theorem dValid_cap {es : List Ent} (h : dValid es = true) {i : Int} (h0 : 0 ≤ i) (hi : i < es.length) : capOk (entAt es i).k (entAt es i).o (entAt es i).r (entAt es i).b = true := by
  have := (entOk_iff.1 (dValid_ok h i.toNat (by omega))).1
  rwa [show ((i.toNat : Nat) : Int) = i by omega] at this
theorem liveB_iff {es : List Ent} {n : Int} : liveB es n = true ↔ dValid es = true ∧ (0 ≤ n ∧ n < es.length) ∧ (entAt es n).g = false := by
  unfold liveB
  simp only [Bool.and_eq_true, inB_iff, Bool.not_eq_true', and_assoc]
  constructor
  · rintro ⟨a, b, c, d⟩; exact ⟨a, b, by omega, d⟩
  · rintro ⟨a, b, c, d⟩; exact ⟨a, b, by omega, d⟩

/-- What lies below n, by its parents, with as many steps as the fuel. -/
def belowF (es : List Ent) (n : Int) : Nat → Int → Bool
  | 0, _ => false
  | f + 1, i => !(entAt es i).g && ((entAt es i).p == n || (decide (n < (entAt es i).p) && belowF es n f (entAt es i).p))
def below (es : List Ent) (n i : Int) : Bool := belowF es n (i.toNat + 1) i

theorem belowF_fuel {es : List Ent} {n : Int} (hn : 0 ≤ n) (m : Nat) (hp : ∀ i : Int, 0 ≤ i → i < m → (entAt es i).p < i) :
    ∀ (f f' : Nat) (i : Int), 0 ≤ i → i < m → i.toNat < f → i.toNat < f' → belowF es n f i = belowF es n f' i := by
  intro f
  induction f with
  | zero => intro f' i _ _ h; omega
  | succ f ih =>
    intro f' i h0 h1 h2 h3
    obtain ⟨f', rfl⟩ : ∃ q, f' = q + 1 := ⟨f' - 1, by omega⟩
    have := hp i h0 h1
    simp only [belowF]
    by_cases hlt : n < (entAt es i).p
    · rw [ih f' (entAt es i).p (by omega) (by omega) (by omega) (by omega)]
    · simp [hlt]
theorem below_eq {es : List Ent} {n i : Int} {m : Nat} (hn : 0 ≤ n) (hp : ∀ i : Int, 0 ≤ i → i < m → (entAt es i).p < i) (h0 : 0 ≤ i) (hi : i < m) :
    below es n i = (!(entAt es i).g && ((entAt es i).p == n || (decide (n < (entAt es i).p) && below es n (entAt es i).p))) := by
  have := hp i h0 hi
  unfold below
  rw [belowF]
  by_cases hlt : n < (entAt es i).p
  · rw [belowF_fuel hn m hp i.toNat ((entAt es i).p.toNat + 1) (entAt es i).p (by omega) (by omega) (by omega) (by omega)]
  · simp [hlt]
theorem below_gt {es : List Ent} {n : Int} {m : Nat} (hn : 0 ≤ n) (hp : ∀ i : Int, 0 ≤ i → i < m → (entAt es i).p < i) : ∀ (i : Int), 0 ≤ i → i < m → below es n i = true → n < i := by
  intro i h0 hi h
  rw [below_eq hn hp h0 hi] at h
  have := hp i h0 hi
  simp only [Bool.and_eq_true, Bool.or_eq_true, beq_iff_eq, decide_eq_true_eq] at h
  rcases h.2 with h | h <;> omega
/-- A fact on what lies below n goes up from an entry's parents. -/
theorem up_ind {es : List Ent} {m : Nat} {n : Int} (hn : 0 ≤ n) (hp : ∀ i : Int, 0 ≤ i → i < m → (entAt es i).p < i) (P : Int → Prop)
    (h : ∀ i : Int, 0 ≤ i → i < m → (n < (entAt es i).p → P (entAt es i).p) → P i) : ∀ i : Int, 0 ≤ i → i < m → P i := by
  intro i h0 hi
  obtain ⟨k, rfl⟩ := Int.eq_ofNat_of_zero_le h0
  clear h0
  induction k using Nat.strongRecOn with
  | _ k ih =>
    refine h k (by omega) hi fun hlt => ?_
    have hpk := hp k (by omega) hi
    have := ih (entAt es k).p.toNat (by omega) (by omega)
    rwa [show (((entAt es k).p.toNat : Nat) : Int) = (entAt es k).p by omega] at this

theorem dValid_up {es : List Ent} (h : dValid es = true) : ∀ i : Int, 0 ≤ i → i < es.length → (entAt es i).p < i := fun i h0 hi => (dValid_par h h0 hi).2

/-- The walk up from an entry's parent, as the reference has it. -/
def upF (es : List Ent) (n : Int) : Nat → Int → Bool
  | 0, _ => false
  | f + 1, i => if n < i then upF es n f (entAt es i).p else i == n

/-- What lies below n, from n + 1 on up to k, in order. -/
def descTo (es : List Ent) (n : Int) (k : Nat) : List Int := ((List.range k).map (Int.ofNat)).filter fun i => decide (n < i) && below es n i
def desc (es : List Ent) (n : Int) : List Int := descTo es n es.length
theorem descTo_succ (es : List Ent) (n : Int) (k : Nat) : descTo es n (k + 1) = descTo es n k ++ if decide (n < (k : Int)) && below es n k then [(k : Int)] else [] := by
  unfold descTo
  rw [List.range_succ, List.map_append, List.filter_append]
  simp only [List.map_cons, List.map_nil, List.filter_cons, List.filter_nil]
  rfl
theorem mem_descTo {es : List Ent} {n : Int} {k : Nat} {i : Int} : i ∈ descTo es n k ↔ (0 ≤ i ∧ i < k) ∧ n < i ∧ below es n i = true := by
  unfold descTo
  simp only [List.mem_filter, List.mem_map, List.mem_range, Bool.and_eq_true, decide_eq_true_eq]
  constructor
  · rintro ⟨⟨j, hj, rfl⟩, h1, h2⟩
    exact ⟨⟨Int.natCast_nonneg j, by show (j : Int) < k; omega⟩, h1, h2⟩
  · rintro ⟨⟨h0, h1⟩, h2, h3⟩
    exact ⟨⟨i.toNat, by omega, by show ((i.toNat : Nat) : Int) = i; omega⟩, h2, h3⟩
theorem mem_desc {es : List Ent} {n i : Int} : i ∈ desc es n ↔ (0 ≤ i ∧ i < es.length) ∧ n < i ∧ below es n i = true := mem_descTo
theorem descTo_small {es : List Ent} {n : Int} {k : Nat} (h : (k : Int) ≤ n + 1) : descTo es n k = [] := by
  apply List.eq_nil_iff_forall_not_mem.2
  intro i hi
  have := mem_descTo.1 hi
  omega
theorem descTo_len (es : List Ent) (n : Int) (k : Nat) : (descTo es n k).length ≤ k := by
  unfold descTo
  have := List.length_filter_le (fun i => decide (n < i) && below es n i) ((List.range k).map Int.ofNat)
  simpa using this
theorem descTo_congr {es es' : List Ent} {n : Int} {k : Nat} (h : ∀ i : Int, 0 ≤ i → i < k → below es n i = below es' n i) : descTo es n k = descTo es' n k := by
  unfold descTo
  apply List.filter_congr
  intro i hi
  obtain ⟨j, hj, rfl⟩ := List.mem_map.1 hi
  have hj' := List.mem_range.1 hj
  rw [h (Int.ofNat j) (Int.natCast_nonneg j) (by show (j : Int) < k; omega)]

/-- Entries below n are live, and their capabilities are within that of n. -/
theorem below_live {es : List Ent} {n i : Int} (hv : dValid es = true) (hn : 0 ≤ n) (h0 : 0 ≤ i) (hi : i < es.length) (h : below es n i = true) : (entAt es i).g = false := by
  rw [below_eq hn (dValid_up hv) h0 hi] at h
  simp only [Bool.and_eq_true, Bool.not_eq_true'] at h
  exact h.1
theorem below_within {es : List Ent} {n : Int} (hv : dValid es = true) (hn : 0 ≤ n) : ∀ i : Int, 0 ≤ i → i < es.length → below es n i = true → entWithin (entAt es i) (entAt es n) = true := by
  refine up_ind hn (dValid_up hv) _ fun i h0 hi ih h => ?_
  have hg := below_live hv hn h0 hi h
  rw [below_eq hn (dValid_up hv) h0 hi] at h
  simp only [Bool.and_eq_true, Bool.or_eq_true, beq_iff_eq, decide_eq_true_eq] at h
  rcases h.2 with h | ⟨h1, h2⟩
  · have := (dValid_live hv h0 hi hg (by omega)).2
    rwa [h] at this
  · exact entWithin_trans (dValid_live hv h0 hi hg (by omega)).2 (ih h1 h2)
/-- What lies below an entry below n lies below n. -/
theorem below_trans {es : List Ent} {n m : Int} (hv : dValid es = true) (hn : 0 ≤ n) (hm : n < m) (hml : m < es.length) (h : below es n m = true) : ∀ i : Int, 0 ≤ i → i < es.length → below es m i = true → below es n i = true := by
  refine up_ind (n := m) (by omega) (dValid_up hv) _ fun i h0 hi ih h' => ?_
  rw [below_eq (by omega) (dValid_up hv) h0 hi] at h'
  rw [below_eq hn (dValid_up hv) h0 hi]
  simp only [Bool.and_eq_true, Bool.or_eq_true, beq_iff_eq, decide_eq_true_eq] at h' ⊢
  refine ⟨h'.1, .inr ?_⟩
  rcases h'.2 with e | ⟨e1, e2⟩
  · rw [e]
    exact ⟨hm, h⟩
  · exact ⟨by omega, ih e1 e2⟩

/-- The reference's walk up from a live entry's parent answers as 'below' does. -/
theorem upF_live {es : List Ent} {n : Int} (hv : dValid es = true) (hn : 0 ≤ n) : ∀ i : Int, 0 ≤ i → i < es.length → (entAt es i).g = false → ∀ f, i.toNat < f → upF es n f (entAt es i).p = below es n i := by
  refine up_ind hn (dValid_up hv) _ fun i h0 hi ih hg f hf => ?_
  have hp := dValid_par hv h0 hi
  rw [below_eq hn (dValid_up hv) h0 hi, hg]
  obtain ⟨f, rfl⟩ : ∃ q, f = q + 1 := ⟨f - 1, by omega⟩
  rw [upF]
  by_cases hlt : n < (entAt es i).p
  · rw [if_pos hlt, ih hlt (dValid_live hv h0 hi hg (by omega)).1 f (by omega)]
    have hne : ((entAt es i).p == n) = false := by rw [beq_eq_false_iff_ne]; omega
    simp [hlt, hne]
  · rw [if_neg hlt]
    simp [hlt]

/-! ### A list with one entry changed; with an entry at the end -/
theorem entAt_nat (es : List Ent) (i : Nat) : entAt es i = es.getD i E0 := by simp [entAt]
theorem entAt_map {es : List Ent} {f : Nat → Ent → Ent} {i : Int} (h0 : 0 ≤ i) (hi : i < es.length) : entAt (es.mapIdx f) i = f i.toNat (entAt es i) := by
  unfold entAt
  have h : i.toNat < es.length := by omega
  simp [List.getD, List.getElem?_mapIdx, List.getElem?_eq_getElem h]
theorem entAt_append_lt {es : List Ent} {e : Ent} {i : Int} (h0 : 0 ≤ i) (hi : i < es.length) : entAt (es ++ [e]) i = entAt es i := by
  unfold entAt
  have h : i.toNat < es.length := by omega
  simp [List.getD, List.getElem?_append_left h]
theorem entAt_append_end {es : List Ent} {e : Ent} : entAt (es ++ [e]) es.length = e := by simp [entAt, List.getD]

/-- The tree with entry n removed. -/
def removeE (es : List Ent) (n : Int) : List Ent :=
  es.mapIdx fun i e => { e with g := e.g || decide ((i : Int) = n), p := if e.p = n ∧ e.g = false then (entAt es n).p else e.p }
/-- The tree with the entries of a list removed. -/
def goneE (es : List Ent) (l : List Int) : List Ent := es.mapIdx fun i e => { e with g := e.g || decide ((i : Int) ∈ l) }
def revokeE (es : List Ent) (n : Int) : List Ent := goneE es (desc es n)
theorem removeE_len (es : List Ent) (n : Int) : (removeE es n).length = es.length := by simp [removeE]
theorem goneE_len (es : List Ent) (l : List Int) : (goneE es l).length = es.length := by simp [goneE]
theorem revokeE_len (es : List Ent) (n : Int) : (revokeE es n).length = es.length := goneE_len _ _
theorem goneE_at {es : List Ent} {l : List Int} {i : Int} (h0 : 0 ≤ i) (hi : i < es.length) : entAt (goneE es l) i = { entAt es i with g := (entAt es i).g || decide (i ∈ l) } := by
  unfold goneE
  rw [entAt_map h0 hi, show ((i.toNat : Nat) : Int) = i by omega]
theorem removeE_at {es : List Ent} {n i : Int} (h0 : 0 ≤ i) (hi : i < es.length) :
    entAt (removeE es n) i = { entAt es i with g := (entAt es i).g || decide (i = n), p := if (entAt es i).p = n ∧ (entAt es i).g = false then (entAt es n).p else (entAt es i).p } := by
  unfold removeE
  rw [entAt_map h0 hi, show ((i.toNat : Nat) : Int) = i by omega]

end Go.Proofs.Ytpglfbjjmnaojaa
