/- Plain facts on tables of capabilities, with no program in sight: what is valid, where an address leads. No condition beyond those written. -/
import Derived.Test.YtdafogfpbpjmdaaCapPlain
import Derived.Test.YtdafogfpbpjmdaaPiecePlain
namespace Go.Proofs.Ytdafogfpbpjmdaa
open Go.RowKit
set_option linter.unusedVariables false

/-- A capability. -/
structure Cp where
  k : Int
  o : Int
  r : Int
  b : Int
def C0 : Cp := ⟨0, 0, 0, 0⟩
def Cp.cells (c : Cp) : List Value := [.int .i64 c.k, .int .i64 c.o, .int .i64 c.r, .int .i64 c.b]
def cpOk (c : Cp) : Bool := capOk c.k c.o c.r c.b
theorem cp_ext {a b : Cp} (h1 : a.k = b.k) (h2 : a.o = b.o) (h3 : a.r = b.r) (h4 : a.b = b.b) : a = b := by
  obtain ⟨⟩ := a
  obtain ⟨⟩ := b
  simp only at h1 h2 h3 h4
  subst h1 h2 h3 h4
  rfl
/-- A table. -/
structure Tab where
  bits : Int
  guard : Int
  gbits : Int
  slots : List Cp
def T0 : Tab := ⟨0, 0, 0, []⟩
def capAt (cs : List Cp) (i : Int) : Cp := cs.getD i.toNat C0
def tabAt (ts : List Tab) (i : Int) : Tab := ts.getD i.toNat T0
theorem capAt_nat (cs : List Cp) (i : Nat) : capAt cs i = cs.getD i C0 := by simp [capAt]
theorem tabAt_nat (ts : List Tab) (i : Nat) : tabAt ts i = ts.getD i T0 := by simp [tabAt]

def headOk (t : Tab) : Bool := inB t.bits 1 4 && inB t.gbits 0 4 && inB t.guard 0 (pw t.gbits - 1) && decide ((t.slots.length : Int) = pw t.bits)
def tabOk (t : Tab) : Bool := headOk t && t.slots.all cpOk
def tabsOk (ts : List Tab) : Bool := ts.all tabOk && decide ((ts.length : Int) ≤ 10)
theorem headOk_iff {t : Tab} : headOk t = true ↔ (1 ≤ t.bits ∧ t.bits ≤ 4) ∧ (0 ≤ t.gbits ∧ t.gbits ≤ 4) ∧ (0 ≤ t.guard ∧ t.guard ≤ pw t.gbits - 1) ∧ (t.slots.length : Int) = pw t.bits := by
  simp only [headOk, Bool.and_eq_true, inB_iff, decide_eq_true_eq, and_assoc]
theorem tabOk_iff {t : Tab} : tabOk t = true ↔ headOk t = true ∧ ∀ i : Nat, i < t.slots.length → cpOk (t.slots.getD i C0) = true := by
  simp only [tabOk, Bool.and_eq_true, List.all_eq_true]
  refine and_congr_right fun _ => ⟨fun h i hi => ?_, fun h x hx => ?_⟩
  · rw [show t.slots.getD i C0 = t.slots[i] by simp [List.getD, hi]]
    exact h _ (List.getElem_mem hi)
  · obtain ⟨i, hi, rfl⟩ := List.getElem_of_mem hx
    have := h i hi
    rwa [show t.slots.getD i C0 = t.slots[i] by simp [List.getD, hi]] at this
theorem tabsOk_iff {ts : List Tab} : tabsOk ts = true ↔ (∀ i : Nat, i < ts.length → tabOk (ts.getD i T0) = true) ∧ ts.length ≤ 10 := by
  simp only [tabsOk, Bool.and_eq_true, List.all_eq_true, decide_eq_true_eq]
  constructor
  · rintro ⟨h, h2⟩
    refine ⟨fun i hi => ?_, by omega⟩
    rw [show ts.getD i T0 = ts[i] by simp [List.getD, hi]]
    exact h _ (List.getElem_mem hi)
  · rintro ⟨h, h2⟩
    refine ⟨fun x hx => ?_, by omega⟩
    obtain ⟨i, hi, rfl⟩ := List.getElem_of_mem hx
    have := h i hi
    rwa [show ts.getD i T0 = ts[i] by simp [List.getD, hi]] at this
theorem pw4 {b : Int} (h : b ≤ 4) : pw b ≤ 16 := by
  by_cases h0 : 0 ≤ b
  · have := pw_le h0 h
    have e : pw 4 = 16 := rfl
    omega
  · unfold pw
    rw [show b.toNat = 0 by omega]
    decide
theorem pw_two {b : Int} (h : 1 ≤ b) : 2 ≤ pw b := by
  have := pw_le (a := 1) (b := b) (by omega) h
  have e : pw 1 = 2 := rfl
  omega

/-- Where an address of d digits leads from table i on. -/
def lookF (ts : List Tab) : Nat → Int → Int → Int → Option (Int × Int)
  | 0, _, _, _ => none
  | f + 1, i, a, d =>
    if inB i 0 (ts.length - 1) then
      let t := tabAt ts i
      if d < t.gbits + t.bits then none
      else if a / pw (d - t.gbits) = t.guard then
        let d' := d - t.gbits - t.bits
        let s := a / pw d' % pw t.bits
        if d' = 0 then some (i, s)
        else if (capAt t.slots s).k = 2 then lookF ts f (capAt t.slots s).o (a % pw d') d'
        else none
      else none
    else none
def look (ts : List Tab) (i a d : Int) : Option (Int × Int) := if tabsOk ts && inB d 1 16 && inB a 0 (pw d - 1) then lookF ts (d.toNat + 1) i a d else none
def lookV (x : Option (Int × Int)) : Value := match x with
  | some (t, s) => .tuple #[.int .i64 t, .int .i64 s, .bool true]
  | none => .tuple #[.int .i64 (-1), .int .i64 (-1), .bool false]

/-- What lies in a slot; tables with a capability put into a slot. -/
def slotB (ts : List Tab) (i s : Int) : Bool := tabsOk ts && inB i 0 (ts.length - 1) && inB s 0 ((tabAt ts i).slots.length - 1)
def readC (ts : List Tab) (i s : Int) : Cp := if slotB ts i s then capAt (tabAt ts i).slots s else C0
def putT (ts : List Tab) (i s : Nat) (c : Cp) : List Tab := ts.set i { ts.getD i T0 with slots := (ts.getD i T0).slots.set s c }
def putL (ts : List Tab) (i s : Int) (c : Cp) : List Tab := if slotB ts i s && cpOk c then putT ts i.toNat s.toNat c else []
theorem slotB_iff {ts : List Tab} {i s : Int} : slotB ts i s = true ↔ tabsOk ts = true ∧ (0 ≤ i ∧ i < ts.length) ∧ (0 ≤ s ∧ s < (tabAt ts i).slots.length) := by
  simp only [slotB, Bool.and_eq_true, inB_iff, and_assoc]
  constructor
  · rintro ⟨a, b, c, d, e⟩; exact ⟨a, b, by omega, d, by omega⟩
  · rintro ⟨a, b, c, d, e⟩; exact ⟨a, b, by omega, d, by omega⟩
theorem putT_len (ts : List Tab) (i s : Nat) (c : Cp) : (putT ts i s c).length = ts.length := by simp [putT]
theorem getD_set_t {α : Type} {l : List α} {i j : Nat} {x d : α} (hj : j < l.length) : (l.set j x).getD i d = if j = i then x else l.getD i d := by
  by_cases h : j = i
  · subst h
    simp [List.getD, hj]
  · simp [List.getD, h]
theorem putT_get {ts : List Tab} {i s : Nat} {c : Cp} {j : Nat} (hi : i < ts.length) : (putT ts i s c).getD j T0 = if i = j then { ts.getD i T0 with slots := (ts.getD i T0).slots.set s c } else ts.getD j T0 := getD_set_t hi
theorem tabsOk_put {ts : List Tab} {i s : Nat} {c : Cp} (h : tabsOk ts = true) (hi : i < ts.length) (hs : s < (ts.getD i T0).slots.length) (hc : cpOk c = true) : tabsOk (putT ts i s c) = true := by
  obtain ⟨h1, h2⟩ := tabsOk_iff.1 h
  refine tabsOk_iff.2 ⟨fun j hj => ?_, by rw [putT_len]; exact h2⟩
  rw [putT_len] at hj
  rw [putT_get hi]
  by_cases e : i = j
  · rw [if_pos e]
    obtain ⟨g1, g2⟩ := tabOk_iff.1 (h1 i hi)
    refine tabOk_iff.2 ⟨?_, fun k hk => ?_⟩
    · have := headOk_iff.1 g1
      exact headOk_iff.2 ⟨this.1, this.2.1, this.2.2.1, by show (((ts.getD i T0).slots.set s c).length : Int) = _; rw [List.length_set]; exact this.2.2.2⟩
    · show cpOk (((ts.getD i T0).slots.set s c).getD k C0) = true
      have hk' : k < (ts.getD i T0).slots.length := by simpa using hk
      rw [getD_set_t hs]
      split
      · exact hc
      · exact g2 k hk'
  · rw [if_neg e]
    exact h1 j hj
theorem put_read {ts : List Tab} {i s : Nat} {c : Cp} (hi : i < ts.length) (hs : s < (ts.getD i T0).slots.length) : (((putT ts i s c).getD i T0).slots).getD s C0 = c := by
  rw [putT_get hi, if_pos rfl]
  show (((ts.getD i T0).slots.set s c)).getD s C0 = c
  rw [getD_set_t hs, if_pos rfl]
theorem put_slots_len {ts : List Tab} {i s : Nat} {c : Cp} (hi : i < ts.length) (j : Nat) : ((putT ts i s c).getD j T0).slots.length = (ts.getD j T0).slots.length := by
  rw [putT_get hi]
  split
  · next h => subst h; show ((ts.getD i T0).slots.set s c).length = _; rw [List.length_set]
  · rfl
theorem tab_ext {a b : Tab} (h1 : a.bits = b.bits) (h2 : a.guard = b.guard) (h3 : a.gbits = b.gbits) (h4 : a.slots = b.slots) : a = b := by
  obtain ⟨⟩ := a
  obtain ⟨⟩ := b
  simp only at h1 h2 h3 h4
  subst h1 h2 h3 h4
  rfl
theorem list_ext {α : Type} {d : α} {l l' : List α} (hl : l.length = l'.length) (h : ∀ t, t < l.length → l.getD t d = l'.getD t d) : l = l' := by
  apply List.ext_getElem hl
  intro i h1 h2
  have := h i h1
  simpa [List.getD, h1, h2] using this
theorem put_back {ts : List Tab} {i s : Nat} {c : Cp} (hi : i < ts.length) (hs : s < (ts.getD i T0).slots.length) : putT (putT ts i s c) i s ((ts.getD i T0).slots.getD s C0) = ts := by
  refine list_ext (d := T0) (by rw [putT_len, putT_len]) fun j hj => ?_
  rw [putT_len, putT_len] at hj
  rw [putT_get (by rw [putT_len]; exact hi)]
  by_cases e : i = j
  · subst e
    rw [if_pos rfl, putT_get hi, if_pos rfl]
    refine tab_ext rfl rfl rfl ?_
    show ((ts.getD i T0).slots.set s c).set s _ = _
    rw [List.set_set]
    refine list_ext (d := C0) (by rw [List.length_set]) fun k hk => ?_
    rw [getD_set_t hs]
    split
    · next h => subst h; rfl
    · rfl
  · rw [if_neg e, putT_get hi, if_neg e]

/-- An address leads to a slot whose number is its last digits. -/
theorem mod_mod_pw {a x y : Int} (hx : 0 ≤ x) (hxy : x ≤ y) : a % pw y % pw x = a % pw x := by
  apply Int.emod_emod_of_dvd
  exact ⟨pw (y - x), by rw [← pw_add hx (by omega)]; congr 1; omega⟩
theorem look_ends {ts : List Tab} (hv : tabsOk ts = true) : ∀ (f : Nat) (i a d t s : Int), lookF ts f i a d = some (t, s) → (0 ≤ t ∧ t < ts.length) ∧ (0 ≤ s ∧ s < (tabAt ts t).slots.length) ∧ a % pw (tabAt ts t).bits = s ∧ (tabAt ts t).bits ≤ d := by
  intro f
  induction f with
  | zero => intro i a d t s h; cases h
  | succ f ih =>
    intro i a d t s h
    simp only [lookF] at h
    split at h
    · next hin =>
      obtain ⟨i0, i1⟩ := inB_iff.1 hin
      have ht := (tabOk_iff.1 ((tabsOk_iff.1 hv).1 i.toNat (by omega))).1
      obtain ⟨⟨b0, b1⟩, ⟨g0, g1⟩, ⟨u0, u1⟩, hl⟩ := headOk_iff.1 ht
      change (1 ≤ (tabAt ts i).bits) at b0
      change ((tabAt ts i).bits ≤ 4) at b1
      change (0 ≤ (tabAt ts i).gbits) at g0
      change (((tabAt ts i).slots.length : Int) = pw (tabAt ts i).bits) at hl
      have hp := pw_pos (tabAt ts i).bits
      split at h
      · cases h
      · next hd =>
        split at h
        · split at h
          · next hz =>
            injection h with h
            injection h with h1 h2
            subst h1
            rw [hz, pw_zero, Int.ediv_one] at h2
            have m0 := Int.emod_nonneg a (show pw (tabAt ts i).bits ≠ 0 by omega)
            have m1 := Int.emod_lt_of_pos a (show 0 < pw (tabAt ts i).bits by omega)
            exact ⟨⟨i0, by omega⟩, ⟨by omega, by rw [hl, ← h2]; exact m1⟩, h2, by omega⟩
          · split at h
            · obtain ⟨h1, h2, h3, h4⟩ := ih _ _ _ _ _ h
              have hb := (headOk_iff.1 (tabOk_iff.1 ((tabsOk_iff.1 hv).1 t.toNat (by omega))).1).1
              change (1 ≤ (tabAt ts t).bits ∧ _) at hb
              rw [mod_mod_pw (by omega) h4] at h3
              exact ⟨h1, h2, h3, by omega⟩
            · cases h
        · cases h
    · cases h

/-- A table whose slots are one fewer; with a guard that is too large; a list of tables behind its first. -/
theorem tabOk_tail {t : Tab} (h : tabOk t = true) : tabOk { t with slots := t.slots.drop 1 } = false := by
  cases hc : tabOk { t with slots := t.slots.drop 1 }
  · rfl
  · have h1 := (headOk_iff.1 (tabOk_iff.1 h).1).2.2.2
    have h2 := (headOk_iff.1 (tabOk_iff.1 hc).1).2.2.2
    have h3 : (((t.slots.drop 1).length : Nat) : Int) = pw t.bits := h2
    rw [List.length_drop] at h3
    have := pw_pos t.bits
    omega
theorem tabOk_guard (t : Tab) : tabOk { t with guard := 16 } = false := by
  cases hc : tabOk { t with guard := 16 }
  · rfl
  · obtain ⟨-, ⟨g0, g1⟩, ⟨u0, u1⟩, -⟩ := headOk_iff.1 (tabOk_iff.1 hc).1
    change (t.gbits ≤ 4) at g1
    change ((16 : Int) ≤ pw t.gbits - 1) at u1
    have := pw4 g1
    omega
theorem tabsOk_tail {ts : List Tab} (h : tabsOk ts = true) : tabsOk (ts.drop 1) = true := by
  obtain ⟨h1, h2⟩ := tabsOk_iff.1 h
  refine tabsOk_iff.2 ⟨fun i hi => ?_, by rw [List.length_drop]; omega⟩
  rw [List.length_drop] at hi
  have := h1 (i + 1) (by omega)
  rwa [show (ts.drop 1).getD i T0 = ts.getD (i + 1) T0 by simp [List.getD]]
theorem tabOk_zero : tabOk T0 = false := rfl
theorem tabsOk_bad (ts : List Tab) : tabsOk (ts ++ [T0]) = false := by
  cases hc : tabsOk (ts ++ [T0])
  · rfl
  · have := (tabsOk_iff.1 hc).1 ts.length (by simp)
    rw [show (ts ++ [T0]).getD ts.length T0 = T0 by simp [List.getD]] at this
    cases this

/-- In a single table the address of a slot is its guard, followed by its number. -/
theorem div_pack {g s p : Int} (hs : 0 ≤ s) (hp : s < p) : (g * p + s) / p = g ∧ (g * p + s) % p = s := by
  constructor
  · rw [Int.mul_comm, Int.add_comm, Int.add_mul_ediv_left _ _ (by omega), Int.ediv_eq_zero_of_lt hs hp, Int.zero_add]
  · rw [Int.add_comm, Int.add_mul_emod_self_right, Int.emod_eq_of_lt hs hp]
theorem pack_bounds {g s x y : Int} (hx : 0 ≤ x) (hy : 0 ≤ y) (h0 : 0 ≤ g) (h1 : g ≤ pw x - 1) (s0 : 0 ≤ s) (s1 : s < pw y) : 0 ≤ g * pw y + s ∧ g * pw y + s ≤ pw (x + y) - 1 := by
  rw [pw_add hx hy]
  have hp := pw_pos y
  have m0 : 0 ≤ g * pw y := Int.mul_nonneg h0 (by omega)
  have m1 : g * pw y ≤ (pw x - 1) * pw y := Int.mul_le_mul_of_nonneg_right h1 (by omega)
  rw [Int.sub_mul] at m1
  omega
theorem look_single {t : Tab} {s : Int} (h : tabOk t = true) (s0 : 0 ≤ s) (s1 : s < t.slots.length) : look [t] 0 (t.guard * pw t.bits + s) (t.gbits + t.bits) = some (0, s) := by
  obtain ⟨⟨b0, b1⟩, ⟨g0, g1⟩, ⟨u0, u1⟩, hl⟩ := headOk_iff.1 (tabOk_iff.1 h).1
  have hv : tabsOk [t] = true := tabsOk_iff.2 ⟨fun i hi => by simp at hi; subst hi; exact h, by simp⟩
  rw [hl] at s1
  have hb := pack_bounds (x := t.gbits) (y := t.bits) g0 (by omega) u0 u1 s0 s1
  have hd := div_pack (g := t.guard) s0 s1
  unfold look
  rw [hv, inB_iff.2 (show 1 ≤ t.gbits + t.bits ∧ t.gbits + t.bits ≤ 16 by omega), inB_iff.2 hb]
  simp only [Bool.and_self, if_true]
  rw [show (t.gbits + t.bits).toNat + 1 = (t.gbits + t.bits).toNat + 1 from rfl, lookF]
  have ht : tabAt [t] 0 = t := rfl
  rw [if_pos (show inB 0 0 (([t] : List Tab).length - 1) = true from rfl)]
  simp only [ht]
  rw [if_neg (by omega), show t.gbits + t.bits - t.gbits = t.bits by omega, hd.1, if_pos rfl, Int.sub_self, if_pos rfl, pw_zero, Int.ediv_one, hd.2]
theorem look_short {t : Tab} (h : tabOk t = true) : look [t] 0 0 (t.bits + t.gbits - 1) = none := by
  unfold look
  split
  · rw [lookF]
    have ht : tabAt [t] 0 = t := rfl
    rw [if_pos (show inB 0 0 (([t] : List Tab).length - 1) = true from rfl)]
    simp only [ht]
    rw [if_pos (by omega)]
  · rfl

/-- Two tables, the first of which leads to the second. -/
theorem look_chain {a b : Tab} {s g : Int} {r x : Int} (ha : tabOk a = true) (hb : tabOk b = true) (s0 : 0 ≤ s) (s1 : s < a.slots.length) (g0 : 0 ≤ g) (g1 : g < b.slots.length) (hc : capAt a.slots s = ⟨2, 1, r, x⟩) :
    look [a, b] 0 ((a.guard * pw a.bits + s) * pw (b.gbits + b.bits) + (b.guard * pw b.bits + g)) (a.gbits + a.bits + b.gbits + b.bits) = some (1, g) := by
  obtain ⟨⟨ab0, ab1⟩, ⟨ag0, ag1⟩, ⟨au0, au1⟩, al⟩ := headOk_iff.1 (tabOk_iff.1 ha).1
  obtain ⟨⟨bb0, bb1⟩, ⟨bg0, bg1⟩, ⟨bu0, bu1⟩, bl⟩ := headOk_iff.1 (tabOk_iff.1 hb).1
  have hv : tabsOk [a, b] = true := tabsOk_iff.2 ⟨fun i hi => by
    simp at hi
    rcases (show i = 0 ∨ i = 1 by omega) with rfl | rfl
    · exact ha
    · exact hb, by simp⟩
  rw [al] at s1
  rw [bl] at g1
  have h1 := pack_bounds (x := a.gbits) (y := a.bits) ag0 (by omega) au0 au1 s0 s1
  have h2 := pack_bounds (x := b.gbits) (y := b.bits) bg0 (by omega) bu0 bu1 g0 g1
  have d1 := div_pack (g := a.guard) s0 s1
  have d2 := div_pack (g := b.guard) g0 g1
  generalize hF : a.guard * pw a.bits + s = F at *
  generalize hS : b.guard * pw b.bits + g = S at *
  have h3 := pack_bounds (x := a.gbits + a.bits) (y := b.gbits + b.bits) (by omega) (by omega) h1.1 h1.2 h2.1 (by omega)
  have d3 := div_pack (g := F) (p := pw (b.gbits + b.bits)) h2.1 (by omega)
  rw [show a.gbits + a.bits + (b.gbits + b.bits) = a.gbits + a.bits + b.gbits + b.bits by omega] at h3
  generalize hA : F * pw (b.gbits + b.bits) + S = A at *
  -- the first table: the digits ahead of its slot, its slot
  have e1 : A / pw (a.bits + (b.gbits + b.bits)) = a.guard := by
    rw [pw_add (by omega) (by omega), Int.mul_comm, ← Int.ediv_ediv_of_nonneg (by have := pw_pos (b.gbits + b.bits); omega), d3.1, d1.1]
  unfold look
  rw [hv, inB_iff.2 (show 1 ≤ a.gbits + a.bits + b.gbits + b.bits ∧ a.gbits + a.bits + b.gbits + b.bits ≤ 16 by omega), inB_iff.2 h3]
  simp only [Bool.and_self, if_true]
  obtain ⟨f, hf⟩ : ∃ f, (a.gbits + a.bits + b.gbits + b.bits).toNat + 1 = f + 1 + 1 := ⟨(a.gbits + a.bits + b.gbits + b.bits).toNat - 1, by omega⟩
  rw [hf, lookF]
  have ht : tabAt [a, b] 0 = a := rfl
  have ht1 : tabAt [a, b] 1 = b := rfl
  rw [if_pos (show inB 0 0 (([a, b] : List Tab).length - 1) = true from rfl)]
  simp only [ht]
  rw [if_neg (by omega), show a.gbits + a.bits + b.gbits + b.bits - a.gbits = a.bits + (b.gbits + b.bits) by omega, e1, if_pos rfl, show a.bits + (b.gbits + b.bits) - a.bits = b.gbits + b.bits by omega,
    if_neg (by omega), d3.1, d1.2, hc]
  simp only [if_true]
  rw [d3.2, lookF, if_pos (show inB 1 0 (([a, b] : List Tab).length - 1) = true from rfl)]
  simp only [ht1]
  rw [if_neg (by omega), show b.gbits + b.bits - b.gbits = b.bits by omega, d2.1, if_pos rfl, Int.sub_self, if_pos rfl, pw_zero, Int.ediv_one, d2.2]

end Go.Proofs.Ytdafogfpbpjmdaa
