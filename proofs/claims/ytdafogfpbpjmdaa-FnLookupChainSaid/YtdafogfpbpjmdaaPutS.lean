/- PutSlot of the reference. No condition beyond those written. -/
import Derived.Test.YtdafogfpbpjmdaaPutJ
namespace Go.Proofs.Ytdafogfpbpjmdaa
open Go.RowKit
set_option linter.unusedVariables false

/-- The list under way: the first j tables, each with slots of its own. -/
structure OutA (w0 w : World) (D : Option Addr) (d j : Nat) (ts : List Tab) (vs : List TR) : Prop where
  own : w.ownsRow w0.heap.size 29 4 (.slice D j d) j (flatT vs)
  same : ∀ i, i < j → (vs.getD i TR0).t = ts.getD i T0
  slots : ∀ i, i < j → CapO w w0.heap.size (vs.getD i TR0).S (vs.getD i TR0).t.slots.length (vs.getD i TR0).c (vs.getD i TR0).t.slots
  apart : ∀ i k, i < j → k < j → i ≠ k → ∀ y, (vs.getD i TR0).row = some y → (vs.getD k TR0).row ≠ some y
  belo : Below w0.heap.size w0 w
theorem own_fresh {base sz b : Nat} (w : World) (T : TypeId) (hs : b = w.heap.size) (hb : base ≤ w.heap.size) : (w.alloc (.cells #[] T)).ownsRow base T sz (.slice (some ⟨b, 0, none⟩) 0 0) 0 [] := by
  subst hs
  exact World.ownsRow_made w #[] 0 hb (Nat.zero_le _) (by simp)
theorem own_below {w w' : World} {base : Nat} {e : TypeId} {size : Nat} {v : Value} {n : Nat} {xs : List Value} (h : w.ownsRow base e size v n xs) (hb : Below w.heap.size w w') : w'.ownsRow base e size v n xs :=
  h.kept (row := none) ⟨hb.os, hb.tape, hb.output, hb.size, fun k hk _ => hb.block k hk⟩ (by cases h' : v.ownBlock <;> simp)
theorem own_apart {w : World} {base : Nat} {T T' : TypeId} {sz sz' n n' c' base' : Nat} {v : Value} {A' : Option Addr} {xs vs' : List Value} (hT : T ≠ T') (h : w.ownsRow base T sz v n xs) (h' : RowO w base' T' sz' A' n' c' vs') : ∀ y, rowOf A' n' = some y → v.ownBlock ≠ some y := by
  intro y hy hv
  by_cases hn' : n' = 0
  · subst hn'; cases hy
  obtain ⟨z, cur', hA', -, hz, -⟩ := h'.2.2.2 (by omega)
  subst hA'
  rw [rowOf_pos (by omega)] at hy
  injection hy with hy
  subst hy
  rcases h.2 with ⟨rfl, -⟩ | ⟨g, cap, cur, rfl, -, hg, -⟩
  · cases hv
  · have e : g = z := by simpa [Value.ownBlock] using hv
    subst e
    rw [hg] at hz
    injection hz with hz
    injection hz with _ hz
    exact hT hz
section
variable {w0 w w' : World} {D D' : Option Addr} {d d' j : Nat} {ts : List Tab} {vs : List TR}
theorem OutA.below (h : OutA w0 w D d j ts vs) (hb : Below w.heap.size w w') : OutA w0 w' D d j ts vs :=
  ⟨own_below h.own hb, h.same, fun i hi => RowO.below (h.slots i hi) hb, h.apart, h.belo.trans (hb.mono h.belo.size)⟩
theorem OutA.len (h : OutA w0 w D d j ts vs) : vs.length = j := by have := h.own.1; rw [flatT_len] at this; omega
theorem OutA.push (h : OutA w0 w D d j ts vs) {b c : Nat} {A : Option Addr} (hb : w0.heap.size ≤ b) (hC : CapO w b A (ts.getD j T0).slots.length c (ts.getD j T0).slots)
    (hf : ∀ i, i < j → ∀ y, (vs.getD i TR0).row = some y → y < b)
    (hown : w'.ownsRow w0.heap.size 29 4 (.slice D' (j + 1) d') (j + 1) (flatT vs ++ TR.cells ⟨ts.getD j T0, A, c⟩)) (hg : w.grownBy w' (Value.ownBlock (.slice D j d))) :
    OutA w0 w' D' d' (j + 1) ts (vs ++ [⟨ts.getD j T0, A, c⟩]) := by
  have hl := h.len
  have hT : 29 ≠ 41 := by decide
  have far : ∀ {B : Option Addr} {m q b' : Nat} {cs : List Cp}, CapO w b' B m q cs → CapO w' b' B m q cs := fun hc =>
    RowO.grownRow hc hg fun y hy => own_apart hT h.own hc y hy
  have hge : ∀ i, (vs ++ [(⟨ts.getD j T0, A, c⟩ : TR)]).getD i TR0 = if i < j then vs.getD i TR0 else if i = j then ⟨ts.getD j T0, A, c⟩ else TR0 := fun i => by
    by_cases h1 : i < j
    · rw [if_pos h1]
      simp [List.getD, List.getElem?_append_left (show i < vs.length by omega)]
    · rw [if_neg h1]
      by_cases h2 : i = j
      · rw [if_pos h2]
        simp [List.getD, hl, h2]
      · rw [if_neg h2]
        simp only [List.getD]
        rw [List.getElem?_eq_none (by simp; omega)]
        rfl
  have hCr : ∀ y, (TR.row ⟨ts.getD j T0, A, c⟩) = some y → b ≤ y := fun y hy => (RowO.row hC y hy).1
  refine ⟨?_, fun i hi => ?_, fun i hi => ?_, fun i k hi hk hik y hy => ?_, ?_⟩
  · rw [flatT_append]
    simpa [flatT] using hown
  · rw [hge]
    split
    · next e => exact h.same i e
    · next e => rw [if_pos (by omega), show i = j by omega]
  · rw [hge]
    split
    · next e => exact far (h.slots i e)
    · next e => rw [if_pos (by omega)]; exact far (RowO.more hC hb)
  · rw [hge] at hy ⊢
    by_cases e : i < j
    · rw [if_pos e] at hy
      by_cases e' : k < j
      · rw [if_pos e']
        exact h.apart i k e e' hik y hy
      · rw [if_neg e', if_pos (by omega)]
        intro hk'
        have := hf i e y hy
        have := hCr y hk'
        omega
    · rw [if_neg e, if_pos (by omega)] at hy
      rw [if_pos (by omega)]
      intro hk'
      have := hf k (by omega) y hk'
      have := hCr y hy
      omega
  · exact h.belo.grown hg h.belo.size (fun y hy => (h.own.lt y hy).1)
theorem OutA.whole (h : OutA w0 w D d j ts vs) : TabO w w0.heap.size D j d vs := ⟨RowO.of_own h.own, h.slots, h.apart⟩
theorem OutA.tabs (h : OutA w0 w D d j ts vs) (hl : ts.length = j) : tabsOf vs = ts := by
  refine list_ext (d := T0) (by rw [tabsOf_len, h.len, hl]) fun t ht => ?_
  rw [tabsOf_len, h.len] at ht
  rw [tabsOf_get]
  exact h.same t ht
end

set_option maxRecDepth 8000 in
set_option maxHeartbeats 16000000 in
theorem spec_PutSlot (A : Option Addr) (n c : Nat) (ts : List Tab) (i s : Int) (x y u v : Int) (w : World) (h : TabRd w A n ts) (hn : n ≤ 2000000) (hs : SmallT ts) :
    Calls Try.prog 30 #[.slice A n c, .int .i64 i, .int .i64 s, .agg #[.int .i64 x, .int .i64 y, .int .i64 u, .int .i64 v]] w fun e w' =>
      (∃ (A' : Option Addr) (c' : Nat) (rs : List TR), e = .returned (.slice A' (putL ts i s ⟨x, y, u, v⟩).length c') ∧ TabO w' w.heap.size A' (putL ts i s ⟨x, y, u, v⟩).length c' rs ∧ tabsOf rs = putL ts i s ⟨x, y, u, v⟩) ∧ Below w.heap.size w w' := by
  have hX0 := (CAt.new w 41 [.int .i64 x, .int .i64 y, .int .i64 u, .int .i64 v]).alloc (.cells #[] 29)
  have hB0 := below_al (below_al (Below.refl _ w) (.cells #[.int .i64 x, .int .i64 y, .int .i64 u, .int .i64 v] 41)) (.cells #[] 29)
  have hw1 : IntKind.i64.wrap ((n : Int) - 1) = (n : Int) - 1 := by rw [IntKind.wrap_i64]; omega
  have HW2 : Hid (∀ m : Nat, m ≤ 2000000 → IntKind.i64.wrap ((m : Int) - 1) = (m : Int) - 1) := fun m hm => by rw [IntKind.wrap_i64]; omega
  have hv := spec_TablesValid A n c ts _ (h.below hB0) hn hs
  have hcv := fun W => spec_CapValid x y u v W
  have HPN : Hid ((slotB ts i s && cpOk ⟨x, y, u, v⟩) = false → putL ts i s ⟨x, y, u, v⟩ = []) := fun h => putL_no h
  have HB := Lib.hid (slotB_parts ts i s h.1)
  have H := Lib.hid h
  have HS := Lib.hid hs
  clear h hs
  cases hd : tabsOk ts
  · rw [hd] at hv
    have HP : Hid (putL ts i s ⟨x, y, u, v⟩ = []) := HPN.out (by rw [HB.out, hd]; rfl)
    clear HB
    go_enter Try.func30, Try.ntmps30
    go_wp2_with fail
    refine hv.mono ?_
    rintro e w1 ⟨rfl, hb1⟩
    have hX1 := hX0.below hb1
    have hB1 := below_next hB0 hb1
    have HB1 := Lib.hid hB1
    obtain ⟨x0, x1, x2, x3⟩ := hX1.cells4
    clear hB1 hX1
    clear hv hb1 hB0 hX0
    go_wp2_with (first | (go_at_call 44; refine (spec_in _ _ _ _).mono ?_; rintro e w' ⟨rfl, rfl⟩) | (go_at_call 45; refine (hcv _).mono ?_; rintro e w' ⟨rfl, rfl⟩))
    go_ret
    have hB := HB1.out
    exact ⟨⟨_, _, [], by rw [HP.out]; rfl, by rw [HP.out]; exact TabO.nil _ _ _ _ (by decide), by rw [HP.out]; rfl⟩, by repeat (with_reducible first | exact hB | refine below_al ?_ _)⟩
  rw [hd] at hv
  cases hi : inB i 0 (n - 1)
  · have HP : Hid (putL ts i s ⟨x, y, u, v⟩ = []) := HPN.out (by rw [HB.out, hd, hi]; rfl)
    clear HB
    go_enter Try.func30, Try.ntmps30
    go_wp2_with fail
    refine hv.mono ?_
    rintro e w1 ⟨rfl, hb1⟩
    have hX1 := hX0.below hb1
    have hB1 := below_next hB0 hb1
    have HB1 := Lib.hid hB1
    obtain ⟨x0, x1, x2, x3⟩ := hX1.cells4
    clear hB1 hX1
    clear hv hb1 hB0 hX0
    go_wp2_with (first | (go_at_call 44; refine (spec_in _ _ _ _).mono ?_; rintro e w' ⟨rfl, rfl⟩) | (go_at_call 45; refine (hcv _).mono ?_; rintro e w' ⟨rfl, rfl⟩))
    go_ret
    have hB := HB1.out
    exact ⟨⟨_, _, [], by rw [HP.out]; rfl, by rw [HP.out]; exact TabO.nil _ _ _ _ (by decide), by rw [HP.out]; rfl⟩, by repeat (with_reducible first | exact hB | refine below_al ?_ _)⟩
  obtain ⟨m0, m1⟩ := inB_iff.1 hi
  obtain ⟨t, rfl⟩ := Int.eq_ofNat_of_zero_le m0
  have ht : t < n := by omega
  have ht' : (t : Int) < (n : Int) := by omega
  rw [tabAt_nat] at HB
  have hsm := HS.out t
  have hw2 := HW2.out _ hsm
  have HSM := Lib.hid hsm
  have hcell : ∀ W, Below w.heap.size w W → ∃ (g o : Nat) (S : Option Addr) (cS : Nat), A = some ⟨g, o, none⟩ ∧ W.cell? ⟨g, o + t * 4 + 3, none⟩ = some (.slice S (ts.getD t T0).slots.length cS) ∧ CapRd W S (ts.getD t T0).slots.length (ts.getD t T0).slots := fun W hW => by
    obtain ⟨g, o, hA, -, hc⟩ := (H.out.below hW).2 (by omega)
    obtain ⟨S, cS, t0, t1, t2, t3, -, -, hcap⟩ := hc t ht
    exact ⟨g, o, S, cS, hA, t3, hcap⟩
  clear m1 hsm
  generalize hq : (ts.getD t T0).slots.length = q at *
  have HQ := Lib.hid hq
  clear hq
  cases hz : inB s 0 (q - 1)
  · have HP : Hid (putL ts t s ⟨x, y, u, v⟩ = []) := HPN.out (by rw [HB.out, hd, hi, hz]; rfl)
    clear HB
    go_enter Try.func30, Try.ntmps30
    go_wp2_with fail
    refine hv.mono ?_
    rintro e w1 ⟨rfl, hb1⟩
    have hX1 := hX0.below hb1
    have hB1 := below_next hB0 hb1
    have HB1 := Lib.hid hB1
    obtain ⟨x0, x1, x2, x3⟩ := hX1.cells4
    obtain ⟨g, o, S, cS, rfl, t3, hcap⟩ := hcell _ hB1
    clear hcap hcell
    clear hB1 hX1
    clear hv hb1 hB0 hX0
    go_wp2_with (first | (go_at_call 44; refine (spec_in _ _ _ _).mono ?_; rintro e w' ⟨rfl, rfl⟩) | (go_at_call 45; refine (hcv _).mono ?_; rintro e w' ⟨rfl, rfl⟩))
    go_ret
    have hB := HB1.out
    exact ⟨⟨_, _, [], by rw [HP.out]; rfl, by rw [HP.out]; exact TabO.nil _ _ _ _ (by decide), by rw [HP.out]; rfl⟩, by repeat (with_reducible first | exact hB | refine below_al ?_ _)⟩
  cases hc : capOk x y u v
  · rw [hc] at hcv
    have HP : Hid (putL ts t s ⟨x, y, u, v⟩ = []) := HPN.out (by rw [show cpOk ⟨x, y, u, v⟩ = false from hc]; simp)
    clear HB
    go_enter Try.func30, Try.ntmps30
    go_wp2_with fail
    refine hv.mono ?_
    rintro e w1 ⟨rfl, hb1⟩
    have hX1 := hX0.below hb1
    have hB1 := below_next hB0 hb1
    have HB1 := Lib.hid hB1
    obtain ⟨x0, x1, x2, x3⟩ := hX1.cells4
    obtain ⟨g, o, S, cS, rfl, t3, hcap⟩ := hcell _ hB1
    clear hcap hcell
    clear hB1 hX1
    clear hv hb1 hB0 hX0
    go_wp2_with (first | (go_at_call 44; refine (spec_in _ _ _ _).mono ?_; rintro e w' ⟨rfl, rfl⟩) | (go_at_call 45; refine (hcv _).mono ?_; rintro e w' ⟨rfl, rfl⟩))
    go_ret
    have hB := HB1.out
    exact ⟨⟨_, _, [], by rw [HP.out]; rfl, by rw [HP.out]; exact TabO.nil _ _ _ _ (by decide), by rw [HP.out]; rfl⟩, by repeat (with_reducible first | exact hB | refine below_al ?_ _)⟩
  rw [hc] at hcv
  obtain ⟨s0, s1⟩ := inB_iff.1 hz
  obtain ⟨k, rfl⟩ := Int.eq_ofNat_of_zero_le s0
  have hkq : k < q := by omega
  have hk0 : (0 : Int) ≤ (k : Int) := by omega
  have HP : Hid (putL ts t k ⟨x, y, u, v⟩ = putT ts t k ⟨x, y, u, v⟩) := by
    show _ = _
    unfold putL
    rw [HB.out, hd, hi, hz, show cpOk ⟨x, y, u, v⟩ = true from hc]
    simp
  have hl := H.out.1
  have HPOS : Hid (∀ i, i < n → 0 < (ts.getD i T0).slots.length) := fun i hi => slots_pos hl hd hi
  have HKL : Hid (k < (ts.getD t T0).slots.length) := by show _ < _; rw [HQ.out]; exact hkq
  have HL := Lib.hid hl
  have HTN := Lib.hid ht
  obtain ⟨ic, hci, hcz0, hcz1, hcz2⟩ := info_parts cap_info
  obtain ⟨it, hti, htz0, htz1, htz2⟩ := info_parts table_info
  have HIC := Lib.hid (And.intro hci (And.intro hcz0 (And.intro hcz1 hcz2)))
  have HIT := Lib.hid (And.intro hti (And.intro htz0 (And.intro htz1 htz2)))
  rw [HP.out]
  clear HB hl hd s1 hkq HPN HW2 hci hcz0 hcz1 hcz2 hti htz0 htz1 htz2
  go_enter Try.func30, Try.ntmps30
  go_wp2_with fail
  refine hv.mono ?_
  rintro e w1 ⟨rfl, hb1⟩
  have hX1 := hX0.below hb1
  have hB1 := below_next hB0 hb1
  have hOA : OutA (w.alloc (.cells #[.int .i64 x, .int .i64 y, .int .i64 u, .int .i64 v] 41)) w1 (some ⟨w.heap.size + 1, 0, none⟩) 0 0 ts [] := by
    have h0 := World.ownsRow_made (base := (w.alloc (.cells #[.int .i64 x, .int .i64 y, .int .i64 u, .int .i64 v] 41)).heap.size) (e := 29) (size := 4) (w.alloc (.cells #[.int .i64 x, .int .i64 y, .int .i64 u, .int .i64 v] 41)) #[] 0 (Nat.le_refl _) (Nat.zero_le _) (by simp)
    exact ⟨own_below (by simpa [flatT] using h0) hb1, fun i hi => absurd hi (by omega), fun i hi => absurd hi (by omega), fun i k hi => absurd hi (by omega), below_next (below_al (Below.refl _ _) _) hb1⟩
  have hBX : Below (w.alloc (.cells #[.int .i64 x, .int .i64 y, .int .i64 u, .int .i64 v] 41)).heap.size (w.alloc (.cells #[.int .i64 x, .int .i64 y, .int .i64 u, .int .i64 v] 41)) w1 := hOA.belo
  have hCX := CAt.new w 41 [.int .i64 x, .int .i64 y, .int .i64 u, .int .i64 v]
  obtain ⟨x0, x1, x2, x3⟩ := hX1.cells4
  obtain ⟨g, o, S, cS, rfl, t3, hcap⟩ := hcell _ hB1
  clear hcap hcell
  have HOA := Lib.hid (fun o' => hOA.below (below_al (Below.refl _ w1) o'))
  have HB0 := Lib.hid (below_al (Below.refl _ w) (.cells #[.int .i64 x, .int .i64 y, .int .i64 u, .int .i64 v] 41))
  have HCX := Lib.hid hCX
  have HSZ : Hid ((w.alloc (.cells #[.int .i64 x, .int .i64 y, .int .i64 u, .int .i64 v] 41)).heap.size = w.heap.size + 1) := by show _ = _; simp
  clear hv hb1 hB0 hX0 hX1 hB1 hOA hBX hCX
  go_wp2_with (first | (go_at_call 44; refine (spec_in _ _ _ _).mono ?_; rintro e w' ⟨rfl, rfl⟩) | (go_at_call 45; refine (hcv _).mono ?_; rintro e w' ⟨rfl, rfl⟩))
  have hOA := HOA.out (.cells #[.int .i64 x, .int .i64 y, .int .i64 u, .int .i64 v] 41)
  generalize w1.alloc (.cells #[.int .i64 x, .int .i64 y, .int .i64 u, .int .i64 v] 41) = W2 at *
  generalize w.alloc (.cells #[.int .i64 x, .int .i64 y, .int .i64 u, .int .i64 v] 41) = W0 at *
  have HO2 := Lib.hid hOA
  clear hOA x0 x1 x2 x3 hcv t3 HOA
  go_loopw [9, 10] (fun ov i wr => ∃ (j : Nat) (D : Option Addr) (d : Nat) (vs : List TR), j ≤ n ∧ i = .int .i64 j ∧ ov = .slice D j d ∧ OutA W0 wr D d j ts vs) (fun ov i _ => n - (intOf i).toNat)
  case atStart => exact ⟨0, _, 0, [], Nat.zero_le _, rfl, rfl, HO2.out⟩
  case round =>
    clear HO2
    obtain ⟨j, D, d, vs, hj, rfl, rfl, hT⟩ := hrel
    by_cases hlt : j < n
    · have hTB := HB0.out.trans (hT.belo.mono HB0.out.size)
      obtain ⟨g', o', hA, hgl, hcells⟩ := (H.out.below hTB).2 (by omega)
      injection hA with hA
      injection hA with hA hA2
      subst hA hA2
      obtain ⟨S, cS, t0, t1, t2, t3, hqc, -, hcap⟩ := hcells j hlt
      obtain ⟨gs, os, rfl, -, -⟩ := hcap.2 (HPOS.out j hlt)
      have hsm := HS.out j
      have HCAP := Lib.hid hcap
      have HT := Lib.hid hT
      have hlt' : (j : Int) < (n : Int) := by omega
      have hj0 : (0 : Int) ≤ (j : Int) := by omega
      obtain ⟨hci, hcz0, hcz1, hcz2⟩ := HIC.out
      have HHD : Hid (TR.cells ⟨ts.getD j T0, none, 0⟩ = [.int .i64 (ts.getD j T0).bits, .int .i64 (ts.getD j T0).guard, .int .i64 (ts.getD j T0).gbits, .slice none (ts.getD j T0).slots.length 0]) := rfl
      have HHE : Hid (∀ S' c', TR.cells ⟨ts.getD j T0, S', c'⟩ = [.int .i64 (ts.getD j T0).bits, .int .i64 (ts.getD j T0).guard, .int .i64 (ts.getD j T0).gbits, .slice S' (ts.getD j T0).slots.length c']) := fun _ _ => rfl
      clear hT hcells hcap hTB HHD
      generalize hcs : (ts.getD j T0).slots = cs at *
      have HCS := Lib.hid hcs
      clear hcs
      generalize hq : cs.length = q at *
      have HQ := Lib.hid hq
      generalize (ts.getD j T0).bits = y0 at *
      generalize (ts.getD j T0).guard = y1 at *
      generalize (ts.getD j T0).gbits = y2 at *
      clear hq
      go_wp2_with (at_builtin; refine wpList_append_own _ rfl _ _ 27 rfl (wr.heap.size + 1) 41 ic _ 4 32 Try.underlying27 hci hcz0 hcz1 hcz2 rfl (by decide) _ _ _ rfl (own_fresh _ _ (by simp) (by simp)) ⟨gs, os, none⟩ q cS (flatC cs) rfl ?qc1 ?qc2 ?qc3 ?qc4 ?qc5 ?qc6 ?_)
      case qc1 => rw [flatC_len, show cs.length = q from HQ.out]
      case qc2 =>
        intro k u hk
        have := (HCAP.out.below (below_al (below_al (Below.refl _ wr) (.cells #[.int .i64 y0, .int .i64 y1, .int .i64 y2, .slice (some ⟨gs, os, none⟩) q cS] 29)) (.cells #[] 41))).flat.2 k u hk
        rw [Go.WideShapes.add_plain] at this
        exact this
      case qc3 => exact flatC_one _
      case qc4 => simp only [maxLen]; omega
      case qc5 => omega
      try (case qc6 => first | omega | (simp; done) | (simp; omega))
      intro v' w2 hown hgrow _
      have hown : w2.ownsRow (wr.heap.size + 1) 41 4 v' q (flatC cs) := by simpa using hown
      obtain ⟨A4, c4, rfl⟩ : ∃ A' c', v' = .slice A' q c' := by
        rcases hown.2 with ⟨rfl, h0⟩ | ⟨g, cap, cur, rfl, _⟩
        · exact ⟨none, 0, by rw [h0]⟩
        · exact ⟨_, _, rfl⟩
      have hC4 : CapO w2 (wr.heap.size + 1) A4 q c4 cs := RowO.of_own hown
      have hB2 : Below wr.heap.size wr w2 := (below_al (below_al (Below.refl _ wr) _) _).grown hgrow (by simp; try omega) (by intro k hk; simp [Value.ownBlock] at hk; omega)
      have hY := (CAt.alloc (CAt.new wr 29 [.int .i64 y0, .int .i64 y1, .int .i64 y2, .slice (some ⟨gs, os, none⟩) q cS]) (.cells #[] 41)).grown hgrow (by simp [Value.ownBlock])
      have fY := hY.free
      obtain ⟨z0, z1, z2, z3⟩ := hY.cells4
      have hylt := hY.lt
      have hC5 : CapO (w2.setCell ⟨wr.heap.size, 3, none⟩ (.slice A4 q c4)) (wr.heap.size + 1) A4 q c4 cs := RowO.setLow hC4 (by omega) _
      have hB5 := below_set hB2 (p := ⟨wr.heap.size, 3, none⟩) (Nat.le_refl _) (.slice A4 q c4)
      have hT5 := HT.out.below hB5
      have HROW : Hid (∀ i, i < j → ∀ y, (vs.getD i TR0).row = some y → y < wr.heap.size + 1) := fun i hi y hy => by
        have := (RowO.row (HT.out.slots i hi) y hy).2
        omega
      have HC5 := Lib.hid hC5
      have HT5 := Lib.hid hT5
      have HLE : Hid (W0.heap.size ≤ wr.heap.size) := HT.out.belo.size
      obtain ⟨hti, htz0, htz1, htz2⟩ := HIT.out
      have hsz2 : W0.heap.size ≤ w2.heap.size := Nat.le_trans HT.out.belo.size hB2.size
      have hown5 : ∀ o', ((w2.setCell ⟨wr.heap.size, 3, none⟩ (.slice A4 q c4)).alloc o').ownsRow W0.heap.size 29 4 (.slice D j d) j (flatT vs) := fun o' => own_below hT5.own (below_al (Below.refl _ _) _)
      have HJN : Hid (j < n) := hlt
      clear hC4 hB2 hY hown hgrow hC5 hB5 hT5 hci hcz0 hcz1 hcz2 t0 t1 t2 t3
      go_wp2_with (at_builtin; refine wpList_append_own _ rfl _ _ 36 rfl W0.heap.size 29 it _ 4 48 Try.underlying36 hti htz0 htz1 htz2 rfl (by decide) _ _ _ rfl (hown5 _) ⟨w2.heap.size, 0, none⟩ 1 1 [.int .i64 y0, .int .i64 y1, .int .i64 y2, .slice A4 q c4] rfl ?rc1 ?rc2 ?rc3 ?rc4 ?rc5 ?rc6 ?_)
      case rc1 => rfl
      case rc2 =>
        intro k u hk
        have hs : (w2.setCell ⟨wr.heap.size, 3, none⟩ (.slice A4 q c4)).heap.size = w2.heap.size := by simp
        have hnew := CAt.new (w2.setCell ⟨wr.heap.size, 3, none⟩ (.slice A4 q c4)) 29 [.int .i64 y0, .int .i64 y1, .int .i64 y2, .slice A4 q c4]
        rw [hs] at hnew
        rw [Go.WideShapes.add_plain, Nat.zero_add]
        exact (hnew.cell k).trans hk
      case rc3 => intro u hu; simp at hu; rcases hu with rfl | rfl | rfl | rfl <;> rfl
      case rc4 => simp only [maxLen]; omega
      case rc5 => omega
      try (case rc6 => first | omega | (simp; done) | (simp; omega))
      intro v'' w5 hown' hgrow' _
      obtain ⟨D', d', rfl⟩ : ∃ A' c', v'' = .slice A' (j + 1) c' := by
        rcases hown'.2 with ⟨rfl, h0⟩ | ⟨g, cap, cur, rfl, _⟩
        · exact ⟨none, 0, by rw [h0]⟩
        · exact ⟨_, _, rfl⟩
      have hpush := (HT5.out.below (below_al (Below.refl _ _) _)).push (D' := D') (d' := d') (b := wr.heap.size + 1) (Nat.le_succ_of_le HLE.out) (A := A4) (c := c4) (by rw [HCS.out, HQ.out]; exact RowO.alloc HC5.out _) HROW.out (by rw [HHE.out]; exact hown') hgrow'
      have HPUSH := Lib.hid hpush
      clear hpush hown' hgrow' hown5
      go_wp2_with fail
      go_roundw
      case rel => exact ⟨j + 1, D', d', _, by omega, by go_num, rfl, HPUSH.out⟩
      case measure => simp [intOf]; omega
    · have hge : ¬ (j : Int) < (n : Int) := by omega
      have hjn : j = n := by omega
      subst hjn
      have hTO := hT.whole
      have htab := hT.tabs HL.out
      have hX := HCX.out.below hT.belo
      obtain ⟨x0, x1, x2, x3⟩ := hX.cells4
      have hvt : (vs.getD t TR0).t = ts.getD t T0 := by rw [← tabsOf_get, htab]
      obtain ⟨gg, rfl, -, hggl, hcc, hff⟩ := hTO.at_ (by have := HTN.out; omega)
      obtain ⟨t0, t1, t2, t3, -, -, -⟩ := hcc t HTN.out
      have hkl : k < (vs.getD t TR0).t.slots.length := by rw [hvt]; exact HKL.out
      obtain ⟨gs, hS, -, hgsl, hsc, hsf⟩ := (hTO.slots t HTN.out).at_ (by omega)
      obtain ⟨y0, y1, y2, y3⟩ := hsc k hkl
      have hTOd : TabO wr.drew W0.heap.size (some ⟨gg, 0, none⟩) j d vs := ⟨hTO.row, hTO.slots, hTO.apart⟩
      have hput := hTOd.put HTN.out hkl hS ⟨x, y, u, v⟩
      rw [htab] at hput
      rw [hS] at t3
      have hkq' : (k : Int) < ((vs.getD t TR0).t.slots.length : Int) := by omega
      have hgsW : W0.heap.size ≤ gs := (RowO.row (hTO.slots t HTN.out) gs (by rw [hS]; exact rowOf_pos (by omega))).1
      have HPUT := Lib.hid hput
      have HBW := Lib.hid (HB0.out.trans (hT.belo.mono HB0.out.size))
      have HWS := Lib.hid HB0.out.size
      clear hput hTO hTOd htab hX hvt hcc hsc hT HKL hkl hS
      generalize (vs.getD t TR0).t.slots.length = q at *
      generalize ((vs.getD t TR0).t.slots.getD k C0).k = z0 at *
      generalize ((vs.getD t TR0).t.slots.getD k C0).o = z1 at *
      generalize ((vs.getD t TR0).t.slots.getD k C0).r = z2 at *
      generalize ((vs.getD t TR0).t.slots.getD k C0).b = z3 at *
      generalize (vs.getD t TR0).c = ct at *
      go_wp2_with fail
      go_region
      go_wp2_with fail
      go_ret
      have hlen : (putT ts t k ⟨x, y, u, v⟩).length = j := by rw [putT_len]; exact HL.out
      refine ⟨⟨some ⟨gg, 0, none⟩, d, _, by rw [hlen]; rfl, by rw [hlen]; exact HPUT.out.1.more HWS.out, HPUT.out.2⟩, ?_⟩
      have hB := HBW.out
      have hw := HWS.out
      refine Below.drew ?_
      iterate 4 refine Below.setCell ?_ (by exact Nat.le_trans hw hgsW) _
      exact hB

end Go.Proofs.Ytdafogfpbpjmdaa
