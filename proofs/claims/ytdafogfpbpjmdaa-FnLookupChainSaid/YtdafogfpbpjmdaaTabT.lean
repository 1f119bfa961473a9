/- szTable, szTableS, toTable, toTableS. No condition beyond those written. -/
import Derived.Test.YtdafogfpbpjmdaaTabE
import Derived.Deep.RegionWith
namespace Go.Proofs.Ytdafogfpbpjmdaa
open Go.RowKit
set_option linter.unusedVariables false

theorem laws_szTable (bits guard gbits : Int) (S : Option Addr) (n c : Nat) (k : Int) (w : World) (h0 : 0 ≤ k) (h1 : k ≤ 9000000000) (hn : (n : Int) ≤ 9223372036854775807) :
    Calls Try.prog 15 #[.agg #[.int .i64 bits, .int .i64 guard, .int .i64 gbits, .slice S n c], .int .i64 k] w fun e w' => e = .returned (.int .i64 (if k < n then -1 else k - n)) ∧ Below w.heap.size w w' := by
  have hc := fun W => laws_szCapS S n c k W h0 h1 hn
  by_cases hlt : k < (n : Int)
  · rw [if_pos hlt] at hc ⊢
    go_enter Try.func15, Try.ntmps15
    go_wp2_with fail
    refine (hc _).mono ?_
    rintro e w1 ⟨rfl, rfl⟩
    clear hc
    go_wp2_with fail
    go_ret
    exact ⟨rfl, below_al (Below.refl _ _) _⟩
  · rw [if_neg hlt] at hc ⊢
    generalize hz : k - (n : Int) = z at *
    have hz0 : ¬ z < 0 := by omega
    go_enter Try.func15, Try.ntmps15
    go_wp2_with fail
    refine (hc _).mono ?_
    rintro e w1 ⟨rfl, rfl⟩
    clear hc
    go_wp2_with fail
    go_ret
    exact ⟨rfl, below_al (Below.refl _ _) _⟩

/-- What a size says: a list that is not too large has few tables, each of few slots. -/
def Sized (n : Nat) (ts : List Tab) (r : Int) : Prop := r ≤ 9000000000 ∧ (0 ≤ r → n ≤ 1048576 ∧ ∀ i, i < n → (ts.getD i T0).slots.length ≤ 1048576)

set_option maxHeartbeats 4000000 in
theorem laws_szTableS (A : Option Addr) (n c : Nat) (ts : List Tab) (k : Int) (w : World) (h : TabRd w A n ts) (h0 : 0 ≤ k) (h1 : k ≤ 1048576) (hn : (n : Int) ≤ 9223372036854775807) :
    Calls Try.prog 20 #[.slice A n c, .int .i64 k] w fun e w' => (∃ r : Int, e = .returned (.int .i64 r) ∧ Sized n ts r) ∧ Below w.heap.size w w' := by
  have H := Lib.hid h
  have HL := Lib.hid h.1
  clear h
  have hw : IntKind.i64.wrap (k - n) = k - n := by rw [IntKind.wrap_i64]; omega
  have hw2 : wrap64 (k - n) = k - n := by rw [wrap64]; omega
  by_cases hlt : k - (n : Int) < 0
  · go_enter Try.func20, Try.ntmps20
    go_wp2_with fail
    go_ret
    exact ⟨⟨-1, rfl, by omega, fun h => absurd h (by omega)⟩, Below.refl _ _⟩
  · have HN : Hid (n ≤ 1048576) := by show _ ≤ _; omega
    go_enter Try.func20, Try.ntmps20
    go_wp2_with fail
    go_loopw [1, 5] (fun z i wr => ∃ (j : Nat) (r : Int), j ≤ n ∧ i = .int .i64 j ∧ z = .int .i64 r ∧ 0 ≤ r ∧ r ≤ 1048576 ∧ (∀ t, t < j → (ts.getD t T0).slots.length ≤ 1048576) ∧ Below w.heap.size w wr) (fun z i _ => n - (intOf i).toNat)
    case atStart => exact ⟨0, _, Nat.zero_le _, rfl, rfl, by omega, by omega, fun t ht => absurd ht (by omega), Below.refl _ _⟩
    case round =>
      clear hw hw2 hlt h0 h1
      obtain ⟨j, r, hj, rfl, rfl, r0, r1, hpre, hb⟩ := hrel
      by_cases hlt : j < n
      · have hR := H.out.below hb
        obtain ⟨g, o, rfl, hgl, hcells⟩ := hR.2 (by omega)
        obtain ⟨S, cS, t0, t1, t2, t3, hnc, hcm, hcap⟩ := hcells j hlt
        have HPRE := Lib.hid hpre
        have HB := Lib.hid hb
        have hlt' : (j : Int) < (n : Int) := by omega
        have hj0 : (0 : Int) ≤ (j : Int) := by omega
        clear hcells hpre hb hR hcap
        generalize hm : (ts.getD j T0).slots.length = m at *
        have HM := Lib.hid hm
        have hv := laws_szTable (ts.getD j T0).bits (ts.getD j T0).guard (ts.getD j T0).gbits S m cS r wr r0 (by omega) (by omega)
        generalize (ts.getD j T0).bits = x0 at *
        generalize (ts.getD j T0).guard = x1 at *
        generalize (ts.getD j T0).gbits = x2 at *
        clear hnc hcm hm
        by_cases hrm : r < (m : Int)
        · rw [if_pos hrm] at hv
          go_wp2_with fail
          refine hv.mono ?_
          rintro e w1 ⟨rfl, hb1⟩
          have HB1 := Lib.hid (HB.out.trans (hb1.mono HB.out.size))
          clear hb1 hv t0 t1 t2 t3
          go_wp2_with fail
          go_ret
          exact ⟨⟨-1, rfl, by omega, fun h => absurd h (by omega)⟩, HB1.out⟩
        · rw [if_neg hrm] at hv
          have hz0 : ¬ r - (m : Int) < 0 := by omega
          have hz1 : r - (m : Int) ≤ 1048576 := by omega
          have hmm : m ≤ 1048576 := by omega
          have HMM := Lib.hid hmm
          generalize r - (m : Int) = z at *
          clear hrm hmm
          go_wp2_with fail
          refine hv.mono ?_
          rintro e w1 ⟨rfl, hb1⟩
          have HB1 := Lib.hid (HB.out.trans (hb1.mono HB.out.size))
          clear hb1 hv t0 t1 t2 t3
          go_wp2_with fail
          go_roundw
          case rel =>
            refine ⟨j + 1, z, by omega, by go_num, rfl, by omega, by omega, fun t ht => ?_, HB1.out⟩
            by_cases e : t = j
            · subst e
              rw [HM.out]
              exact HMM.out
            · exact HPRE.out t (by omega)
          case measure => simp [intOf]; omega
      · have hge : ¬ (j : Int) < (n : Int) := by omega
        have HB := Lib.hid hb
        have HPRE := Lib.hid hpre
        clear hb hpre
        go_wp2_with fail
        go_ret
        exact ⟨⟨r, rfl, by omega, fun _ => ⟨HN.out, fun i hi => HPRE.out i (by omega)⟩⟩, HB.out⟩

set_option maxHeartbeats 4000000 in
theorem laws_toTable (bits guard gbits : Int) (S : Option Addr) (n c : Nat) (cs : List Cp) (w : World) (h : CapRd w S n cs) (hn : n ≤ 2000000) :
    Calls Try.prog 17 #[.agg #[.int .i64 bits, .int .i64 guard, .int .i64 gbits, .slice S n c]] w fun e w' =>
      (∃ (S' : Option Addr) (c' : Nat), e = .returned (.agg #[.int .i64 bits, .int .i64 guard, .int .i64 gbits, .slice S' n c']) ∧ CapO w' w.heap.size S' n c' cs) ∧ Below w.heap.size w w' := by
  have he := fun W (hW : Below w.heap.size w W) => laws_toCapS S n c cs W (h.below hW) hn
  clear h
  go_enter Try.func17, Try.ntmps17
  go_wp2_with fail
  refine (he _ (by
    repeat (with_reducible first | exact Below.refl _ _ | refine below_al ?_ _ | refine below_set ?_ (by first | (simp; done) | (simp; omega)) _))).mono ?_
  rintro e w1 ⟨⟨S', c', rfl, hO⟩, hb1⟩
  clear he
  have hR := CAt.below (CAt.alloc (CAt.new (w.alloc _) 29 [.int .i64 0, .int .i64 0, .int .i64 0, .slice none 0 0]) _) hb1
  have hE := CAt.below (CAt.new ((w.alloc _).alloc _) 29 [.int .i64 bits, .int .i64 guard, .int .i64 gbits, .slice none 0 0]) hb1
  simp only [World.size_alloc] at hR hE hO
  have hB := below_next (below_al (below_al (below_al (Below.refl _ w) _) _) _) hb1
  have hlt := hE.lt
  have fR := hR.free
  have fE := hE.free
  obtain ⟨r0, r1, r2, r3⟩ := hR.cells4
  obtain ⟨e0, e1, e2, e3⟩ := hE.cells4
  have HO := Lib.hid hO
  clear hR hE hb1 hO
  go_wp2_with fail
  refine bodyPost_ret (v := .agg #[.int .i64 bits, .int .i64 guard, .int .i64 gbits, .slice S' n c']) (by simp [results, Try.results17, go_sem, r0, r1, r2, r3]) rfl ⟨⟨S', c', rfl, ?_⟩, ?_⟩
  · refine RowO.more (base := w.heap.size + 1 + 1 + 1) ?_ (by omega)
    have h : RowO w1 (w.heap.size + 1 + 1 + 1) 41 4 S' n c' (flatC cs) := HO.out
    repeat (with_reducible first | exact h | refine RowO.setLow ?_ (by first | (simp; done) | (simp; omega)) _)
  · repeat (with_reducible first | exact hB | refine below_al ?_ _ | refine below_set ?_ (by first | (simp; done) | (simp; omega)) _)

/-- A table put at a place of the row, with slots in a block of their own. -/
theorem TabO.setAll {w : World} {base n c g : Nat} {rs : List TR} (h : TabO w base (some ⟨g, 0, none⟩) n c rs) (i : Nat) (hi : i < n) (r : TR) (hr : CapO w base r.S r.t.slots.length r.c r.t.slots)
    (hap : ∀ j, j < n → j ≠ i → ∀ y, r.row = some y → (rs.getD j TR0).row ≠ some y) :
    TabO ((((w.setCell ⟨g, i * 4, none⟩ (.int .i64 r.t.bits)).setCell ⟨g, i * 4 + 1, none⟩ (.int .i64 r.t.guard)).setCell ⟨g, i * 4 + 2, none⟩ (.int .i64 r.t.gbits)).setCell ⟨g, i * 4 + 3, none⟩ (.slice r.S r.t.slots.length r.c)) base (some ⟨g, 0, none⟩) n c (rs.set i r) := by
  have hl := h.len
  have hT : 29 ≠ 41 := by decide
  have hg : rowOf (some (⟨g, 0, none⟩ : Addr)) n = some g := rowOf_pos (by omega)
  have gset : ∀ j, j < n → (rs.set i r).getD j TR0 = if i = j then r else rs.getD j TR0 := fun j hj => getD_set_t (by omega)
  have far : ∀ (B : Option Addr) (m q : Nat) (cs : List Cp), CapO w base B m q cs → CapO ((((w.setCell ⟨g, i * 4, none⟩ (.int .i64 r.t.bits)).setCell ⟨g, i * 4 + 1, none⟩ (.int .i64 r.t.guard)).setCell ⟨g, i * 4 + 2, none⟩ (.int .i64 r.t.gbits)).setCell ⟨g, i * 4 + 3, none⟩ (.slice r.S r.t.slots.length r.c)) base B m q cs := by
    intro B m q cs hc
    refine RowO.grownRow (r := some g) hc ((((grown_set _ _ _ _).trans (grown_set _ _ _ _)).trans (grown_set _ _ _ _)).trans (grown_set _ _ _ _)) fun y hy e => ?_
    injection e with e
    subst e
    exact rows_apart hT h.row hc _ hg hy
  have row : RowO ((((w.setCell ⟨g, i * 4, none⟩ (.int .i64 r.t.bits)).setCell ⟨g, i * 4 + 1, none⟩ (.int .i64 r.t.guard)).setCell ⟨g, i * 4 + 2, none⟩ (.int .i64 r.t.gbits)).setCell ⟨g, i * 4 + 3, none⟩ (.slice r.S r.t.slots.length r.c)) base 29 4 (some ⟨g, 0, none⟩) n c (flatT (rs.set i r)) := by
    have h1 := RowO.set (RowO.set (RowO.set (RowO.set h.row (i * 4) (by omega) (.int .i64 r.t.bits)) (i * 4 + 1) (by omega) (.int .i64 r.t.guard)) (i * 4 + 2) (by omega) (.int .i64 r.t.gbits)) (i * 4 + 3) (by omega) (.slice r.S r.t.slots.length r.c)
    have e : ((((flatT rs).set (i * 4) (.int .i64 r.t.bits)).set (i * 4 + 1) (.int .i64 r.t.guard)).set (i * 4 + 2) (.int .i64 r.t.gbits)).set (i * 4 + 3) (.slice r.S r.t.slots.length r.c) = flatT (rs.set i r) := by
      apply List.ext_getElem?
      intro k
      by_cases hk : k < n * 4
      · have h4 : k % 4 < 4 := Nat.mod_lt _ (by omega)
        have q := flatG_get (f := TR.cells) (sz := 4) (d := TR0) (fun _ => rfl) (rs.set i r) (k / 4) (k % 4) (by rw [List.length_set]; omega) h4
        rw [show k / 4 * 4 + k % 4 = k by omega] at q
        unfold flatT
        rw [q]
        rw [gset (k / 4) (by omega)]
        have ln : k < (flatT rs).length := by rw [flatT_len]; omega
        by_cases hik : i = k / 4
        · rw [if_pos hik]
          have hm : k % 4 = 0 ∨ k % 4 = 1 ∨ k % 4 = 2 ∨ k % 4 = 3 := by omega
          have b0 : i * 4 < (flatT rs).length := by rw [flatT_len]; omega
          have b1 : i * 4 + 1 < (flatT rs).length := by rw [flatT_len]; omega
          have b2 : i * 4 + 2 < (flatT rs).length := by rw [flatT_len]; omega
          have b3 : i * 4 + 3 < (flatT rs).length := by rw [flatT_len]; omega
          unfold flatT at b0 b1 b2 b3
          rcases hm with hm | hm | hm | hm
          · obtain rfl : k = i * 4 := by omega
            rw [hm, List.getElem?_set_ne (by omega), List.getElem?_set_ne (by omega), List.getElem?_set_ne (by omega), List.getElem?_set_self b0]
            rfl
          · obtain rfl : k = i * 4 + 1 := by omega
            rw [hm, List.getElem?_set_ne (by omega), List.getElem?_set_ne (by omega), List.getElem?_set_self (by simpa using b1)]
            rfl
          · obtain rfl : k = i * 4 + 2 := by omega
            rw [hm, List.getElem?_set_ne (by omega), List.getElem?_set_self (by simpa using b2)]
            rfl
          · obtain rfl : k = i * 4 + 3 := by omega
            rw [hm, List.getElem?_set_self (by simpa using b3)]
            rfl
        · rw [if_neg hik]
          have q2 := flatG_get (f := TR.cells) (sz := 4) (d := TR0) (fun _ => rfl) rs (k / 4) (k % 4) (by omega) h4
          rw [show k / 4 * 4 + k % 4 = k by omega] at q2
          rw [← q2]
          rw [List.getElem?_set_ne (by omega), List.getElem?_set_ne (by omega), List.getElem?_set_ne (by omega), List.getElem?_set_ne (by omega)]
      · rw [List.getElem?_eq_none (by simp only [List.length_set, flatT_len]; omega), List.getElem?_eq_none (by rw [flatT_len, List.length_set]; omega)]
    rw [e] at h1
    exact h1
  refine ⟨row, fun j hj => ?_, fun j k hj hk hjk y hy => ?_⟩
  · rw [gset j hj]
    split
    · exact far _ _ _ _ hr
    · exact far _ _ _ _ (h.slots j hj)
  · rw [gset j hj] at hy
    rw [gset k hk]
    by_cases e : i = j
    · rw [if_pos e] at hy
      rw [if_neg (by omega)]
      exact hap k hk (by omega) y hy
    · rw [if_neg e] at hy
      by_cases e' : i = k
      · rw [if_pos e']
        exact fun hr' => hap j hj (by omega) y hr' hy
      · rw [if_neg e']
        exact h.apart j k hj hk hjk y hy

set_option maxHeartbeats 4000000 in
theorem laws_toTableS (A : Option Addr) (n c : Nat) (ts : List Tab) (w : World) (h : TabRd w A n ts) (hn : n ≤ 2000000) (hs : SmallT ts) :
    Calls Try.prog 22 #[.slice A n c] w fun e w' => (∃ (A' : Option Addr) (c' : Nat) (rs : List TR), e = .returned (.slice A' n c') ∧ TabO w' w.heap.size A' n c' rs ∧ tabsOf rs = ts) ∧ Below w.heap.size w w' := by
  obtain ⟨cs, hcs, hmk⟩ := make_tables n hn
  have H := Lib.hid h
  have HS := Lib.hid hs
  have HCS := Lib.hid hcs
  clear h hcs hs
  go_enter Try.func22, Try.ntmps22
  go_wp2_with fail
  have hO : TabO (w.alloc (.cells cs 29)) w.heap.size (some ⟨w.heap.size, 0, none⟩) n n (List.replicate n TR0) := by
    have hr : ∀ i, (List.replicate n TR0).getD i TR0 = TR0 := fun i => by
      simp only [List.getD, List.getElem?_replicate]
      split <;> rfl
    refine ⟨⟨by rw [flatT_len]; simp, Nat.le_refl _, by simp only [maxLen]; omega, fun _ => ⟨_, cs, rfl, Nat.le_refl _, heap_alloc_new w _, ?_⟩⟩, fun i hi => ?_, fun i j hi hj hij g hg => ?_⟩
    · rw [HCS.out, List.take_of_length_le (by rw [flatT_len]; simp)]
    · rw [hr]
      exact RowO.nil _ _ _ _ _ _ (by decide)
    · rw [hr] at hg
      cases hg
  have hB := below_al (Below.refl _ w) (.cells cs 29)
  have HO := Lib.hid hO
  have HB := Lib.hid hB
  clear hO hB HCS hmk
  generalize w.alloc (.cells cs 29) = W at *
  generalize hG : w.heap.size = G at *
  have HG := Lib.hid hG
  clear hG
  go_loopw [4] (fun i wr => ∃ (j : Nat) (vs : List TR), j ≤ n ∧ i = .int .i64 j ∧ TabO wr G (some ⟨G, 0, none⟩) n n vs ∧ (∀ t, t < j → (vs.getD t TR0).t = ts.getD t T0) ∧ Below G w wr) (fun i _ => n - (intOf i).toNat)
  case atStart => exact ⟨0, _, Nat.zero_le _, rfl, HO.out, fun t ht => absurd ht (by omega), HB.out⟩
  case round =>
    obtain ⟨j, vs, hj, rfl, ho, hpre, hb⟩ := hrel
    by_cases hlt : j < n
    · have hR := H.out.below (HG.out ▸ hb)
      obtain ⟨g, o, rfl, hgl, hcells⟩ := hR.2 (by omega)
      obtain ⟨S, cS, a0, a1, a2, a3, -, -, hcap⟩ := hcells j hlt
      have HPRE := Lib.hid hpre
      have HOO := Lib.hid ho
      have HBB := Lib.hid hb
      have hlt' : (j : Int) < (n : Int) := by omega
      have hj0 : (0 : Int) ≤ (j : Int) := by omega
      have hcall := laws_toTable (ts.getD j T0).bits (ts.getD j T0).guard (ts.getD j T0).gbits S (ts.getD j T0).slots.length cS (ts.getD j T0).slots wr hcap (HS.out j)
      clear hcells hpre ho hb hR HO HB hcap
      have HT : Hid ((ts.getD j T0) = ⟨(ts.getD j T0).bits, (ts.getD j T0).guard, (ts.getD j T0).gbits, (ts.getD j T0).slots⟩) := rfl
      generalize hm : (ts.getD j T0).slots.length = m at *
      have HM := Lib.hid hm
      generalize (ts.getD j T0).bits = x0 at *
      generalize (ts.getD j T0).guard = x1 at *
      generalize (ts.getD j T0).gbits = x2 at *
      clear hm
      go_wp2_with fail
      refine hcall.mono ?_
      rintro r w1 ⟨⟨S', c', rfl, hC⟩, hb1⟩
      have hO1 : TabO w1 G (some ⟨G, 0, none⟩) n n vs := HOO.out.below hb1
      have hGs : G ≤ wr.heap.size := by have := HBB.out.size; have := HG.out; omega
      obtain ⟨g', hA', _, hgl1, hcell1, f1⟩ := hO1.at_ (by omega)
      injection hA' with hA'
      injection hA' with hA'
      subst hA'
      obtain ⟨S1, c1, e0, e1, e2, e3, -⟩ : ∃ S1 c1, TabCell w1 G (j * 4) (vs.getD j TR0).t S1 c1 := ⟨_, _, hcell1 j hlt⟩
      have hset := hO1.setAll j hlt ⟨ts.getD j T0, S', c'⟩ (by rw [show (ts.getD j T0).slots.length = m from HM.out]; exact RowO.more hC hGs) (fun k hk hkj y hy hy' => by
        have h1 := RowO.row (HOO.out.slots k hk) y hy'
        have h2 : rowOf S' m = some y := by rw [← HM.out]; exact hy
        have h3 := RowO.row hC y h2
        omega)
      rw [HT.out] at hset
      simp only at hset
      rw [show (ts.getD j T0).slots.length = m from HM.out] at hset
      rw [← HT.out] at hset
      have HSET := Lib.hid hset
      have HB1 := Lib.hid (HBB.out.trans (hb1.mono (by have := HBB.out.size; have := HG.out; omega)))
      have HVL := Lib.hid hO1.len
      clear hcell1 hO1 hb1 hcall a0 a1 a2 a3 HBB HOO hset hC
      generalize (vs.getD j TR0).t.slots.length = m1 at *
      generalize (vs.getD j TR0).t.bits = y0 at *
      generalize (vs.getD j TR0).t.guard = y1 at *
      generalize (vs.getD j TR0).t.gbits = y2 at *
      go_wp2_with fail
      go_roundw
      case rel =>
        refine ⟨j + 1, vs.set j ⟨ts.getD j T0, S', c'⟩, by omega, by go_num, HSET.out, fun t ht => ?_, ?_⟩
        · rw [getD_set_t (by have := HVL.out; omega)]
          by_cases h : j = t
          · rw [if_pos h, h]
          · rw [if_neg h]
            exact HPRE.out t (by omega)
        · have hB := HB1.out
          iterate 4 refine Below.setCell ?_ (by simp) _
          exact hB
      case measure => simp [intOf]; omega
    · have hge : ¬ (j : Int) < (n : Int) := by omega
      have hjn : j = n := by omega
      subst hjn
      have HOO := Lib.hid ho
      have HBB := Lib.hid hb
      have HPRE := Lib.hid hpre
      clear ho hb hpre
      go_wp2_with fail
      go_ret
      have hGG := HG.out
      subst hGG
      refine ⟨⟨_, _, rfl, vs, HOO.out, ?_⟩, HBB.out⟩
      have hl := HOO.out.len
      refine list_ext (d := T0) (by rw [tabsOf_len, hl, H.out.1]) fun t ht => ?_
      rw [tabsOf_len, hl] at ht
      rw [tabsOf_get]
      exact HPRE.out t ht

end Go.Proofs.Ytdafogfpbpjmdaa
