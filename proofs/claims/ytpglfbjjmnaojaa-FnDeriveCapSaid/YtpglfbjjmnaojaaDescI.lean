/- The program's descendants and Descendants. No condition beyond those written. -/
import Derived.Test.YtpglfbjjmnaojaaDescS
namespace Go.Proofs.Ytpglfbjjmnaojaa
open Go.RowKit
set_option linter.unusedVariables false

/-- The marks when the entries before j are done. -/
def fromB (es : List Ent) (m j i : Nat) : Bool := decide (i = m) || (decide (i < j) && (decide (m < i) && below es m i))
def fromL (es : List Ent) (m j n : Nat) : List Bool := (List.range n).map fun i => fromB es m j i
theorem fromL_len (es : List Ent) (m j n : Nat) : (fromL es m j n).length = n := by simp [fromL]
theorem fromL_get (es : List Ent) (m j n i : Nat) (hi : i < n) : (fromL es m j n)[i]? = some (fromB es m j i) := by simp [fromL, hi]
theorem from_start (es : List Ent) (m n : Nat) (hm : m < n) : fromL es m (m + 1) n = (List.replicate n false).set m true := by
  apply List.ext_getElem?
  intro i
  by_cases hi : i < n
  · rw [fromL_get _ _ _ _ _ hi]
    by_cases h : m = i
    · subst h
      simp [fromB, hi]
    · rw [List.getElem?_set_ne h]
      simp only [List.getElem?_replicate, hi, if_true]
      have h1 : ¬ i = m := fun e => h e.symm
      have h2 : (decide (i < m + 1) && (decide (m < i) && below es m i)) = false := by
        by_cases h3 : i < m + 1
        · have : ¬ m < i := by omega
          simp [this]
        · simp [h3]
      simp [fromB, h1, h2]
  · rw [List.getElem?_eq_none (by rw [fromL_len]; omega), List.getElem?_eq_none (by simp; omega)]
theorem from_no {es : List Ent} {m j n : Nat} (h : below es m j = false) : fromL es m (j + 1) n = fromL es m j n := by
  unfold fromL
  apply List.map_congr_left
  intro i _
  unfold fromB
  by_cases e : i = j
  · subst e
    simp [h]
  · have : (decide (i < j + 1)) = decide (i < j) := by rw [Bool.eq_iff_iff]; simp; omega
    rw [this]
theorem from_yes {es : List Ent} {m j n : Nat} (hm : m < j) (hj : j < n) (h : below es m j = true) : fromL es m (j + 1) n = (fromL es m j n).set j true := by
  apply List.ext_getElem?
  intro i
  by_cases hi : i < n
  · rw [fromL_get _ _ _ _ _ hi]
    by_cases e : j = i
    · subst e
      rw [List.getElem?_set_self (by rw [fromL_len]; exact hi)]
      simp [fromB, h, hm]
    · rw [List.getElem?_set_ne e, fromL_get _ _ _ _ _ hi]
      unfold fromB
      have : (decide (i < j + 1)) = decide (i < j) := by rw [Bool.eq_iff_iff]; simp; omega
      rw [this]
  · rw [List.getElem?_eq_none (by rw [fromL_len]; omega), List.getElem?_eq_none (by rw [List.length_set, fromL_len]; omega)]
theorem from_read {es : List Ent} {m j i : Nat} (hv : dValid es = true) (hm : m < j) (hj : j < es.length) (hg : (es.getD j E0).g = false) (hp : (es.getD j E0).p = (i : Int)) : fromB es m j i = below es m j := by
  have hpar := dValid_par hv (i := (j : Int)) (by omega) (by omega)
  rw [below_eq (by omega) (dValid_up hv) (by omega) (by omega), entAt_nat, hg, hp]
  rw [entAt_nat, hp] at hpar
  have h1 : i < j := by omega
  have h2 : (decide (i = m)) = ((i : Int) == (m : Int)) := by rw [Bool.eq_iff_iff]; simp; omega
  have h3 : (decide (m < i)) = decide ((m : Int) < (i : Int)) := by rw [Bool.eq_iff_iff]; simp
  simp [fromB, h1, h2]
theorem below_root {es : List Ent} {m j : Nat} (hv : dValid es = true) (hj : j < es.length) (hp : (es.getD j E0).p < 0) : below es m j = false := by
  rw [below_eq (by omega) (dValid_up hv) (by omega) (by omega), entAt_nat]
  have h1 : ((es.getD j E0).p == (m : Int)) = false := by rw [beq_eq_false_iff_ne]; omega
  have h2 : ¬ (m : Int) < (es.getD j E0).p := by omega
  simp only [h1, h2, decide_false, Bool.false_and, Bool.or_false, Bool.and_false]

theorem bool_info : (Try.prog.info? 4).map (fun i => (i.zero, i.size, i.bytes)) = some (some (.bool false), 1, 1) := by kernel_rfl
theorem made_one (z : Value) (m : Nat) : (madeCells #[z] (m * 1)).toList = List.replicate m z := by
  apply List.ext_getElem?
  intro i
  unfold madeCells
  rw [Nat.mul_one, Array.toList_map, Array.toList_range, List.getElem?_map, List.getElem?_replicate]
  by_cases hi : i < m
  · rw [List.getElem?_range hi, if_pos hi]
    simp [Nat.mod_one]
  · rw [if_neg hi, List.getElem?_eq_none (by simp; omega)]
    rfl
theorem make_bools (m : Nat) (hm : m ≤ 2000000) : ∃ cs : Array Value, cs.toList = List.replicate m (.bool false) ∧
    ∀ w : World, (Instr.makeSlice 76 (.int .i64 (m : Int)) (.int .i64 (m : Int))).run Try.prog w = .ok (.slice (some ⟨w.heap.size, 0, none⟩) m m) (w.alloc (.cells cs 4)) := by
  obtain ⟨i0, hi, hz, hs, hb⟩ := info_parts bool_info
  have h7 : (i0.bytes : Int) * (m : Int) ≤ 128000000 := by rw [hb]; omega
  refine ⟨_, made_one (.bool false) m, fun w => ?_⟩
  have hr := run_make (P := Try.prog) w 76 4 i0 (.bool false) Try.underlying76 hi hz .i64 .i64 m m (by omega) (by omega) (by omega) (by omega)
  simp only [Int.toNat_natCast, hs] at hr
  exact hr

theorem CAt.set {w : World} {c i : Nat} {T : TypeId} {vs : List Value} (h : CAt w c T vs) (v : Value) : CAt (w.setCell ⟨c, i, none⟩ v) c T (vs.set i v) := by
  have := heap_setCell_same w c i _ T v h
  unfold CAt
  rw [this]
  congr 2
  simp
theorem CAt.grown {w w' : World} {c : Nat} {T : TypeId} {vs : List Value} {r : Option Nat} (h : CAt w c T vs) (hg : w.grownBy w' r) (hr : r ≠ some c) : CAt w' c T vs := (hg.block c h.lt (fun e => hr e.symm)).trans h
theorem EntK.setFar {B n c b1 g b i : Nat} {w0 w : World} {es : List Ent} (h : EntK B w0 (some ⟨g, 0, none⟩) n c b1 es w) (hg : g < B) (hb : B ≤ b) (v : Value) : EntK B w0 (some ⟨g, 0, none⟩) n c b1 es (w.setCell ⟨b, i, none⟩ v) :=
  ⟨h.1.setFar (fun g' e => by injection e with e; injection e with e; omega) v, h.2.1.setCell hb v, by simpa [World.setCell] using h.2.2⟩
theorem OwnI.setFar {w : World} {base n c b i : Nat} {A : Option Addr} {xs : List Int} (h : OwnI w base A n c xs) (hb : b < base) (v : Value) : OwnI (w.setCell ⟨b, i, none⟩ v) base A n c xs := h.setOther hb v

theorem news_one {w : World} {v : Value} {T : TypeId} {b : Nat} (hb : b = w.heap.size) : ∀ j u, [v][j]? = some u → (w.alloc (.cells #[v] T)).cell? ((⟨b, 0, none⟩ : Addr).add j) = some u := by
  subst hb
  intro j u hj
  match j, hj with
  | 0, hj =>
    simp at hj
    subst hj
    rw [Go.WideShapes.add_plain, cell_of_row _ _ _ _ _ (0, 0) (heap_alloc_new w _)]
    rfl

/-- What Descendants answers, over a row with whatever behind it. -/
def GivesIO (l : List Int) (w : World) (e : Ending) (w' : World) : Prop := ∃ (A : Option Addr) (c : Nat), e = .returned (.slice A l.length c) ∧ IntO w' w.heap.size A l.length c l ∧ Below w.heap.size w w'
theorem GivesI.io {l : List Int} {w w' : World} {e : Ending} (h : GivesI l w e w') : GivesIO l w e w' := by
  obtain ⟨A, c, h1, h2, h3⟩ := h
  exact ⟨A, c, h1, .of_own h2, h3⟩

set_option maxHeartbeats 8000000 in
theorem impl_descendants (A : Option Addr) (n c b1 : Nat) (es : List Ent) (m : Nat) (w : World) (h : EntO w b1 A n c es) (hn : n ≤ 2000000) (hl : liveB es m = true) :
    Calls Try.prog 57 #[.slice A n c, .int .i64 m] w (GivesIO (desc es m) w) := by
  have hlen := h.1
  obtain ⟨hv, ⟨m0, m1⟩, hg⟩ := liveB_iff.1 hl
  have hn30 := dValid_len hv
  obtain ⟨g, rfl, -, hgl, -⟩ := h.at_ (by omega)
  obtain ⟨cs, hcs, hmk⟩ := make_bools n hn
  have hmn : m < n := by omega
  have hcsz : cs.toList[m]? = some (.bool false) := by rw [hcs]; simp [hmn]
  have hC2 : CAt (w.alloc (.cells (cs.setIfInBounds m (.bool true)) 4)) w.heap.size 4 ((fromL es m (m + 1) n).map Value.bool) := by
    have e : (fromL es m (m + 1) n).map Value.bool = (cs.setIfInBounds m (.bool true)).toList := by
      rw [from_start _ _ _ hmn, List.map_set, List.map_replicate, Array.toList_setIfInBounds, hcs]
    rw [e]
    unfold CAt
    rw [heap_alloc_new]
  have hK2 : EntK w.heap.size w (some ⟨g, 0, none⟩) n c b1 es (w.alloc (.cells (cs.setIfInBounds m (.bool true)) 4)) := EntK.alloc ⟨h, Below.refl _ _, Nat.le_refl _⟩ _
  obtain ⟨i0, hi, hz0, hz1, hz2⟩ := info_parts int_info
  have HI0 := Lib.hid (And.intro hi (And.intro hz0 (And.intro hz1 hz2)))
  have HC2 := Lib.hid hC2
  have HK2 := Lib.hid hK2
  have HLEN := Lib.hid hlen
  have HV := Lib.hid hv
  have c0 : (w.alloc (.cells cs 4)).cell? ⟨w.heap.size, m, none⟩ = some (.bool false) := by rw [cell_of_row _ _ m cs _ (0, 0) (heap_alloc_new w _), ← hcsz]; simp
  have f0 := fun i => frozen_of_row (w.alloc (.cells cs 4)) w.heap.size i cs _ (heap_alloc_new w _)
  have hm' : (m : Int) < (n : Int) := by omega
  have hm0' : (0 : Int) ≤ (m : Int) := by omega
  have hn30' : n ≤ 30 := by omega
  clear hi hz0 hz1 hz2 h m0 m1 hg hl hlen hC2 hK2 hcs hcsz hn30 hv
  go_enter Try.func57, Try.ntmps57
  go_wp2_with fail
  clear c0 f0 hmk
  go_loopw [6, 7] (fun ov i wr => ∃ (j : Nat) (D : Option Addr) (d : Nat), m < j ∧ j ≤ n ∧ i = .int .i64 j ∧ ov = .slice D (descTo es m j).length d ∧ OwnI wr (w.heap.size + 1) D (descTo es m j).length d (descTo es m j) ∧ CAt wr w.heap.size 4 ((fromL es m j n).map Value.bool) ∧ EntK w.heap.size w (some ⟨g, 0, none⟩) n c b1 es wr) (fun _ i _ => n - (intOf i).toNat)
  case atStart =>
    have e0 : descTo es m (m + 1) = [] := descTo_small (by omega)
    refine ⟨m + 1, none, 0, by omega, by omega, by first | rfl | go_num, by rw [e0]; rfl, by rw [e0]; exact OwnI.nil _ _, HC2.out, HK2.out⟩
  case round =>
    clear HK2 HC2
    obtain ⟨j, D, d, hmj, hj, rfl, rfl, hO, hC, hK⟩ := hrel
    obtain ⟨hi, hz0, hz1, hz2⟩ := HI0.out
    by_cases hlt : j < n
    · have hlt' : (j : Int) < (n : Int) := by omega
      have hj0 : (0 : Int) ≤ (j : Int) := by omega
      have hD := descTo_len es m j
      have HS : Hid (descTo es m (j + 1) = descTo es m j ++ if below es m j then [(j : Int)] else []) := by
        show _ = _
        rw [descTo_succ]
        simp [hmj]
      obtain ⟨k, o, r, b, p, q, hx⟩ : ∃ k o r b p q, es.getD j E0 = ⟨k, o, r, b, p, q⟩ := ⟨_, _, _, _, _, _, rfl⟩
      obtain ⟨a0, a1, a2, a3, a4, a5⟩ := hK.cells hlt hx
      have hpar : -1 ≤ p ∧ p < (j : Int) := by
        have := dValid_par HV.out (i := (j : Int)) (by omega) (by have := HLEN.out; omega)
        rwa [entAt_nat, hx] at this
      have HOO := Lib.hid hO
      have HKK := Lib.hid hK
      have HCC := Lib.hid hC
      have HX := Lib.hid hx
      have HL := Lib.hid (show j < es.length by have := HLEN.out; omega)
      clear hO hK hC hx
      generalize hds : descTo es m j = ds at *
      generalize hdl : ds.length = s at *
      have HQ := Lib.hid hdl
      clear hds hdl
      cases q
      · by_cases hp : 0 ≤ p
        · obtain ⟨i, rfl⟩ := Int.eq_ofNat_of_zero_le hp
          have hread := from_read HV.out hmj HL.out (by rw [HX.out]) (by rw [HX.out])
          have hij : i < n := by omega
          have hij' : (i : Int) < (n : Int) := by omega
          have cF : wr.cell? ⟨w.heap.size, i, none⟩ = some (.bool (below es m j)) := by
            rw [HCC.out.cell, List.getElem?_map, fromL_get _ _ _ _ _ hij, hread]
            rfl
          have fF := HCC.out.free
          clear hread
          cases hbel : below es m j
          · rw [hbel] at cF
            go_wp2_with fail
            go_roundw
            case rel =>
              have e1 : descTo es m (j + 1) = ds := by rw [HS.out, hbel]; simp
              exact ⟨j + 1, D, d, by omega, by omega, by go_num, by rw [e1, HQ.out], by rw [e1, HQ.out]; exact HOO.out, by rw [from_no hbel]; exact HCC.out, HKK.out⟩
            case measure => simp [intOf]; omega
          · rw [hbel] at cF
            have e1 : descTo es m (j + 1) = ds ++ [(j : Int)] := by rw [HS.out, hbel]; simp
            have HE1 := Lib.hid e1
            have hCs := HCC.out.set (i := j) (.bool true)
            rw [← List.map_set, ← from_yes hmj hlt hbel] at hCs
            have hKs := HKK.out.setFar (i := j) hgl (Nat.le_refl _) (.bool true)
            have hOs := HOO.out.setFar (b := w.heap.size) (i := j) (by omega) (.bool true)
            have cJ : ∃ u, wr.cell? ⟨w.heap.size, j, none⟩ = some u := by
              rw [HCC.out.cell, List.getElem?_map, fromL_get _ _ _ _ _ hlt]
              exact ⟨_, rfl⟩
            obtain ⟨u, cJ⟩ := cJ
            have hKA := hKs.alloc (.cells #[.int .i64 j] 3)
            have hCA := hCs.alloc (.cells #[.int .i64 j] 3)
            have HKA := Lib.hid hKA
            have HCA := Lib.hid hCA
            have ho := hOs
            unfold OwnI at ho
            have hsz := HKK.out.2.2
            have hszl := HCC.out.lt
            clear hKA hCA hCs hKs hOs e1 hbel
            go_wp2_with (at_builtin; refine wpList_append_own _ rfl _ _ 31 rfl (w.heap.size + 1) 3 i0 (.int .i64 0) 1 8 Try.underlying31 hi hz0 hz1 hz2 rfl (by decide) _ _ _ rfl (World.ownsRow.alloc ho _) ⟨wr.heap.size, 0, none⟩ 1 1 [.int .i64 j] rfl rfl ?c1 ?c2 ?c3 ?c4 ?c5 ?_)
            case c1 => exact news_one (by simp [World.setCell])
            case c2 => intro u hu; simp at hu; subst hu; rfl
            case c3 => simp only [maxLen]; omega
            case c4 => omega
            case c5 => simp; omega
            · intro v' w4 hown' hgrow _
              obtain ⟨D', d', rfl⟩ := own_form_i hown'
              have hrow := World.ownsRow.lt ho
              have hK4 := HKA.out.grown hgrow hgl (fun x e => by have := (hrow x e).1; omega)
              have hC4 := HCA.out.grown hgrow (fun e => by have := (hrow _ e).1; omega)
              have hO4 : OwnI w4 (w.heap.size + 1) D' (s + 1) d' (ds ++ [(j : Int)]) := by
                unfold OwnI
                rw [List.map_append]
                exact hown'
              have HK4 := Lib.hid hK4
              have HC4 := Lib.hid hC4
              have HO4 := Lib.hid hO4
              clear hown' hgrow hrow hK4 hO4 hC4 ho HKA HCA
              go_wp2_with fail
              go_roundw
              case rel => exact ⟨j + 1, D', d', by omega, by omega, by go_num, by rw [HE1.out, List.length_append, HQ.out]; rfl, by rw [HE1.out, List.length_append, HQ.out]; exact HO4.out, HC4.out, HK4.out⟩
              case measure => simp [intOf]; omega
        · have hpd : decide (0 ≤ p) = false := by simp; omega
          have hbel : below es m j = false := below_root HV.out HL.out (by rw [HX.out]; show p < 0; omega)
          have e1 : descTo es m (j + 1) = ds := by rw [HS.out, hbel]; simp
          have HE1 := Lib.hid e1
          have HBE := Lib.hid hbel
          clear e1 hbel
          go_wp2_with fail
          go_roundw
          case rel =>
            exact ⟨j + 1, D, d, by omega, by omega, by go_num, by rw [HE1.out, HQ.out], by rw [HE1.out, HQ.out]; exact HOO.out, by rw [from_no HBE.out]; exact HCC.out, HKK.out⟩
          case measure => simp [intOf]; omega
      · have hbel : below es m j = false := below_gone HV.out (by omega) HL.out (by rw [HX.out])
        have e1 : descTo es m (j + 1) = ds := by rw [HS.out, hbel]; simp
        have HE1 := Lib.hid e1
        have HBE := Lib.hid hbel
        clear e1 hbel
        go_wp2_with fail
        go_roundw
        case rel =>
          exact ⟨j + 1, D, d, by omega, by omega, by go_num, by rw [HE1.out, HQ.out], by rw [HE1.out, HQ.out]; exact HOO.out, by rw [from_no HBE.out]; exact HCC.out, HKK.out⟩
        case measure => simp [intOf]; omega
    · have hge : ¬ (j : Int) < (n : Int) := by omega
      have hjn : j = n := by omega
      subst hjn
      have hde : descTo es m j = desc es m := by unfold desc; rw [HLEN.out]
      rw [hde] at hO ⊢
      have hO1 := IntO.of_own hO
      have HOO := Lib.hid hO1
      have HKK := Lib.hid hK
      have hcc := hO1.2.1
      clear hO hK hO1 hC hde
      go_wp2_with fail
      refine (clip_ints D _ d wr hcc).mono ?_
      rintro e w2 ⟨rfl, rfl⟩
      go_wp2_with fail
      go_ret
      exact ⟨D, _, rfl, (HOO.out.clip).more (by omega), HKK.out.2.1⟩

/-- The program's Descendants. -/
theorem impl_Descendants (A : Option Addr) (n c b1 : Nat) (es : List Ent) (m : Int) (w : World) (h : EntO w b1 A n c es) (hn : n ≤ 2000000) :
    Calls Try.prog 27 #[.slice A n c, .int .i64 m] w (GivesIO (descL es m) w) := by
  have hL := impl_alive A n c b1 es m w h hn
  unfold descL
  cases hl : liveB es m
  · rw [hl] at hL
    clear h
    go_enter Try.func27, Try.ntmps27
    go_wp2_with fail
    refine hL.mono ?_
    rintro e w1 ⟨rfl, hb1⟩
    have HB := Lib.hid hb1
    clear hb1 hL
    go_wp2_with fail
    go_ret
    exact ⟨none, 0, rfl, RowO.nil _ _ _ _ _ _ (by decide), HB.out⟩
  · rw [hl] at hL
    obtain ⟨t, rfl⟩ := Int.eq_ofNat_of_zero_le (liveB_iff.1 hl).2.1.1
    have H := Lib.hid h
    clear h
    go_enter Try.func27, Try.ntmps27
    go_wp2_with fail
    refine hL.mono ?_
    rintro e w1 ⟨rfl, hb1⟩
    have HB := Lib.hid hb1
    have hd := impl_descendants A n c b1 es t w1 (H.out.below hb1) hn hl
    clear hb1 hL
    go_wp2_with fail
    refine hd.mono ?_
    rintro e w2 ⟨D, d, rfl, hO, hB⟩
    have HO := Lib.hid hO
    have HB2 := Lib.hid (below_next HB.out hB)
    have HS := Lib.hid HB.out.size
    clear hO hB hd HB
    go_wp2_with fail
    go_ret
    exact ⟨D, d, rfl, HO.out.more HS.out, HB2.out⟩

theorem spec_Descendants (A : Option Addr) (n c b1 : Nat) (es : List Ent) (m : Int) (w : World) (h : EntO w b1 A n c es) (hn : n ≤ 2000000) :
    Calls Try.prog 26 #[.slice A n c, .int .i64 m] w (GivesIO (descL es m) w) := by
  unfold descL
  cases hl : liveB es m
  · exact (spec_Descendants_no A n c b1 es m w h hn hl).mono fun _ _ h => h.io
  · obtain ⟨t, rfl⟩ := Int.eq_ofNat_of_zero_le (liveB_iff.1 hl).2.1.1
    exact (spec_Descendants_yes A n c b1 es t w h hn hl).mono fun _ _ h => h.io

end Go.Proofs.Ytpglfbjjmnaojaa
