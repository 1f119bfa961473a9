/- The law FnRemoveCap: whatever its arguments, the call returns true, and every argument reads afterwards as it read before. No condition. -/
import Derived.Test.YtpglfbjjmnaojaaTreeSame
namespace Go.Proofs.Ytpglfbjjmnaojaa
open Go.ChangeShapes Go.WideShapes Go.ChangeAt Go.RowKit
open Go.ChangeMaps (open_string shut_string)
set_option linter.unusedVariables false

theorem filt_step {L : List Int} {t : Nat} {m v : Int} (ht : t < L.length) (hv : L.getD t 0 = v) : (L.take (t + 1)).filter (fun i => !decide (i = m)) = (L.take t).filter (fun i => !decide (i = m)) ++ (if v = m then [] else [v]) := by
  rw [List.take_succ_eq_append_getElem ht, List.filter_append]
  have e : L[t] = v := by rw [← hv]; simp [List.getD, ht]
  rw [e]
  by_cases h : v = m <;> simp [h]
/-- The tree, the one with an entry removed, and a list of numbers. -/
def RemS (B : Nat) (w0 : World) (g k c b1 : Nat) (es : List Ent) (gX x bx : Nat) (xs : List Ent) (D : Option Addr) (q d bd : Nat) (L : List Int) (wr : World) : Prop := EntK B w0 (some ⟨g, 0, none⟩) k c b1 es wr ∧ EntO wr bx (some ⟨gX, 0, none⟩) k x xs ∧ IntO wr bd D q d L
section
variable {B : Nat} {w0 w w1 : World} {g k c b1 : Nat} {es : List Ent} {gX x bx : Nat} {xs : List Ent} {D : Option Addr} {q d bd : Nat} {L : List Int} {R : Prop}
theorem RemS.drew (h : RemS B w0 g k c b1 es gX x bx xs D q d bd L w) : RemS B w0 g k c b1 es gX x bx xs D q d bd L w.drew := ⟨h.1.drew, h.2.1, h.2.2⟩
theorem RemS.step (hb : Below w.heap.size w w1) (h : RemS B w0 g k c b1 es gX x bx xs D q d bd L w ∧ R) : RemS B w0 g k c b1 es gX x bx xs D q d bd L w1 := ⟨EntK.step hb ⟨h.1.1, trivial⟩, h.1.2.1.below hb, h.1.2.2.below hb⟩
theorem RemS.cells {j : Nat} {k1 o1 r1 b1' p1 p9 : Int} (hj : j < k) (he : es.getD j E0 = ⟨k1, o1, r1, b1', p1, false⟩) (hx : xs.getD j E0 = ⟨k1, o1, r1, b1', p9, false⟩) (h : RemS B w0 g k c b1 es gX x bx xs D q d bd L w) :
    RemS B w0 g k c b1 es gX x bx xs D q d bd L w ∧ w.cell? ⟨gX, j * 6, none⟩ = some (.int .i64 k1) ∧ w.cell? ⟨gX, j * 6 + 1, none⟩ = some (.int .i64 o1) ∧ w.cell? ⟨gX, j * 6 + 2, none⟩ = some (.int .i64 r1) ∧ w.cell? ⟨gX, j * 6 + 3, none⟩ = some (.int .i64 b1') ∧ w.cell? ⟨gX, j * 6 + 4, none⟩ = some (.int .i64 p9) ∧ w.cell? ⟨gX, j * 6 + 5, none⟩ = some (.bool false) ∧ w.cell? ⟨g, j * 6, none⟩ = some (.int .i64 k1) ∧ w.cell? ⟨g, j * 6 + 1, none⟩ = some (.int .i64 o1) ∧ w.cell? ⟨g, j * 6 + 2, none⟩ = some (.int .i64 r1) ∧ w.cell? ⟨g, j * 6 + 3, none⟩ = some (.int .i64 b1') ∧ w.cell? ⟨g, j * 6 + 4, none⟩ = some (.int .i64 p1) ∧ w.cell? ⟨g, j * 6 + 5, none⟩ = some (.bool false) := by
  obtain ⟨y0, y1, y2, y3, y4, y5⟩ := h.1.cells hj he
  obtain ⟨a, ha, -, -, hc, -⟩ := h.2.1.at_ (by omega)
  injection ha with ha
  injection ha with ha
  subst ha
  have hc := hc j hj
  rw [hx] at hc
  obtain ⟨x0, x1, x2, x3, x4, x5⟩ := hc
  exact ⟨h, x0, x1, x2, x3, x4, x5, y0, y1, y2, y3, y4, y5⟩
end
theorem IntO.grownRow {w w' : World} {base n c : Nat} {A : Option Addr} {xs : List Int} (h : IntO w base A n c xs) {r : Option Nat} (hg : w.grownBy w' r) (hr : ∀ y, rowOf A n = some y → r ≠ some y) : IntO w' base A n c xs :=
  RowO.keepAt h fun g hn hA _ hlt => hg.block g hlt (fun e => hr g (by rw [hA]; exact rowOf_pos hn) e.symm)
/-- What the inner loop keeps. -/
def FiltR (B : Nat) (w0 : World) (g k c b1 : Nat) (es : List Ent) (D : Option Addr) (q d bd : Nat) (L : List Int) (m : Int) (wv tv : Value) (wr : World) : Prop := ∃ (t : Nat) (V : Option Addr) (nv cv : Nat) (vs : List Int), t ≤ q ∧ tv = .int .i64 t ∧ wv = .slice V nv cv ∧ vs = (L.take t).filter (fun i => !decide (i = m)) ∧ nv = vs.length ∧ nv ≤ t ∧
  OwnI wr B V nv cv vs ∧ (∀ y, rowOf D q = some y → (Value.slice V nv cv).ownBlock ≠ some y) ∧ EntK B w0 (some ⟨g, 0, none⟩) k c b1 es wr ∧ IntO wr bd D q d L

set_option maxRecDepth 100000 in
set_option maxHeartbeats 16000000 in
theorem walk_FnRemoveCap (v0 : Value) (w : World) (w0 : BytesIn w v0) :
    Calls Try.prog 14 #[v0] w fun e w' => e = .returned (.bool true) ∧ Below w.heap.size w w' := by
  have hd := drawRemoveCap v0 w w0
  obtain ⟨Ac, nc, capc, bs, rfl, hnc, hcc, _⟩ := w0
  by_cases h20 : (1048576 : Int) < (nc : Int)
  · go_enter Try.func14, Try.ntmps14
    go_wp2_with fail
    go_ret
    exact ⟨rfl, Below.refl _ _⟩
  · go_enter Try.func14, Try.ntmps14
    go_wp2_with fail
    refine hd.mono ?_
    rintro e w1 ⟨A, k, c, es, n, rfl, hE, hk, hB⟩
    have hK1 := EntK.of hE hB hB.size
    have hlen := hE.1
    clear hE hB hd
    go_wp2_with fail
    refine (impl_RemoveCap A k c _ es n _ hK1.1 (by omega)).mono ?_
    rintro e w2 ⟨X, x, rfl, hX2, hb2⟩
    have hK2 := EntK.step hb2 ⟨hK1, trivial⟩
    clear hK1 hb2
    have hLle := remL_len es n
    go_wp2_with fail
    refine (spec_RemoveCap_e A k c _ es n _ hK2.1 (by omega)).mono ?_
    rintro e w3 ⟨Y, y, rfl, hY3, hb3⟩
    have hK3 := EntK.step hb3 ⟨hK2, trivial⟩
    have hX3 := hX2.below hb3
    clear hK2 hX2 hb3
    go_wp2_with fail
    refine (laws_sameTree X Y (remL es n).length x y _ _ (remL es n) _ hX3 hY3 (by omega)).mono ?_
    rintro e w4 ⟨rfl, hb4⟩
    have hK4 := EntK.step hb4 ⟨hK3, trivial⟩
    have hX4 := hX3.below hb4
    clear hK3 hX3 hY3 hb4
    cases hl : liveB es n
    · rw [remL_dead hl] at *
      go_wp2_with fail
      refine (laws_alive _).mono ?_
      rintro e wz ⟨rfl, hbz⟩
      go_wp2_with fail
      go_ret
      exact ⟨rfl, below_next hK4.2.1 hbz⟩
    · rw [remL_live hl] at *
      obtain ⟨hv, ⟨n0, n1⟩, hgn⟩ := liveB_iff.1 hl
      obtain ⟨m, rfl⟩ := Int.eq_ofNat_of_zero_le n0
      have hmk : m < k := by omega
      have hmk' : (m : Int) < (k : Int) := by omega
      have hm0 : (0 : Int) ≤ (m : Int) := by omega
      have hXl : (removeE es m).length = k := by rw [removeE_len]; exact hlen
      rw [hXl] at hX4 hLle ⊢
      clear hLle n0 n1
      have hkne : ((k : Int) == 0) = false := by rw [beq_eq_false_iff_ne]; omega

      have HV := Lib.hid hv
      have HL := Lib.hid hl
      have HG := Lib.hid hgn
      have HLEN := Lib.hid hlen
      have hz := impl_DerivationValid X k x w1.heap.size (removeE es m)
      rw [dValid_remove hl] at hz
      have HZZ := Lib.hid hz
      obtain ⟨gA, rfl, -, hgA, -, -⟩ := hK4.1.at_ (by omega)
      obtain ⟨gX, rfl, -, hgX, hcX, -⟩ := hX4.at_ (by omega)
      obtain ⟨d0, d1, d2, d3, d4, d5⟩ := hcX m hmk
      have hgm : ((removeE es m).getD m E0).g = true := by
        have := remove_gone (es := es) (n := (m : Int)) hm0 (by omega)
        rwa [entAt_nat] at this
      rw [hgm] at d5
      have HD5 := Lib.hid d5
      have HK := Lib.hid hK4
      have HX := Lib.hid hX4
      have HK0 := Lib.hid (show EntK w4.heap.size w4 (some ⟨gA, 0, none⟩) k c w.heap.size es w4 from ⟨hK4.1, Below.refl _ _, Nat.le_refl _⟩)
      clear hcX hK4 hX4 hz hv hl hgn hlen hXl hgm d0 d1 d2 d3 d4 d5
      go_wp2_with fail
      go_loopw [6] (fun i wr => ∃ j : Nat, j ≤ k ∧ i = .int .i64 j ∧ EntK w4.heap.size w4 (some ⟨gA, 0, none⟩) k c w.heap.size es wr) (fun i _ => k - (intOf i).toNat)
      case atStart => exact ⟨0, Nat.zero_le _, rfl, HK0.out⟩
      case round =>
        clear HK0
        obtain ⟨j, hj, rfl, hKr⟩ := hrel
        obtain ⟨W0, rfl⟩ : ∃ W0, W0 = wr := ⟨_, rfl⟩
        by_cases hlt : j < k
        · have hlt' : (j : Int) < (k : Int) := by omega
          have hj0 : (0 : Int) ≤ (j : Int) := by omega
          obtain ⟨k1, o1, r1, b1, p1, q1, hx⟩ : ∃ k o r b p q, es.getD j E0 = ⟨k, o, r, b, p, q⟩ := ⟨_, _, _, _, _, _, rfl⟩
          obtain ⟨a0, a1, a2, a3, a4, a5⟩ := hKr.cells hlt hx
          by_cases hjm : j = m
          · subst hjm
            have HKr := Lib.hid hKr
            clear hKr hx
            go_wp2_with fail
            go_roundw
            case rel => exact ⟨j + 1, by omega, by go_num, HKr.out⟩
            case measure => simp [intOf]; omega
          · have hjmb : ((j : Int) == (m : Int)) = false := by rw [beq_eq_false_iff_ne]; omega
            have hjmn : (j == m) = false := by rw [beq_eq_false_iff_ne]; omega
            cases q1
            · have hlj : liveB es j = true := liveB_iff.2 ⟨HV.out, ⟨hj0, by have := HLEN.out; omega⟩, by rw [entAt_nat, hx]⟩
              have hjl : (j : Int) < es.length := by have := HLEN.out; omega
              obtain ⟨h1, h2, h3, h4⟩ := remove_held (es := es) (n := (m : Int)) hj0 hjl
              have h5 := remove_keeps (es := es) (n := (m : Int)) hj0 hjl (by omega) (by rw [entAt_nat, hx])
              obtain ⟨p9, hxx⟩ : ∃ p9, (removeE es m).getD j E0 = ⟨k1, o1, r1, b1, p9, false⟩ := by
                rw [entAt_nat, entAt_nat, hx] at h1 h2 h3 h4
                rw [entAt_nat] at h5
                exact ⟨((removeE es m).getD j E0).p, by
                  generalize (removeE es m).getD j E0 = E at *
                  obtain ⟨e1, e2, e3, e4, e5, e6⟩ := E
                  simp only at h1 h2 h3 h4 h5 ⊢
                  rw [h1, h2, h3, h4, h5]⟩
              have hlx : liveB (removeE es m) j = true := liveB_iff.2 ⟨dValid_remove HL.out, ⟨hj0, by rw [removeE_len]; exact hjl⟩, by rw [entAt_nat, hxx]⟩
              have hdr := desc_remove (k := (j : Int)) HL.out hj0 (by omega)
              have hdx := impl_Descendants (some ⟨gX, 0, none⟩) k x w1.heap.size (removeE es m) j
              rw [descL_live hlx, hdr] at hdx
              have hdy := impl_Descendants (some ⟨gA, 0, none⟩) k c w.heap.size es j _ (hKr.alloc (.cells #[] 3)).1 (by omega)
              rw [descL_live hlj] at hdy
              have hO0 : OwnI (W0.alloc (.cells #[] 3)) W0.heap.size (some ⟨W0.heap.size, 0, none⟩) 0 0 [] := World.ownsRow_lit (base := W0.heap.size) (e := 3) (size := 1) W0 #[] 0 (by simp) (by decide) rfl
              have hKA : EntK W0.heap.size W0 (some ⟨gA, 0, none⟩) k c w.heap.size es (W0.alloc (.cells #[] 3)) := EntK.alloc ⟨hKr.1, Below.refl _ _, Nat.le_refl _⟩ _
              have hdle := desc_len_le es j
              have hgAr := Nat.lt_of_lt_of_le hgA hKr.2.2
              have HDX := Lib.hid hdx
              have HXX := Lib.hid hxx
              have HXH := Lib.hid hx
              have HKr := Lib.hid hKr
              have HO0 := Lib.hid hO0
              have HKA := Lib.hid hKA
              have hel := HLEN.out
              obtain ⟨i0, hi, hz0, hz1, hz2⟩ := info_parts int_info
              have HI0 := Lib.hid (And.intro hi (And.intro hz0 (And.intro hz1 hz2)))
              clear hdx hxx hlx hdr hlj h1 h2 h3 h4 h5 hx hKr hO0 hKA hjl hi hz0 hz1 hz2
              go_wp2_with fail
              refine hdy.mono ?_
              rintro e w5 ⟨D, d, rfl, hI5, hb5⟩
              have hO5 := HO0.out.below hb5
              have hK5 := EntK.step hb5 ⟨HKA.out, trivial⟩
              have hDb := hI5.row
              generalize hLj : desc es j = L at *
              generalize hq : L.length = q at *
              have HFR := Lib.hid (show FiltR W0.heap.size W0 gA k c w.heap.size es D q d (W0.alloc (.cells #[] 3)).heap.size L m (.slice (some ⟨W0.heap.size, 0, none⟩) 0 0) (.int .i64 0) w5 from
                ⟨0, _, 0, 0, [], Nat.zero_le _, rfl, rfl, rfl, rfl, Nat.le_refl _, hO5, fun y e => by
                  have := (hDb y e).1
                  simp [Value.ownBlock]
                  simp at this
                  omega, hK5, hI5⟩)
              have HQ := Lib.hid hq
              have hq60 : q ≤ 60 := by omega
              clear hdy hb5 hO5 hK5 hI5 hDb hLj hq HO0 HKA a0 a1 a2 a3 a4 a5
              go_wp2_with fail
              go_loopw [7, 9] (fun wv tv wx => FiltR W0.heap.size W0 gA k c w.heap.size es D q d (W0.alloc (.cells #[] 3)).heap.size L m wv tv wx) (fun _ tv _ => q - (intOf tv).toNat)
              case atStart => exact HFR.out
              case round =>
                clear HFR
                obtain ⟨t, V, nv, cv, vs, ht, rfl, rfl, hvs, hnv, hnt, hO, hne, hK, hI⟩ := hrel
                by_cases htq : t < q
                · have htq' : (t : Int) < (q : Int) := by omega
                  have ht0 : (0 : Int) ≤ (t : Int) := by omega
                  obtain ⟨gD, rfl, -, hgD, hcD, -⟩ := hI.at_ (by omega)
                  have cD := hcD t htq
                  have hst := filt_step (L := L) (t := t) (m := (m : Int)) (v := L.getD t 0) (by rw [HQ.out]; exact htq) rfl
                  rw [← hvs] at hst
                  have HST := Lib.hid hst
                  have HK := Lib.hid hK
                  have HI := Lib.hid hI
                  have HO := Lib.hid hO
                  have HNE := Lib.hid hne
                  have HNV := Lib.hid hnv
                  clear hcD hst hK hI hO hne hvs hnv
                  generalize L.getD t 0 = vl at *
                  by_cases hvm : vl = m
                  · subst hvm
                    go_wp2_with fail
                    go_roundw
                    case rel => exact ⟨t + 1, V, nv, cv, vs, by omega, by go_num, rfl, by rw [HST.out]; simp, HNV.out, by omega, HO.out, HNE.out, HK.out, HI.out⟩
                    case measure => simp [intOf]; omega
                  · have hvb : (vl == (m : Int)) = false := by rw [beq_eq_false_iff_ne]; exact hvm
                    have hvn : (vl != (m : Int)) = true := by rw [bne, hvb]; rfl
                    have HVM := Lib.hid hvm
                    have hOA := HO.out.alloc (.cells #[.int .i64 vl] 3)
                    have hKA := HK.out.alloc (.cells #[.int .i64 vl] 3)
                    have hIA := RowO.alloc HI.out (.cells #[.int .i64 vl] 3)
                    have ho := hOA
                    unfold OwnI at ho
                    have hwx := HK.out.2.2
                    obtain ⟨hi, hz0, hz1, hz2⟩ := HI0.out
                    have HKA := Lib.hid hKA
                    have HIA := Lib.hid hIA
                    have HGD := Lib.hid (show gD < _ from Nat.lt_of_lt_of_le hgD (Nat.le_refl _))
                    clear hOA hKA hIA hvm
                    go_wp2_with (at_builtin; refine wpList_append_own_at _ rfl _ _ 31 rfl W0.heap.size 3 i0 (.int .i64 0) 1 8 Try.underlying31 hi hz0 hz1 hz2 rfl (by decide) _ _ _ rfl ho ⟨wr.heap.size, 0, none⟩ 1 1 [.int .i64 vl] rfl rfl ?c1 ?c2 ?c3 ?c4 ?c5 ?_)
                    case c1 => exact news_one rfl
                    case c2 => intro u hu; simp at hu; subst hu; rfl
                    case c3 => simp only [maxLen]; omega
                    case c4 => omega
                    case c5 => simp only [World.size_alloc]; omega
                    intro v' w6 hown' hgrow _ hat
                    have hrow := World.ownsRow.lt ho
                    obtain ⟨V', c', rfl⟩ := own_form_i hown'
                    have hK6 := HKA.out.grown hgrow hgAr (fun y e => by have := (hrow y e).1; omega)
                    have hI6 : IntO _ _ _ _ _ _ := IntO.grownRow HIA.out hgrow HNE.out
                    have hO6 : OwnI w6 W0.heap.size V' (nv + 1) c' (vs ++ [vl]) := by
                      unfold OwnI
                      rw [List.map_append]
                      exact hown'
                    have HNE6 := Lib.hid (show ∀ y, rowOf (some ⟨gD, 0, none⟩) q = some y → (Value.slice V' (nv + 1) c').ownBlock ≠ some y from fun y e => by
                      rcases hat with h | h
                      · rw [h]; exact HNE.out y e
                      · rw [h]
                        rw [rowOf_pos (by omega)] at e
                        injection e with e
                        subst e
                        have := HGD.out
                        simp
                        omega)
                    have HK6 := Lib.hid hK6
                    have HI6 := Lib.hid hI6
                    have HO6 := Lib.hid hO6
                    clear hown' hgrow hat hrow hK6 hI6 hO6 ho HKA HIA hi hz0 hz1 hz2
                    go_wp2_with fail
                    go_roundw
                    case rel => exact ⟨t + 1, V', nv + 1, c', vs ++ [vl], by omega, by go_num, rfl, by rw [HST.out, if_neg HVM.out], by rw [List.length_append, ← HNV.out]; rfl, by omega, HO6.out, HNE6.out, HK6.out, HI6.out⟩
                    case measure => simp [intOf]; omega
                · have htq' : ¬ (t : Int) < (q : Int) := by omega
                  have hvs2 : vs = L.filter fun i => !decide (i = (m : Int)) := by rw [hvs, List.take_of_length_le (by have := HQ.out; omega)]
                  clear hvs
                  subst hvs2
                  have hX := HX.out.below (HKr.out.2.1.trans (hK.2.1.mono HKr.out.2.2))
                  have hS : RemS W0.heap.size W0 gA k c w.heap.size es gX x w1.heap.size (removeE es m) V nv cv W0.heap.size (L.filter fun i => !decide (i = (m : Int))) _ := ⟨hK, hX, IntO.of_own hO⟩
                  have hdx := HDX.out
                  generalize (L.filter fun i => !decide (i = (m : Int))) = F at *
                  subst hnv
                  have hdx2 := fun (W : World) (R : Prop) (h : RemS W0.heap.size W0 gA k c w.heap.size es gX x w1.heap.size (removeE es m) V F.length cv W0.heap.size F W ∧ R) => hdx W h.1.2.1 (by omega)
                  have hsame := fun (W : World) (M : Option Addr) (md bM : Nat) (R : Prop) (h : RemS W0.heap.size W0 gA k c w.heap.size es gX x w1.heap.size (removeE es m) V F.length cv W0.heap.size F W ∧ R) (hM : IntO W bM M F.length md F) =>
                    laws_sameIntO M V F.length md cv _ _ F W hM h.1.2.2 (by omega)
                  have hc := (RemS.cells hlt HXH.out HXX.out hS).2
                  obtain ⟨x0, x1, x2, x3, x4, x5, y0, y1, y2, y3, y4, y5⟩ := hc
                  clear hO hne hK hI hX hdx
                  go_wp2_with fail
                  (first
                    | (go_region_held3 (fun w' => RemS W0.heap.size W0 gA k c w.heap.size es gX x w1.heap.size (removeE es m) V F.length cv W0.heap.size F w' ∧ w'.cell? ⟨gX, j * 6, none⟩ = some (.int .i64 k1) ∧ w'.cell? ⟨gX, j * 6 + 1, none⟩ = some (.int .i64 o1) ∧ w'.cell? ⟨gX, j * 6 + 2, none⟩ = some (.int .i64 r1) ∧ w'.cell? ⟨gX, j * 6 + 3, none⟩ = some (.int .i64 b1) ∧ w'.cell? ⟨gX, j * 6 + 4, none⟩ = some (.int .i64 p9) ∧ w'.cell? ⟨gX, j * 6 + 5, none⟩ = some (.bool false) ∧ w'.cell? ⟨gA, j * 6, none⟩ = some (.int .i64 k1) ∧ w'.cell? ⟨gA, j * 6 + 1, none⟩ = some (.int .i64 o1) ∧ w'.cell? ⟨gA, j * 6 + 2, none⟩ = some (.int .i64 r1) ∧ w'.cell? ⟨gA, j * 6 + 3, none⟩ = some (.int .i64 b1) ∧ w'.cell? ⟨gA, j * 6 + 4, none⟩ = some (.int .i64 p1) ∧ w'.cell? ⟨gA, j * 6 + 5, none⟩ = some (.bool false))
                        (first | exact RemS.cells hlt HXH.out HXX.out (RemS.drew hS) | exact RemS.cells hlt HXH.out HXX.out (RemS.step (by assumption) (by assumption)))
                        (first | (go_at_call 27; refine (hdx2 _ _ (by assumption)).mono ?_; rintro e w9 ⟨M, md, rfl, hM, hb9⟩) | (go_at_call 44; refine (hsame _ _ _ _ _ (by assumption) (by assumption)).mono ?_; rintro e w8 ⟨rfl, hb8⟩)))
                    | fail)
                  have hT : RemS W0.heap.size W0 gA k c w.heap.size es gX x w1.heap.size (removeE es m) V F.length cv W0.heap.size F w8 := And.left (by assumption)
                  have HT := Lib.hid hT
                  clear hT hS hsame hdx2 x0 x1 x2 x3 x4 x5 y0 y1 y2 y3 y4 y5
                  go_wp2_with fail
                  go_roundw
                  case rel => exact ⟨j + 1, by omega, by go_num, HT.out.1.1, HKr.out.2.1.trans (HT.out.1.2.1.mono HKr.out.2.2), Nat.le_trans HKr.out.2.2 HT.out.1.2.2⟩
                  case measure => simp [intOf]; omega
            · have HKr := Lib.hid hKr
              clear hKr hx
              go_wp2_with fail
              go_roundw
              case rel => exact ⟨j + 1, by omega, by go_num, HKr.out⟩
              case measure => simp [intOf]; omega
        · have hge : ¬ (j : Int) < (k : Int) := by omega
          have hX5 := HX.out.below hKr.2.1
          have d5' : W0.cell? ⟨gX, m * 6 + 5, none⟩ = some (.bool true) := (hKr.2.1.cell (p := ⟨gX, m * 6 + 5, none⟩) hgX).trans HD5.out
          have hzz := HZZ.out _ hX5 (by omega)
          have HKr := Lib.hid hKr
          clear hKr hX5
          go_wp2_with fail
          refine hzz.mono ?_
          rintro e w7 ⟨rfl, hb7⟩
          go_wp2_with fail
          go_ret
          exact ⟨rfl, below_next (HK.out.2.1.trans (HKr.out.2.1.mono HK.out.2.2)) hb7⟩

set_option maxRecDepth 100000 in
theorem lifted_FnRemoveCap (os : Os) (started : os.Started) (H : Type) (enc : TypeId × Value → H) :
    ReturnsInHanded {} Try.checked os 14 .any (Rows.fnRemoveCapSpec.pre6 enc Try.prog Try.f14 Rows.fnRemoveCapRow.domain false) (Rows.fnRemoveCapSpec.post enc Try.prog Try.f14 false true false false) := by
  refine returnsInHanded_of_change (C := Try.checked) row_own started (by kernel_rfl) Try.func14
    (ChangeSpec.witness6 (enc := enc) (C := Try.checked) false ⟨#[], #[.slice none 0 0], []⟩ 8 (by kernel_rfl) (by kernel_rfl) (by kernel_rfl) (by kernel_rfl)) ?_
  intro W base args ds gs before hval0 hW hcnd _
  have hval : ∀ (j : Nat) t v, Try.f14.params[j]? = some t → args[j]? = some v → Value.okWide Try.prog W .any base t v := hval0
  have hW' := hW
  obtain ⟨p, q, hA0, hV, rfl, hfz, hnd⟩ := hW
  have hA : DataW.TrodAll enc Try.prog W 0 (fun _ => true) true Try.f14.params.toList args.toList ds p := hA0
  rw [Try.params14] at hA hval
  obtain ⟨v0, vs0, d0, ds0, p0, q0, hargs, rfl, rfl, h0, r0⟩ := trodAll_cons hA
  obtain ⟨rfl, rfl, rfl⟩ := trodAll_nil r0
  obtain rfl : args = #[v0] := by cases args; simp_all
  obtain ⟨rfl, rfl⟩ := trodVars_none hV
  have k0 := h0
  have lt0 : ∀ x ∈ p0, x.block < W.heap.size := by obtain ⟨m, hm⟩ := k0; exact DataW.trod_lt m _ _ _ hm
  have w0 := open_bytes (hval 0 41 v0 rfl rfl) h0
  clear hA0 hval0
  refine (walk_FnRemoveCap v0 W w0).mono fun e W' ⟨he, bel⟩ => ?_
  subst he
  exact ⟨_, rfl, _, _, _, [], _, [], hW', trodAll_mk1 (shut_bool Try.underlying4 _), (trodAll_cons_mk (Below.trod row_laidOut (by kernel_rfl) (of_decide_eq_true (by kernel_rfl)) k0 bel lt0) trodAll_mk0), rfl, bel.frame _, fun h => by cases h⟩

theorem over_FnRemoveCap : Rows.fnRemoveCapRow.holds Try.pinned (OpenSpec.ofChange Rows.fnRemoveCapSpec) :=
  OpenClaim.holds_of_wide 14 Try.f14 rfl rfl rfl rfl rfl rfl rfl ⟨rfl, rfl, rfl, rfl, rfl⟩ rfl rfl rfl rfl rfl (by kernel_rfl) Try.func14 (by kernel_rfl)
    (of_decide_eq_true (by kernel_rfl)) (by unfold Func.isWrapper; first | (rw [if_pos (by decide +kernel)]; kernel_rfl) | (rw [if_neg (by decide +kernel)]; exact ⟨rfl, rfl⟩))
    (fun os started H enc _ => lifted_FnRemoveCap os started H enc)

theorem FnRemoveCap_holds : Rows.FnRemoveCapSaid := over_FnRemoveCap

end Go.Proofs.Ytpglfbjjmnaojaa
