/- The draw of a table, whatever the code. No condition. -/
import Derived.Test.YtdafogfpbpjmdaaTabD
namespace Go.Proofs.Ytdafogfpbpjmdaa
open Go.RowKit
set_option linter.unusedVariables false

set_option maxRecDepth 8000 in
set_option maxHeartbeats 16000000 in
theorem table_any (T0 n0 : Int) (b m : Nat) (w : World) (hm : m ≤ 700000000) (h : Rd w b m) (hn : n0 ≤ 1000000) (hT0 : 0 ≤ T0 ∧ T0 ≤ 1000) :
    Calls Try.prog 58 #[.pointer (some ⟨b, 0, none⟩), .int .i64 T0, .int .i64 n0] w (DrawnTab b (m + 1000) w) := by
  obtain ⟨ic, hci, hcz0, hcz1, hcz2⟩ := info_parts cap_info
  have HIC := Lib.hid (And.intro hci (And.intro hcz0 (And.intro hcz1 hcz2)))
  have hbw := h.lt
  have hR0 := CAt.new w 29 [.int .i64 0, .int .i64 0, .int .i64 0, .slice none 0 0]
  have hO0 := (Only.refl b w).alloc (.cells #[.int .i64 0, .int .i64 0, .int .i64 0, .slice none 0 0] 29)
  have hw0 := hR0.lt
  clear hci hcz0 hcz1 hcz2
  go_enter Try.func58, Try.ntmps58
  go_wp2_with fail
  refine (pick_any _ _ _ _ (by omega) (h.alloc _)).mono ?_
  rintro e w1 ⟨i, rfl, i0, i1, hR1, hO1⟩
  have i1' := i1 (by omega)
  clear i1
  go_wp2_with fail
  refine (pick_any _ _ _ _ (by omega) hR1).mono ?_
  rintro e w2 ⟨j, rfl, j0, j1, hR2, hO2⟩
  have j1' := j1 (by omega)
  have hz1 := hO1.size
  have hz2 := hO2.size
  have hne : ∀ {k : Nat}, w.heap.size ≤ k → (some b : Option Nat) ≠ some k := fun hk e => by injection e; omega
  have hTD : TD w b (m + 1 + 1) w.heap.size w2.heap.size (1 + i) 0 j none 0 0 [] (w2.alloc (.cells #[.int .i64 (1 + i), .int .i64 0, .int .i64 j, .slice none 0 0] 29)) :=
    ⟨hR2.alloc _, ((hO0.trans hO1).trans hO2).alloc _, ((hR0.grown hO1.grown (hne (Nat.le_refl _))).grown hO2.grown (hne (Nat.le_refl _))).alloc _, CAt.new w2 _ [.int .i64 (1 + i), .int .i64 0, .int .i64 j, .slice none 0 0], World.ownsRow_nil _ _ _ _, hbw, by omega, Nat.le_refl _⟩
  have HTD := Lib.hid hTD
  obtain ⟨t0, t1, t2, t3⟩ := hTD.cT.cells4
  have fT := hTD.cT.free
  have hpj := pw_wrap (b := j) (by omega)
  have hpj2 := pw_i64 (b := j) (by omega)
  have hpj3 := pw_pos j
  clear hTD hR0 hO0 hR1 hO1 hR2 hO2 j1 h hne
  have hp1 := pw_wrap (b := 1 + i) (by omega)
  have hp2 := pw_pos (1 + i)
  have hp3 := pw_le (a := 1 + i) (b := 3) (by omega) (by omega)
  have hp4 : pw 3 = 8 := rfl
  rw [hp4] at hp3
  have hi0 : 0 ≤ 1 + i := by omega
  have hp5 : 2 ≤ pw (1 + i) := pw_two (by omega)
  generalize pw (1 + i) = P at *
  go_wp2_with fail
  generalize w2.alloc (.cells #[.int .i64 (1 + i), .int .i64 0, .int .i64 j, .slice none 0 0] 29) = W at *
  generalize w2.heap.size = T at *
  refine (pick_any _ _ _ _ (by omega) HTD.out.rd).mono ?_
  rintro e w3 ⟨g, rfl, g0, g1, hR3, hO3⟩
  have hTD := HTD.out.step hR3 hO3
  have HTD := Lib.hid (hTD.setT (i := 1) (v := .int .i64 g) rfl)
  obtain ⟨t0, t1, t2, t3⟩ := hTD.cT.cells4
  have fT := hTD.cT.free
  clear hTD hR3 hO3 g1
  go_wp2_with fail
  simp only [hp1]
  go_loopw [8] (fun kv wr => ∃ (kk : Int) (M : Nat) (S : Option Addr) (nn c : Nat) (cs : List Cp), 0 ≤ kk ∧ nn + kk = P ∧ kv = .int .i64 kk ∧ M ≤ m + 10 + nn * 40 ∧ TD w b M w.heap.size T (1 + i) g j S nn c cs wr) (fun kv _ => (intOf kv).toNat)
  case atStart => exact ⟨P, _, none, 0, 0, [], by omega, by omega, rfl, by omega, HTD.out⟩
  case round =>
    clear HTD t0 t1 t2 t3 fT
    obtain ⟨kk, M, S, nn, c, cs, kk0, hkk, rfl, hM, hT⟩ := hrel
    by_cases hpos : 0 < kk
    · have HT := Lib.hid hT
      have hX := CAt.new wr 41 [.int .i64 0, .int .i64 0, .int .i64 0, .int .i64 0]
      have hT1 := hT.alloc (.cells #[.int .i64 0, .int .i64 0, .int .i64 0, .int .i64 0] 41)
      have hCb : T < wr.heap.size := hT.cT.lt
      have hbT : b < T := by have := hT.hb; have := hT.hR; omega
      have hCo := fun k hk => (hT.own.lt k hk).2
      clear hT
      go_wp2_with fail
      refine (pick_any _ _ _ _ (by omega) hT1.rd).mono ?_
      rintro e w4 ⟨s, rfl, s0, s1, hR4, hO4⟩
      have hT4 := hT1.step hR4 hO4
      have hX4 := hX.grown hO4.grown (by simp; omega)
      have s1' := s1 (by omega)
      clear hT1 hX hR4 hO4 s1 HT
      generalize wr.heap.size = C at *
      obtain ⟨a0, a1, a2, a3⟩ := hX4.cells4
      have fX := hX4.free
      by_cases hs0 : s = 0
      · subst hs0
        clear s0 s1'
        go_wp2_with fail
        refine (cap_any _ _ _ _ (by omega) hT4.rd (by omega)).mono ?_
        rintro e w5 ⟨ck, co, cr, cb, rfl, hR5, hO5⟩
        have hT5 := hT4.step hR5 hO5
        have hX5 := hX4.grown hO5.grown (by simp; omega)
        obtain ⟨a0, a1, a2, a3⟩ := hX5.cells4
        have fX := hX5.free
        have hlt5 := hX5.lt
        have hTD := (((hT5.setC (i := 0) hCb hCo (.int .i64 ck)).setC (i := 1) hCb hCo (.int .i64 co)).setC (i := 2) hCb hCo (.int .i64 cr)).setC (i := 3) hCb hCo (.int .i64 cb)
        have hC : CAt ((((w5.setCell ⟨C, 0, none⟩ (.int .i64 ck)).setCell ⟨C, 1, none⟩ (.int .i64 co)).setCell ⟨C, 2, none⟩ (.int .i64 cr)).setCell ⟨C, 3, none⟩ (.int .i64 cb)) C 41 [.int .i64 ck, .int .i64 co, .int .i64 cr, .int .i64 cb] := (((hX5.set (i := 0) (.int .i64 ck)).set (i := 1) (.int .i64 co)).set (i := 2) (.int .i64 cr)).set (i := 3) (.int .i64 cb)
        clear hR5 hO5 hT5 hX5 hT4 hX4
        go_upto_region 12 with fail
        generalize ((((w5.setCell ⟨C, 0, none⟩ (.int .i64 ck)).setCell ⟨C, 1, none⟩ (.int .i64 co)).setCell ⟨C, 2, none⟩ (.int .i64 cr)).setCell ⟨C, 3, none⟩ (.int .i64 cb)) = W at *
        clear a0 a1 a2 a3 fX hlt5
        obtain ⟨t0, t1, t2, t3⟩ := hTD.cT.cells4
        obtain ⟨q0, q1, q2, q3⟩ := hC.cells4
        have fT := hTD.cT.free
        have hlt := hTD.cT.lt
        have HC := Lib.hid hC
        have HTD := Lib.hid hTD
        obtain ⟨hci, hcz0, hcz1, hcz2⟩ := HIC.out
        have hown := fun o' => own_below hTD.own (below_al (Below.refl _ W) o')
        clear hTD hC
        go_wp2_with (at_builtin; refine wpList_append_own _ rfl _ _ 27 rfl (T + 1) 41 ic _ 4 32 Try.underlying27 hci hcz0 hcz1 hcz2 rfl (by decide) _ _ _ rfl (hown _) ⟨W.heap.size, 0, none⟩ 1 1 [.int .i64 ck, .int .i64 co, .int .i64 cr, .int .i64 cb] rfl ?rc1 ?rc2 ?rc3 ?rc4 ?rc5 ?rc6 ?_)
        case rc1 => rfl
        case rc2 =>
          intro k u hk
          rw [Go.WideShapes.add_plain, Nat.zero_add]
          exact ((CAt.new W 41 [.int .i64 ck, .int .i64 co, .int .i64 cr, .int .i64 cb]).cell k).trans hk
        case rc3 => intro u hu; simp at hu; rcases hu with rfl | rfl | rfl | rfl <;> rfl
        case rc4 => simp only [maxLen]; omega
        case rc5 => omega
        try (case rc6 => first | omega | (simp; done) | (simp; omega))
        intro v' w5 hown' hgrow' _
        obtain ⟨S', c', rfl⟩ : ∃ A' c', v' = .slice A' (nn + 1) c' := by
          rcases hown'.2 with ⟨rfl, h0⟩ | ⟨g, cap, cur, rfl, _⟩
          · exact ⟨none, 0, by rw [h0]⟩
          · exact ⟨_, _, rfl⟩
        have HTD2 := Lib.hid ((HTD.out.alloc _).slots (cs' := cs ++ [⟨ck, co, cr, cb⟩]) hgrow' (by rw [flatC_append]; exact hown'))
        have hcT5 := (HTD.out.alloc (.cells #[.int .i64 ck, .int .i64 co, .int .i64 cr, .int .i64 cb] 41)).cT.grown hgrow' (fun e => by have := (HTD.out.own.lt T e).1; omega)
        obtain ⟨s0, s1, s2, s3⟩ := hcT5.cells4
        have fT5 := hcT5.free
        clear hown hown' hgrow' hcT5 HTD HC t0 t1 t2 t3 q0 q1 q2 q3 fT
        go_wp2_with fail
        go_roundw
        case rel => exact ⟨kk - 1, _, _, nn + 1, c', _, by omega, by omega, by go_num, by omega, HTD2.out⟩
        case measure => simp [intOf]; omega
      by_cases hs1 : s = 1
      · subst hs1
        clear s0 s1' hs0
        have hw9 : wrap64 (T0 + 1) = T0 + 1 := wrap_id (by omega) (by omega)
        go_wp2_with fail
        refine (pick_any _ _ _ _ (by omega) hT4.rd).mono ?_
        rintro e w5 ⟨co, rfl, -, -, hR5, hO5⟩
        go_wp2_with fail
        refine (pick_any _ _ _ _ (by omega) hR5).mono ?_
        rintro e w6 ⟨cr, rfl, -, -, hR6, hO6⟩
        have hT5 := (hT4.step hR5 hO5).step hR6 hO6
        have hX5 := (hX4.grown hO5.grown (by simp; omega)).grown hO6.grown (by simp; omega)
        obtain ⟨a0, a1, a2, a3⟩ := hX5.cells4
        have fX := hX5.free
        have hlt5 := hX5.lt
        have hTD := (((hT5.setC (i := 0) hCb hCo (.int .i64 2)).setC (i := 1) hCb hCo (.int .i64 co)).setC (i := 2) hCb hCo (.int .i64 cr)).setC (i := 3) hCb hCo (.int .i64 0)
        have hC : CAt ((((w6.setCell ⟨C, 0, none⟩ (.int .i64 2)).setCell ⟨C, 1, none⟩ (.int .i64 co)).setCell ⟨C, 2, none⟩ (.int .i64 cr)).setCell ⟨C, 3, none⟩ (.int .i64 0)) C 41 [.int .i64 2, .int .i64 co, .int .i64 cr, .int .i64 0] := (((hX5.set (i := 0) (.int .i64 2)).set (i := 1) (.int .i64 co)).set (i := 2) (.int .i64 cr)).set (i := 3) (.int .i64 0)
        clear hR5 hO5 hR6 hO6 hT5 hX5 hT4 hX4
        go_upto_region 12 with fail
        generalize ((((w6.setCell ⟨C, 0, none⟩ (.int .i64 2)).setCell ⟨C, 1, none⟩ (.int .i64 co)).setCell ⟨C, 2, none⟩ (.int .i64 cr)).setCell ⟨C, 3, none⟩ (.int .i64 0)) = W at *
        clear a0 a1 a2 a3 fX hlt5
        obtain ⟨t0, t1, t2, t3⟩ := hTD.cT.cells4
        obtain ⟨q0, q1, q2, q3⟩ := hC.cells4
        have fT := hTD.cT.free
        have hlt := hTD.cT.lt
        have HC := Lib.hid hC
        have HTD := Lib.hid hTD
        obtain ⟨hci, hcz0, hcz1, hcz2⟩ := HIC.out
        have hown := fun o' => own_below hTD.own (below_al (Below.refl _ W) o')
        clear hTD hC
        go_wp2_with (at_builtin; refine wpList_append_own _ rfl _ _ 27 rfl (T + 1) 41 ic _ 4 32 Try.underlying27 hci hcz0 hcz1 hcz2 rfl (by decide) _ _ _ rfl (hown _) ⟨W.heap.size, 0, none⟩ 1 1 [.int .i64 2, .int .i64 co, .int .i64 cr, .int .i64 0] rfl ?rc1 ?rc2 ?rc3 ?rc4 ?rc5 ?rc6 ?_)
        case rc1 => rfl
        case rc2 =>
          intro k u hk
          rw [Go.WideShapes.add_plain, Nat.zero_add]
          exact ((CAt.new W 41 [.int .i64 2, .int .i64 co, .int .i64 cr, .int .i64 0]).cell k).trans hk
        case rc3 => intro u hu; simp at hu; rcases hu with rfl | rfl | rfl | rfl <;> rfl
        case rc4 => simp only [maxLen]; omega
        case rc5 => omega
        try (case rc6 => first | omega | (simp; done) | (simp; omega))
        intro v' w5 hown' hgrow' _
        obtain ⟨S', c', rfl⟩ : ∃ A' c', v' = .slice A' (nn + 1) c' := by
          rcases hown'.2 with ⟨rfl, h0⟩ | ⟨g, cap, cur, rfl, _⟩
          · exact ⟨none, 0, by rw [h0]⟩
          · exact ⟨_, _, rfl⟩
        have HTD2 := Lib.hid ((HTD.out.alloc _).slots (cs' := cs ++ [⟨2, co, cr, 0⟩]) hgrow' (by rw [flatC_append]; exact hown'))
        have hcT5 := (HTD.out.alloc (.cells #[.int .i64 2, .int .i64 co, .int .i64 cr, .int .i64 0] 41)).cT.grown hgrow' (fun e => by have := (HTD.out.own.lt T e).1; omega)
        obtain ⟨s0, s1, s2, s3⟩ := hcT5.cells4
        have fT5 := hcT5.free
        clear hown hown' hgrow' hcT5 HTD HC t0 t1 t2 t3 q0 q1 q2 q3 fT
        go_wp2_with fail
        go_roundw
        case rel => exact ⟨kk - 1, _, _, nn + 1, c', _, by omega, by omega, by go_num, by omega, HTD2.out⟩
        case measure => simp [intOf]; omega
      · have hsb0 : (s == 0) = false := by rw [beq_eq_false_iff_ne]; exact hs0
        have hsb1 : (s == 1) = false := by rw [beq_eq_false_iff_ne]; exact hs1
        go_upto_region 12 with fail
        have hTD := hT4
        have hC : CAt w4 C 41 [.int .i64 0, .int .i64 0, .int .i64 0, .int .i64 0] := hX4
        clear hT4 hX4 a0 a1 a2 a3 fX
        generalize w4 = W at *
        obtain ⟨t0, t1, t2, t3⟩ := hTD.cT.cells4
        obtain ⟨q0, q1, q2, q3⟩ := hC.cells4
        have fT := hTD.cT.free
        have hlt := hTD.cT.lt
        have HC := Lib.hid hC
        have HTD := Lib.hid hTD
        obtain ⟨hci, hcz0, hcz1, hcz2⟩ := HIC.out
        have hown := fun o' => own_below hTD.own (below_al (Below.refl _ W) o')
        clear hTD hC
        go_wp2_with (at_builtin; refine wpList_append_own _ rfl _ _ 27 rfl (T + 1) 41 ic _ 4 32 Try.underlying27 hci hcz0 hcz1 hcz2 rfl (by decide) _ _ _ rfl (hown _) ⟨W.heap.size, 0, none⟩ 1 1 [.int .i64 0, .int .i64 0, .int .i64 0, .int .i64 0] rfl ?rc1 ?rc2 ?rc3 ?rc4 ?rc5 ?rc6 ?_)
        case rc1 => rfl
        case rc2 =>
          intro k u hk
          rw [Go.WideShapes.add_plain, Nat.zero_add]
          exact ((CAt.new W 41 [.int .i64 0, .int .i64 0, .int .i64 0, .int .i64 0]).cell k).trans hk
        case rc3 => intro u hu; simp at hu; rcases hu with rfl | rfl | rfl | rfl <;> rfl
        case rc4 => simp only [maxLen]; omega
        case rc5 => omega
        try (case rc6 => first | omega | (simp; done) | (simp; omega))
        intro v' w5 hown' hgrow' _
        obtain ⟨S', c', rfl⟩ : ∃ A' c', v' = .slice A' (nn + 1) c' := by
          rcases hown'.2 with ⟨rfl, h0⟩ | ⟨g, cap, cur, rfl, _⟩
          · exact ⟨none, 0, by rw [h0]⟩
          · exact ⟨_, _, rfl⟩
        have HTD2 := Lib.hid ((HTD.out.alloc _).slots (cs' := cs ++ [⟨0, 0, 0, 0⟩]) hgrow' (by rw [flatC_append]; exact hown'))
        have hcT5 := (HTD.out.alloc (.cells #[.int .i64 0, .int .i64 0, .int .i64 0, .int .i64 0] 41)).cT.grown hgrow' (fun e => by have := (HTD.out.own.lt T e).1; omega)
        obtain ⟨s0, s1, s2, s3⟩ := hcT5.cells4
        have fT5 := hcT5.free
        clear hown hown' hgrow' hcT5 HTD HC t0 t1 t2 t3 q0 q1 q2 q3 fT
        go_wp2_with fail
        go_roundw
        case rel => exact ⟨kk - 1, _, _, nn + 1, c', _, by omega, by omega, by go_num, by omega, HTD2.out⟩
        case measure => simp [intOf]; omega
    · obtain rfl : kk = 0 := by omega
      obtain ⟨n1, hn1⟩ : ∃ n1 : Nat, nn = n1 + 1 := ⟨nn - 1, by omega⟩
      subst hn1
      have hE := hT.te
      obtain ⟨gS, hS, hgT, -⟩ := hE.row.at_ (by omega)
      subst hS
      obtain ⟨c1, hc1⟩ : ∃ c1 : Nat, c = c1 + 1 := ⟨c - 1, by have := hE.row.2.1; omega⟩
      subst hc1
      have hcap : c1 + 1 ≤ 9223372036854775807 := hE.row.2.2.1
      have hcap2 : n1 + 1 ≤ c1 + 1 := hE.row.2.1
      have HE := Lib.hid hE
      have hn9 : n1 + 1 ≤ 8 := by omega
      clear hT hE
      go_wp2_with fail
      refine (odd_any _ _ _ _ (by omega) HE.out.rd hn).mono ?_
      rintro e w4 ⟨q, rfl, hR4, hO4⟩
      have HE4 := Lib.hid (HE.out.step hR4 hO4)
      clear HE hR4 hO4
      cases q
      · obtain ⟨t0, t1, t2, t3⟩ := HE4.out.cT.cells4
        obtain ⟨r0, r1, r2, r3⟩ := HE4.out.cR.cells4
        have fT := HE4.out.cT.free
        have fR := HE4.out.cR.free
        go_wp2_with fail
        refine bodyPost_ret (v := .agg #[.int .i64 (1 + i), .int .i64 g, .int .i64 j, .slice (some ⟨gS, 0, none⟩) (n1 + 1) (c1 + 1)]) (by simp [results, Try.results58, go_sem, r0, r1, r2, r3]) rfl (HE4.out.fin.done hn9 (by omega))
      · go_wp2_with fail
        refine (pick_any _ _ _ _ (by omega) HE4.out.rd).mono ?_
        rintro e w5 ⟨p, rfl, p0, p1, hR5, hO5⟩
        have HE5 := Lib.hid (HE4.out.step hR5 hO5)
        clear HE4 hR5 hO5 p1
        obtain ⟨t0, t1, t2, t3⟩ := HE5.out.cT.cells4
        have fT := HE5.out.cT.free
        have hl5 := HE5.out.cT.lt
        by_cases hp0 : p = 0
        · subst hp0
          have HE6 := Lib.hid (HE5.out.alloc (.cells #[.int .i64 0, .int .i64 5] 3))
          have hA := CAt.new w5 3 [.int .i64 0, .int .i64 5]
          have hAl := hA.lt
          have hbR := HE5.out.hb
          have hRT := HE5.out.hR
          clear t0 t1 t2 t3 fT
          go_wp2_with fail
          refine (pick_any _ _ _ _ (by omega) HE6.out.rd).mono ?_
          rintro e w6 ⟨q, rfl, q0, q1, hR6, hO6⟩
          have q1' := q1 (by omega)
          have hA6 := hA.grown hO6.grown (by simp; omega)
          have HE7 := Lib.hid (HE6.out.step hR6 hO6)
          clear HE6 hR6 hO6 q1 hA HE5
          have fA := hA6.free
          have hA6l := hA6.lt
          obtain ⟨t0, t1, t2, t3⟩ := HE7.out.cT.cells4
          have fT := HE7.out.cT.free
          obtain ⟨r0, r1, r2, r3⟩ := HE7.out.cR.cells4
          have fR := HE7.out.cR.free
          have hl7 := HE7.out.cT.lt
          obtain ⟨x', hx'⟩ : ∃ x' : Int, w6.cell? ⟨w5.heap.size, q.toNat, none⟩ = some (.int .i64 x') := by
            have hq : q = 0 ∨ q = 1 := by omega
            rcases hq with rfl | rfl
            · exact ⟨_, hA6.cell 0⟩
            · exact ⟨_, hA6.cell 1⟩
          clear hA6
          have HF := Lib.hid ((HE7.out.setT (i := 0) (v := .int .i64 x') (x' := x') rfl).fin)
          go_wp2_with fail
          refine bodyPost_ret (v := .agg #[.int .i64 x', .int .i64 g, .int .i64 j, .slice (some ⟨gS, 0, none⟩) (n1 + 1) (c1 + 1)]) (by simp [results, Try.results58, go_sem, r0, r1, r2, r3]) rfl (HF.out.done hn9 (by omega))
        have hpb0 : (p == 0) = false := by rw [beq_eq_false_iff_ne]; exact hp0
        have hRT5 := HE5.out.hR
        by_cases hp1' : p = 1
        · subst hp1'
          obtain ⟨W5, hW5⟩ : ∃ W, W = w5 := ⟨_, rfl⟩
          subst hW5
          go_wp2_with fail
          go_region_with (first
            | (go_at_call 66; refine (pick_any _ _ _ _ (by omega) HE5.out.rd.drew).mono ?_; rintro e w6 ⟨q, rfl, q0, q1, hR6, hO6⟩; have HE6 := Lib.hid (HE5.out.drew.step hR6 hO6); have q1' := q1 (by omega); obtain ⟨z0, z1, z2, z3⟩ := HE6.out.cT.cells4; obtain ⟨r0, r1, r2, r3⟩ := HE6.out.cR.cells4; have fR := HE6.out.cR.free; have hRl6 := HE6.out.cR.lt; have fT6 := HE6.out.cT.free; have hl6 := HE6.out.cT.lt; clear hR6 hO6 q1; have hlt6 := (CAt.new w6 3 [.int .i64 (-1), .int .i64 (pw j)]).lt; obtain ⟨x', hx3⟩ : ∃ x' : Int, ∀ hl : q.toNat < [Value.int .i64 (-1), .int .i64 (pw j)].length, [Value.int .i64 (-1), .int .i64 (pw j)][q.toNat]'hl = .int .i64 x' := by (obtain rfl | rfl : q = 0 ∨ q = 1 := by omega) <;> exact ⟨_, fun _ => rfl⟩)
            | (go_at_call 66; refine (pick_any _ _ _ _ (by omega) (HE5.out.drew.alloc (.cells #[.int .i64 (-1), .int .i64 (pw j)] 3)).rd).mono ?_; rintro e w6 ⟨q, rfl, q0, q1, hR6, hO6⟩; have HE6 := Lib.hid ((HE5.out.drew.alloc (.cells #[.int .i64 (-1), .int .i64 (pw j)] 3)).step hR6 hO6); have q1' := q1 (by omega); obtain ⟨z0, z1, z2, z3⟩ := HE6.out.cT.cells4; obtain ⟨r0, r1, r2, r3⟩ := HE6.out.cR.cells4; have fR := HE6.out.cR.free; have hRl6 := HE6.out.cR.lt; have fT6 := HE6.out.cT.free; have hl6 := HE6.out.cT.lt; have hA6 := (CAt.new W5.drew 3 [.int .i64 (-1), .int .i64 (pw j)]).grown hO6.grown (by simp; omega); obtain ⟨x', hx'⟩ := hA6.two q0 q1'; have hx2 : w6.cell? ⟨W5.heap.size, q.toNat, none⟩ = some (.int .i64 x') := hx'; have fA6 := hA6.free; have fA7 : ∀ j, w6.frozen? ⟨W5.heap.size, j, none⟩ = false := fA6; have hA6l := hA6.lt; clear hR6 hO6 q1 hA6))
          all_goals (try go_wp2_with fail)
          all_goals
            have HD := (HE6.out.setT (i := 1) (v := .int .i64 x') (y' := x') rfl).fin.done hn9 (show _ ≤ m + 1000 by omega)
          all_goals refine bodyPost_ret (v := .agg #[.int .i64 (1 + i), .int .i64 x', .int .i64 j, .slice (some ⟨gS, 0, none⟩) (n1 + 1) (c1 + 1)]) (by simp [results, Try.results58, go_sem, r0, r1, r2, r3, hRl6]) rfl (by first | with_reducible exact HD | with_reducible exact HD.alloc _)
        have hpb1 : (p == 1) = false := by rw [beq_eq_false_iff_ne]; exact hp1'
        by_cases hp2' : p = 2
        · subst hp2'
          obtain ⟨r0, r1, r2, r3⟩ := HE5.out.cR.cells4
          have fR := HE5.out.cR.free
          have HF := Lib.hid HE5.out.tail
          have hc10 : ¬ c1 = 0 := by omega
          go_wp2_with fail
          refine bodyPost_ret (v := .agg #[.int .i64 (1 + i), .int .i64 g, .int .i64 j, .slice (some ⟨gS, 4, none⟩) n1 c1]) (by simp [results, Try.results58, go_sem, r0, r1, r2, r3]) rfl (HF.out.done (by omega) (by omega))
        have hpb2 : (p == 2) = false := by rw [beq_eq_false_iff_ne]; exact hp2'
        obtain ⟨W5, hW5⟩ : ∃ W, W = w5 := ⟨_, rfl⟩
        subst hW5
        go_wp2_with fail
        go_region_with (go_at_call 68; refine (cap_any _ _ _ _ (by omega) HE5.out.rd.drew (by omega)).mono ?_; rintro e w6 ⟨ck, co, cr, cb, rfl, hR6, hO6⟩; have HE6 := Lib.hid (HE5.out.drew.step hR6 hO6); obtain ⟨z0, z1, z2, z3⟩ := HE6.out.cT.cells4; obtain ⟨r0, r1, r2, r3⟩ := HE6.out.cR.cells4; have fR := HE6.out.cR.free; have hRl6 := HE6.out.cR.lt; have fT6 := HE6.out.cT.free; have hl6 := HE6.out.cT.lt; obtain ⟨q, y0, y1, y2, y3, fS6, hSl6⟩ := HE6.out.head (by omega); clear hR6 hO6)
        all_goals (try go_wp2_with fail)
        all_goals refine bodyPost_ret (v := .agg #[.int .i64 (1 + i), .int .i64 g, .int .i64 j, .slice (some ⟨gS, 0, none⟩) (n1 + 1) (c1 + 1)]) (by simp [results, Try.results58, go_sem, r0, r1, r2, r3]) rfl ((HE6.out.setS (by omega) ⟨ck, co, cr, cb⟩).fin.done hn9 (by omega))

end Go.Proofs.Ytdafogfpbpjmdaa
