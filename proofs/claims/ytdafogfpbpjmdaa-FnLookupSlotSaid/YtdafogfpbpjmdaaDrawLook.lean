/- The draw of the laws on LookupSlot, whatever the code. No condition. -/
import Derived.Test.YtdafogfpbpjmdaaDrawTabLaws
import Derived.Test.YtdafogfpbpjmdaaTabW
namespace Go.Proofs.Ytdafogfpbpjmdaa
open Go.RowKit
set_option linter.unusedVariables false

set_option maxRecDepth 8000 in
set_option maxHeartbeats 16000000 in
theorem drawLookupSlot (v : Value) (w : World) (h : BytesIn w v) : Calls Try.prog 40 #[v] w (DrawnLk w) := by
  go_enter Try.func40, Try.ntmps40
  go_wp2_with fail
  refine (open_any _ _ h).mono ?_
  rintro e w1 ⟨b, rfl, hb, h1, hb1⟩
  go_wp2_with fail
  refine (tables_any _ _ _ _ (by omega) h1 (by omega)).mono ?_
  rintro e w2 ⟨A, n, c, ts, rfl, hT, n1, n2, hc, hc2, hS, hR2, hO2⟩
  have hbB := h1.lt
  have HS := Lib.hid hS
  clear h1 hS h
  go_wp2_with fail
  refine (pick_any _ _ _ _ (by omega) hR2).mono ?_
  rintro e w3 ⟨k2, rfl, -, -, hR3, hO3⟩
  go_wp2_with fail
  refine (pick_any _ _ _ _ (by omega) hR3).mono ?_
  rintro e w4 ⟨k3, rfl, -, -, hR4, hO4⟩
  go_wp2_with fail
  refine (pick_any _ _ _ _ (by omega) hR4).mono ?_
  rintro e w5 ⟨k, rfl, k0, k1, hR5, hO5⟩
  have k1' := k1 (by omega)
  have hO := hO3.trans (hO4.trans hO5)
  have HT5 := Lib.hid (hT.only hO hbB)
  have HR5 := Lib.hid hR5
  have HO5 := Lib.hid (hO2.trans hO)
  clear hT hR2 hO2 hR3 hO3 hR4 hO4 hR5 hO5 hO k1
  go_wp2_with fail
  generalize hi : wrap64 (k2 - wrap64 (k3.tdiv 13)) = i at *
  clear hi
  go_loopw [9, 10, 11, 12] (fun av dv cv kv wr => ∃ (a d cu kk : Int) (M : Nat), av = .int .i64 a ∧ dv = .int .i64 d ∧ cv = .int .i64 cu ∧ kv = .int .i64 kk ∧ 0 ≤ d ∧ d ≤ 16 ∧ 0 ≤ kk ∧ kk ≤ 4 ∧ (M : Int) + kk ≤ 20000 ∧ Rd wr b M ∧ TabN wr w1.heap.size A n ts ∧ Only b w1 wr) (fun _ _ _ kv _ => (intOf kv).toNat)
  case atStart => exact ⟨0, 0, i, 1 + k, _, rfl, rfl, rfl, rfl, by omega, by omega, by omega, by omega, by omega, HR5.out, HT5.out, HO5.out⟩
  case round =>
    clear HR5 HT5 HO5
    obtain ⟨a, d, cu, kk, M, rfl, rfl, rfl, rfl, d0, d1, kk0, kk4, hM, hRd, hT, hO⟩ := hrel
    by_cases hk : 0 < kk
    case neg =>
      have HR := Lib.hid hRd
      have HT := Lib.hid hT
      have HO := Lib.hid hO
      clear hRd hT hO
      go_wp2_with fail
      refine (odd_any _ _ _ _ (by omega) HR.out (by omega)).mono ?_
      rintro e w8 ⟨q, rfl, hR8, hO8⟩
      cases q
      · have HT8 := Lib.hid (HT.out.only hO8 hbB).rd
        have HB8 := Lib.hid ((HO.out.trans hO8).to_below hb1 hb)
        clear HT HO HR hR8 hO8
        go_wp2_with fail
        refine bodyPost_ret (v := .tuple #[.slice A n c, .int .i64 i, .int .i64 a, .int .i64 d]) (by simp [results, Try.results40, go_sem]) rfl ⟨_, n, c, ts, i, a, d, rfl, HT8.out, n1, n2, hc, hc2, HS.out, HB8.out⟩
      · go_wp2_with fail
        refine (pick_any _ _ _ _ (by omega) hR8).mono ?_
        rintro e w9 ⟨a', rfl, -, -, hR9, hO9⟩
        go_wp2_with fail
        refine (pick_any _ _ _ _ (by omega) hR9).mono ?_
        rintro e w10 ⟨d', rfl, -, -, hR10, hO10⟩
        have hO10' := hO8.trans (hO9.trans hO10)
        have HT8 := Lib.hid (HT.out.only hO10' hbB).rd
        have HB8 := Lib.hid ((HO.out.trans hO10').to_below hb1 hb)
        clear HT HO HR hR8 hO8 hR9 hO9 hR10 hO10 hO10'
        go_wp2_with fail
        refine bodyPost_ret (v := .tuple #[.slice A n c, .int .i64 i, .int .i64 a', .int .i64 d']) (by simp [results, Try.results40, go_sem]) rfl ⟨_, n, c, ts, i, a', d', rfl, HT8.out, n1, n2, hc, hc2, HS.out, HB8.out⟩
    by_cases hc0 : 0 ≤ cu
    case neg =>
      have HR := Lib.hid hRd
      have HT := Lib.hid hT
      have HO := Lib.hid hO
      clear hRd hT hO
      go_wp2_with fail
      refine (odd_any _ _ _ _ (by omega) HR.out (by omega)).mono ?_
      rintro e w8 ⟨q, rfl, hR8, hO8⟩
      cases q
      · have HT8 := Lib.hid (HT.out.only hO8 hbB).rd
        have HB8 := Lib.hid ((HO.out.trans hO8).to_below hb1 hb)
        clear HT HO HR hR8 hO8
        go_wp2_with fail
        refine bodyPost_ret (v := .tuple #[.slice A n c, .int .i64 i, .int .i64 a, .int .i64 d]) (by simp [results, Try.results40, go_sem]) rfl ⟨_, n, c, ts, i, a, d, rfl, HT8.out, n1, n2, hc, hc2, HS.out, HB8.out⟩
      · go_wp2_with fail
        refine (pick_any _ _ _ _ (by omega) hR8).mono ?_
        rintro e w9 ⟨a', rfl, -, -, hR9, hO9⟩
        go_wp2_with fail
        refine (pick_any _ _ _ _ (by omega) hR9).mono ?_
        rintro e w10 ⟨d', rfl, -, -, hR10, hO10⟩
        have hO10' := hO8.trans (hO9.trans hO10)
        have HT8 := Lib.hid (HT.out.only hO10' hbB).rd
        have HB8 := Lib.hid ((HO.out.trans hO10').to_below hb1 hb)
        clear HT HO HR hR8 hO8 hR9 hO9 hR10 hO10 hO10'
        go_wp2_with fail
        refine bodyPost_ret (v := .tuple #[.slice A n c, .int .i64 i, .int .i64 a', .int .i64 d']) (by simp [results, Try.results40, go_sem]) rfl ⟨_, n, c, ts, i, a', d', rfl, HT8.out, n1, n2, hc, hc2, HS.out, HB8.out⟩
    by_cases hcn : cu < n
    case neg =>
      have HR := Lib.hid hRd
      have HT := Lib.hid hT
      have HO := Lib.hid hO
      clear hRd hT hO
      go_wp2_with fail
      refine (odd_any _ _ _ _ (by omega) HR.out (by omega)).mono ?_
      rintro e w8 ⟨q, rfl, hR8, hO8⟩
      cases q
      · have HT8 := Lib.hid (HT.out.only hO8 hbB).rd
        have HB8 := Lib.hid ((HO.out.trans hO8).to_below hb1 hb)
        clear HT HO HR hR8 hO8
        go_wp2_with fail
        refine bodyPost_ret (v := .tuple #[.slice A n c, .int .i64 i, .int .i64 a, .int .i64 d]) (by simp [results, Try.results40, go_sem]) rfl ⟨_, n, c, ts, i, a, d, rfl, HT8.out, n1, n2, hc, hc2, HS.out, HB8.out⟩
      · go_wp2_with fail
        refine (pick_any _ _ _ _ (by omega) hR8).mono ?_
        rintro e w9 ⟨a', rfl, -, -, hR9, hO9⟩
        go_wp2_with fail
        refine (pick_any _ _ _ _ (by omega) hR9).mono ?_
        rintro e w10 ⟨d', rfl, -, -, hR10, hO10⟩
        have hO10' := hO8.trans (hO9.trans hO10)
        have HT8 := Lib.hid (HT.out.only hO10' hbB).rd
        have HB8 := Lib.hid ((HO.out.trans hO10').to_below hb1 hb)
        clear HT HO HR hR8 hO8 hR9 hO9 hR10 hO10 hO10'
        go_wp2_with fail
        refine bodyPost_ret (v := .tuple #[.slice A n c, .int .i64 i, .int .i64 a', .int .i64 d']) (by simp [results, Try.results40, go_sem]) rfl ⟨_, n, c, ts, i, a', d', rfl, HT8.out, n1, n2, hc, hc2, HS.out, HB8.out⟩
    obtain ⟨j, rfl⟩ := Int.eq_ofNat_of_zero_le hc0
    have hj : j < n := by omega
    obtain ⟨g, o, rfl, hBg, hgl, hcells⟩ := hT.2 (by omega)
    obtain ⟨S, cS, hcell, hSb⟩ := hcells j hj
    generalize hx : ts.getD j T0 = tb at *
    obtain ⟨B, gd, G, sl⟩ := tb
    have hcell0 := hcell
    obtain ⟨t0, t1, t2, t3, hnc, hcm, hcap⟩ := hcell
    simp only at t0 t1 t2 t3 hnc hcm hcap hSb
    have hsl : sl.length ≤ 2000000 := by have := HS.out j; rw [hx] at this; exact this
    have hVC := spec_TableValid B gd G S sl.length cS sl wr hcap hsl
    clear hx hcells
    go_wp2_with fail
    refine hVC.mono ?_
    rintro e w6 ⟨rfl, hb6⟩
    have hR6 := hRd.below hb6
    have hT6 := hT.below hb6
    have hO6 := hO.trans (.of_below hb6)
    cases hv : tabOk ⟨B, gd, G, sl⟩
    case false =>
      have HR := Lib.hid hR6
      have HT := Lib.hid hT6
      have HO := Lib.hid hO6
      clear hR6 hT6 hO6 hRd hT hO hVC hb6 t0 t1 t2 t3 hcap hSb hcell0
      go_wp2_with fail
      refine (odd_any _ _ _ _ (by omega) HR.out (by omega)).mono ?_
      rintro e w8 ⟨q, rfl, hR8, hO8⟩
      cases q
      · have HT8 := Lib.hid (HT.out.only hO8 hbB).rd
        have HB8 := Lib.hid ((HO.out.trans hO8).to_below hb1 hb)
        clear HT HO HR hR8 hO8
        go_wp2_with fail
        refine bodyPost_ret (v := .tuple #[.slice (some ⟨g, o, none⟩) n c, .int .i64 i, .int .i64 a, .int .i64 d]) (by simp [results, Try.results40, go_sem]) rfl ⟨_, n, c, ts, i, a, d, rfl, HT8.out, n1, n2, hc, hc2, HS.out, HB8.out⟩
      · go_wp2_with fail
        refine (pick_any _ _ _ _ (by omega) hR8).mono ?_
        rintro e w9 ⟨a', rfl, -, -, hR9, hO9⟩
        go_wp2_with fail
        refine (pick_any _ _ _ _ (by omega) hR9).mono ?_
        rintro e w10 ⟨d', rfl, -, -, hR10, hO10⟩
        have hO10' := hO8.trans (hO9.trans hO10)
        have HT8 := Lib.hid (HT.out.only hO10' hbB).rd
        have HB8 := Lib.hid ((HO.out.trans hO10').to_below hb1 hb)
        clear HT HO HR hR8 hO8 hR9 hO9 hR10 hO10 hO10'
        go_wp2_with fail
        refine bodyPost_ret (v := .tuple #[.slice (some ⟨g, o, none⟩) n c, .int .i64 i, .int .i64 a', .int .i64 d']) (by simp [results, Try.results40, go_sem]) rfl ⟨_, n, c, ts, i, a', d', rfl, HT8.out, n1, n2, hc, hc2, HS.out, HB8.out⟩
    rw [hv] at hVC
    obtain ⟨⟨b0, b1⟩, ⟨g0, g1⟩, ⟨u0, u1⟩, hq⟩ := headOk_iff.1 (tabOk_iff.1 hv).1
    simp only at b0 b1 g0 g1 u0 u1 hq
    obtain ⟨y0, y1, y2, y3, -, -, hcap6⟩ := hcell0.below hgl hb6
    simp only at y0 y1 y2 y3 hcap6
    have hpb := pw_wrap (b := B) (by omega)
    have hpb1 := pw_pos B
    have hpb4 := pw_max (b := B) (by omega)
    have hgl6 : g < w6.heap.size := by have := hb6.size; omega
    have hX := CAt.new w6 29 [.int .i64 B, .int .i64 gd, .int .i64 G, .slice S sl.length cS]
    have hXl := hX.lt
    obtain ⟨x0, x1, x2, x3⟩ := hX.cells4
    have HR6 := Lib.hid hR6
    have HT6 := Lib.hid hT6
    have HO6 := Lib.hid hO6
    have hb6l := hR6.lt
    clear hR6 hT6 hO6 hRd hT hO hVC hb6 t0 t1 t2 t3 hcap hcell0 hv hgl
    generalize pw B = P at *
    go_wp2_with fail
    refine (pick_any _ _ _ _ (by omega) (HR6.out.alloc _)).mono ?_
    rintro e w7 ⟨s, rfl, s0, s1, hR7, hO7⟩
    have s1' := s1 (by omega)
    have hsz7 := hO7.size
    have hX7 := hX.grown hO7.grown (by simp; omega)
    have hO67 := ((Only.refl b w6).alloc (.cells #[.int .i64 B, .int .i64 gd, .int .i64 G, .slice S sl.length cS] 29)).trans hO7
    have HT7 := Lib.hid (HT6.out.only hO67 hbB)
    have HO7 := Lib.hid (HO6.out.trans hO67)
    have HR7 := Lib.hid hR7
    obtain ⟨s', rfl⟩ := Int.eq_ofNat_of_zero_le s0
    clear hpb
    have hs' : s' < sl.length := by omega
    have hs2 : (s' : Int) < (sl.length : Int) := by omega
    have hcap7 : CapRd w7 S sl.length sl := hcap6.keepAt hO67.size fun g' o' hS hlt => hO67.block g' hlt (fun e => by have := hSb g' o' (by omega) hS; injection e; omega)
    obtain ⟨gs, os, rfl, hgs, hcc⟩ := hcap7.2 (by omega)
    obtain ⟨q0, q1, q2, q3⟩ := hcc s' hs'
    clear x0 x1 x2 x3 hR7 hO7 hO67 HT6 HO6 HR6 hcap6 hcap7 hcc s1 hSb y0 y1 y2 y3
    obtain ⟨x0, x1, x2, x3⟩ := hX7.cells4
    have fX := hX7.free
    clear hX hX7
    have hwA : wrap64 (d + G) = d + G := wrap_id (by omega) (by omega)
    have hwB : wrap64 (d + G + B) = d + G + B := wrap_id (by omega) (by omega)
    have hwC : IntKind.i64.wrap (G + B) = G + B := i64_id (by omega) (by omega)
    have hGB : ¬ G + B < 0 := by omega
    have hB0 : ¬ B < 0 := by omega
    by_cases hbr : 16 < d + G + B
    · have HR := HR7
      have HT := HT7
      have HO := HO7
      clear HR7 HT7 HO7
      go_wp2_with fail
      refine (odd_any _ _ _ _ (by omega) HR.out (by omega)).mono ?_
      rintro e w8 ⟨q, rfl, hR8, hO8⟩
      cases q
      · have HT8 := Lib.hid (HT.out.only hO8 hbB).rd
        have HB8 := Lib.hid ((HO.out.trans hO8).to_below hb1 hb)
        clear HT HO HR hR8 hO8
        go_wp2_with fail
        refine bodyPost_ret (v := .tuple #[.slice (some ⟨g, o, none⟩) n c, .int .i64 i, .int .i64 a, .int .i64 d]) (by simp [results, Try.results40, go_sem]) rfl ⟨_, n, c, ts, i, a, d, rfl, HT8.out, n1, n2, hc, hc2, HS.out, HB8.out⟩
      · go_wp2_with fail
        refine (pick_any _ _ _ _ (by omega) hR8).mono ?_
        rintro e w9 ⟨a', rfl, -, -, hR9, hO9⟩
        go_wp2_with fail
        refine (pick_any _ _ _ _ (by omega) hR9).mono ?_
        rintro e w10 ⟨d', rfl, -, -, hR10, hO10⟩
        have hO10' := hO8.trans (hO9.trans hO10)
        have HT8 := Lib.hid (HT.out.only hO10' hbB).rd
        have HB8 := Lib.hid ((HO.out.trans hO10').to_below hb1 hb)
        clear HT HO HR hR8 hO8 hR9 hO9 hR10 hO10 hO10'
        go_wp2_with fail
        refine bodyPost_ret (v := .tuple #[.slice (some ⟨g, o, none⟩) n c, .int .i64 i, .int .i64 a', .int .i64 d']) (by simp [results, Try.results40, go_sem]) rfl ⟨_, n, c, ts, i, a', d', rfl, HT8.out, n1, n2, hc, hc2, HS.out, HB8.out⟩
    go_wp2_with fail
    go_quiet (fail)
    go_wp2_with fail
    all_goals
      refine ⟨⟨_, _, _, _, _, rfl, rfl, rfl, rfl, ?_, ?_, ?_, ?_, ?_, HR7.out, HT7.out, HO7.out.drewN _⟩, ?_⟩
      all_goals clear HR7 HT7 HO7 HS hq
      all_goals first | omega | (simp [intOf]; omega)

end Go.Proofs.Ytdafogfpbpjmdaa
