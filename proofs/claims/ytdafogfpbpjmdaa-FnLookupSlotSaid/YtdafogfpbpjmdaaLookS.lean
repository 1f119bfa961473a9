/- LookupSlot of the reference. No condition beyond those written. -/
import Derived.Test.YtdafogfpbpjmdaaLook
namespace Go.Proofs.Ytdafogfpbpjmdaa
open Go.RowKit
set_option linter.unusedVariables false

theorem cpOk_object {x y u v : Int} (h : cpOk ⟨x, y, u, v⟩ = true) : 0 ≤ y := by
  have hb := capOk_bounds (show capOk x y u v = true from h)
  omega

set_option maxRecDepth 8000 in
set_option maxHeartbeats 16000000 in
theorem spec_LookupSlot (A : Option Addr) (n c : Nat) (ts : List Tab) (i a d : Int) (w : World) (h : TabRd w A n ts) (hn : n ≤ 2000000) (hs : SmallT ts) :
    Calls Try.prog 28 #[.slice A n c, .int .i64 i, .int .i64 a, .int .i64 d] w fun e w' => e = .returned (lookV (look ts i a d)) ∧ Below w.heap.size w w' := by
  have hv := spec_TablesValid A n c ts w h hn hs
  have hw1 : IntKind.i64.wrap ((n : Int) - 1) = (n : Int) - 1 := by rw [IntKind.wrap_i64]; omega
  have hl := h.1
  cases hd : tabsOk ts
  · rw [hd] at hv
    have HV : Hid (look ts i a d = none) := by show _ = _; unfold look; rw [hd]; rfl
    clear h hs hl
    go_enter Try.func28, Try.ntmps28
    go_wp2_with fail
    refine hv.mono ?_
    rintro e w1 ⟨rfl, hb1⟩
    go_wp2_with fail
    go_ret3
    exact ⟨by rw [HV.out]; rfl, hb1⟩
  · rw [hd] at hv
    cases h0 : inB i 0 ((n : Int) - 1)
    · have HV : Hid (look ts i a d = none) := by
        show _ = _
        unfold look
        split
        · exact lookF_out (by rw [hl]; exact h0)
        · rfl
      clear h hs hl
      go_enter Try.func28, Try.ntmps28
      go_wp2_with fail
      refine hv.mono ?_
      rintro e w1 ⟨rfl, hb1⟩
      go_wp2_with (first | (go_at_call 44; refine (spec_in _ _ _ _).mono ?_; rintro e w' ⟨rfl, rfl⟩))
      go_ret3
      exact ⟨by rw [HV.out]; rfl, hb1⟩
    cases h1 : inB d 1 16
    · have HV : Hid (look ts i a d = none) := by show _ = _; unfold look; rw [hd, h1]; rfl
      clear h hs hl
      go_enter Try.func28, Try.ntmps28
      go_wp2_with fail
      refine hv.mono ?_
      rintro e w1 ⟨rfl, hb1⟩
      go_wp2_with (first | (go_at_call 44; refine (spec_in _ _ _ _).mono ?_; rintro e w' ⟨rfl, rfl⟩))
      go_ret3
      exact ⟨by rw [HV.out]; rfl, hb1⟩
    · obtain ⟨d0, d1⟩ := inB_iff.1 h1
      have hd0 : 0 ≤ d := by omega
      have hsA : wrap64 (2 ^ d.toNat) = pw d := pw_wrap (by omega)
      have hp1 := pw_pos d
      have hp2 := pw_max (b := d) (by omega)
      have hsA1 : wrap64 (pw d - 1) = pw d - 1 := wrap_id (by omega) (by omega)
      have hsA2 : IntKind.i64.wrap (pw d - 1) = pw d - 1 := i64_id (by omega) (by omega)
      cases h2 : inB a 0 (pw d - 1)
      · have HV : Hid (look ts i a d = none) := by show _ = _; unfold look; rw [hd, h1, h2]; rfl
        clear h hs hl
        go_enter Try.func28, Try.ntmps28
        go_wp2_with fail
        refine hv.mono ?_
        rintro e w1 ⟨rfl, hb1⟩
        go_wp2_with (first | (go_at_call 44; refine (spec_in _ _ _ _).mono ?_; rintro e w' ⟨rfl, rfl⟩))
        go_ret3
        exact ⟨by rw [HV.out]; rfl, hb1⟩
      · have HV : Hid (look ts i a d = lookF ts (d.toNat + 1) i a d) := by show _ = _; unfold look; rw [hd, h1, h2]; rfl
        obtain ⟨a0, a1⟩ := inB_iff.1 h2
        obtain ⟨i0, i1⟩ := inB_iff.1 h0
        obtain ⟨hall, hten⟩ := tabsOk_iff.1 hd
        have hn10 : n ≤ 10 := by omega
        have HL := Lib.hid hl
        have HALL := Lib.hid hall
        have H := Lib.hid h
        have HD : Hid (0 ≤ d ∧ d ≤ 16 ∧ 0 ≤ a ∧ a ≤ pw d - 1) := ⟨hd0, d1, a0, a1⟩
        obtain ⟨t, rfl⟩ := Int.eq_ofNat_of_zero_le i0
        have HT0 : Hid (t < n) := by show _ < _; omega
        rw [HV.out]
        generalize hR : lookF ts (d.toNat + 1) t a d = R
        have HR := Lib.hid hR
        clear h hs hl hall hten hR i0 i1 hd HV
        go_enter Try.func28, Try.ntmps28
        go_wp2_with fail
        refine hv.mono ?_
        rintro e w1 ⟨rfl, hb1⟩
        have HB1 := Lib.hid hb1
        clear hv hb1
        go_wp2_with (first | (go_at_call 44; refine (spec_in _ _ _ _).mono ?_; rintro e w' ⟨rfl, rfl⟩))
        clear d0 d1 hd0 hsA hp1 hp2 hsA1 hsA2 a0 a1 h0 h1 h2
        go_loopw [1, 2, 3] (fun vi va vd wr => ∃ (f t : Nat) (a d : Int), vi = .int .i64 t ∧ va = .int .i64 a ∧ vd = .int .i64 d ∧ 0 ≤ d ∧ d ≤ 16 ∧ 0 ≤ a ∧ a ≤ pw d - 1 ∧ t < n ∧ lookF ts (f + 1) t a d = R ∧ d.toNat ≤ f ∧ Below w.heap.size w wr) (fun vi va vd _ => (intOf vd).toNat)
        case atStart => exact ⟨d.toNat, t, a, d, rfl, rfl, rfl, HD.out.1, HD.out.2.1, HD.out.2.2.1, HD.out.2.2.2, HT0.out, HR.out, by omega, HB1.out⟩
        case round =>
          clear HD HR HT0 HB1
          obtain ⟨f, t, a, d, rfl, rfl, rfl, d0, d1, a0, a1, ht, hlook, hf, hb⟩ := hrel
          have hpm := pw_max d1
          have ht' : (t : Int) < (n : Int) := by omega
          have ht0 : (0 : Int) ≤ (t : Int) := by omega
          rw [lookF_in (by rw [HL.out]; exact ht)] at hlook
          have hRW := H.out.below hb
          obtain ⟨g, o, rfl, hgl, hcells⟩ := hRW.2 (by omega)
          obtain ⟨S, cS, t0, t1, t2, t3, -, -, hcap⟩ := hcells t ht
          obtain ⟨hhead, hcaps⟩ := tabOk_iff.1 (HALL.out t (by rw [HL.out]; exact ht))
          obtain ⟨⟨b0, b1⟩, ⟨g0, g1⟩, ⟨u0, u1⟩, hq⟩ := headOk_iff.1 hhead
          have HCAPS := Lib.hid hcaps
          have HB := Lib.hid hb
          have HCAP := Lib.hid hcap
          have hpb := pw_pos (ts.getD t T0).bits
          have hpb4 := pw4 b1
          have hpg4 := pw4 g1
          clear hRW hcells hcap hhead hcaps hb
          obtain ⟨B, gd, G, sl, hx⟩ : ∃ B gd G sl, ts.getD t T0 = ⟨B, gd, G, sl⟩ := ⟨_, _, _, _, rfl⟩
          rw [hx] at t0 t1 t2 t3 hlook b0 b1 g0 g1 u0 u1 hq hpb hpb4 hpg4 HCAPS HCAP
          simp only at t0 t1 t2 t3 hlook b0 b1 g0 g1 u0 u1 hq hpb hpb4 hpg4 HCAPS HCAP
          generalize hql : sl.length = q at *
          have hCt : CAt (wr.alloc (.cells #[.int .i64 B, .int .i64 gd, .int .i64 G, .slice S q cS] 29)) wr.heap.size 29 [.int .i64 B, .int .i64 gd, .int .i64 G, .slice S q cS] := CAt.new wr _ _
          obtain ⟨y0, y1, y2, y3⟩ := hCt.cells4
          clear hCt
          have hwA : IntKind.i64.wrap (G + B) = G + B := i64_id (by omega) (by omega)
          by_cases hlt : d < G + B
          · rw [if_pos hlt] at hlook
            subst hlook
            go_wp2_with fail
            go_quiet (fail)
            go_wp2_with fail
            go_ret3
            exact ⟨lookV_none.symm, below_drewN' (below_al HB.out _) _⟩
          · rw [if_neg hlt] at hlook
            have hlt' : decide (d < G + B) = false := decide_eq_false hlt
            have hwB : IntKind.i64.wrap (d - G) = d - G := i64_id (by omega) (by omega)
            have hdg0 : ¬ d - G < 0 := by omega
            have hdd0 : ¬ d - G - B < 0 := by omega
            have hdg1 : 0 ≤ d - G := by omega
            have hsB : wrap64 (2 ^ (d - G - B).toNat) = pw (d - G - B) := pw_wrap (by omega)
            have hsb : IntKind.i64.wrap (2 ^ B.toNat) = pw B := pw_i64 (by omega)
            have hpd' := pw_max (b := d - G - B) (by omega)
            have hpdg1 := pw_pos (d - G)
            have hpd'1 := pw_pos (d - G - B)
            have e1 := emod_lt_pw a (d - G - B)
            have e2 := emod_lt_pw (a / pw (d - G - B)) B
            have hfA : a / 2 ^ (d - G).toNat = a / pw (d - G) := rfl
            have hfA2 : a.fdiv (2 ^ (d - G).toNat) = a / pw (d - G) := fdiv_pw a0
            have hfB : a / 2 ^ (d - G - B).toNat = a / pw (d - G - B) := rfl
            have hfB2 : a.fdiv (2 ^ (d - G - B).toNat) = a / pw (d - G - B) := fdiv_pw a0
            have hX0 : 0 ≤ a / pw (d - G - B) := Int.ediv_nonneg a0 (by omega)
            have htB : (a / pw (d - G - B)).tmod (pw B) = a / pw (d - G - B) % pw B := tmod_pw hX0
            have htA : a.tmod (pw (d - G - B)) = a % pw (d - G - B) := tmod_pw a0
            have hb0 : ¬ pw B = 0 := by omega
            have hp0 : ¬ pw (d - G - B) = 0 := by omega
            generalize hPP : pw (d - G - B) = P2 at *
            have HPP := Lib.hid hPP
            clear hPP
            generalize pw (d - G) = P1 at *
            generalize hBB : pw B = PB at *
            have HBB := Lib.hid hBB
            clear hBB
            generalize a % P2 = M2 at *
            generalize a / P2 % PB = Z at *
            generalize a / P2 = Y at *
            generalize a / P1 = X at *
            by_cases hxg : X = gd
            · rw [if_pos hxg] at hlook
              subst hxg
              have hxx : (X != X) = false := by simp
              by_cases hz : d - G - B = 0
              · rw [if_pos hz] at hlook
                subst hlook
                have hzz : (d - G - B == 0) = true := by rw [hz]; rfl
                clear hz
                go_wp2_with fail
                go_quiet (fail)
                go_wp2_with fail
                go_quiet (fail)
                go_wp2_with fail
                go_ret3
                refine ⟨(lookV_some _ _).symm, ?_⟩
                have h := HB.out
                repeat (with_reducible first | exact h | refine below_al ?_ _ | refine below_drewN' ?_ _)
              · rw [if_neg hz] at hlook
                have hzz : (d - G - B == 0) = false := by rw [beq_eq_false_iff_ne]; exact hz
                have hd0 : 0 ≤ d - G - B := by omega
                have hdm : (d - G - B).toNat < d.toNat := by omega
                have hdf : ∃ f', f = f' + 1 ∧ (d - G - B).toNat ≤ f' := ⟨f - 1, by omega, by omega⟩
                obtain ⟨f', hf', hff⟩ := hdf
                rw [hf'] at hlook
                obtain ⟨k, hk⟩ := Int.eq_ofNat_of_zero_le e2.1
                have hkq : k < q := by omega
                have hkq' : (k : Int) < (q : Int) := by omega
                have hk0 : (0 : Int) ≤ (k : Int) := by omega
                rw [hk] at htB hlook
                rw [capAt_nat] at hlook
                have hcok := HCAPS.out k hkq
                obtain ⟨gs, os, rfl, hgs, hcc⟩ := (HCAP.out.below (below_al (Below.refl _ wr) (.cells #[.int .i64 B, .int .i64 X, .int .i64 G, .slice S q cS] 29))).2 (by omega)
                obtain ⟨q0, q1, q2, q3⟩ := hcc k hkq
                obtain ⟨x, y, u, v, hcx⟩ : ∃ x y u v, sl.getD k C0 = ⟨x, y, u, v⟩ := ⟨_, _, _, _, rfl⟩
                rw [hcx] at q0 q1 q2 q3 hlook hcok
                simp only at q0 q1 q2 q3 hlook
                have hy0 : 0 ≤ y := cpOk_object hcok
                have HM2 : Hid (0 ≤ M2 ∧ M2 ≤ P2 - 1) := e1
                have HP2 : Hid (d - G - B ≤ 16) := by show _ ≤ _; omega
                clear e1 e2 hcc HCAP HCAPS hk hf' hf hz hpm hx hcx hcok
                by_cases hx2 : x = 2
                · rw [if_pos hx2] at hlook
                  subst hx2
                  obtain ⟨t', rfl⟩ := Int.eq_ofNat_of_zero_le hy0
                  by_cases hyn : t' < n
                  · have hyn' : ¬ (t' : Int) ≥ (n : Int) := by omega
                    have hyn2 : decide ((n : Int) ≤ (t' : Int)) = false := decide_eq_false (by omega)
                    have HLOOK := Lib.hid hlook
                    clear hlook
                    go_wp2_with fail
                    go_quiet (fail)
                    go_wp2_with fail
                    go_quiet (fail)
                    go_wp2_with fail
                    go_roundw
                    case rel => exact ⟨f', t', M2, d - G - B, rfl, rfl, rfl, hd0, HP2.out, HM2.out.1, by rw [HPP.out]; exact HM2.out.2, hyn, HLOOK.out, hff, by
                      have h := HB.out
                      repeat (with_reducible first | exact h | refine below_al ?_ _ | refine below_drewN' ?_ _)⟩
                    case measure => simpa [intOf] using hdm
                  · have hyn' : (t' : Int) ≥ (n : Int) := by omega
                    have hno : R = none := by
                      rw [← hlook]
                      refine lookF_out ?_
                      rw [HL.out]
                      cases hc : inB (t' : Int) 0 ((n : Int) - 1)
                      · rfl
                      · have := (inB_iff.1 hc).2
                        omega
                    subst hno
                    clear hlook
                    go_wp2_with fail
                    go_quiet (fail)
                    go_wp2_with fail
                    go_quiet (fail)
                    go_wp2_with fail
                    go_ret3
                    refine ⟨lookV_none.symm, ?_⟩
                    have h := HB.out
                    repeat (with_reducible first | exact h | refine below_al ?_ _ | refine below_drewN' ?_ _)
                · rw [if_neg hx2] at hlook
                  subst hlook
                  have hxb : (x != 2) = true := by rw [bne_iff_ne]; exact hx2
                  clear hx2
                  go_wp2_with fail
                  go_quiet (fail)
                  go_wp2_with fail
                  go_quiet (fail)
                  go_wp2_with fail
                  go_ret3
                  refine ⟨lookV_none.symm, ?_⟩
                  have h := HB.out
                  repeat (with_reducible first | exact h | refine below_al ?_ _ | refine below_drewN' ?_ _)
            · rw [if_neg hxg] at hlook
              subst hlook
              have hxx : (X != gd) = true := by rw [bne_iff_ne]; exact hxg
              have hxx2 : (X == gd) = false := by rw [beq_eq_false_iff_ne]; exact hxg
              clear hxg e1
              go_wp2_with fail
              go_quiet (fail)
              go_wp2_with fail
              go_ret3
              exact ⟨lookV_none.symm, below_drewN' (below_al HB.out _) _⟩

end Go.Proofs.Ytdafogfpbpjmdaa
