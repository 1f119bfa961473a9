/- lookup and LookupSlot of the program. No condition beyond those written. -/
import Derived.Test.YtdafogfpbpjmdaaLook
namespace Go.Proofs.Ytdafogfpbpjmdaa
open Go.RowKit
set_option linter.unusedVariables false

set_option maxRecDepth 8000 in
set_option maxHeartbeats 8000000 in
theorem impl_lookup (A : Option Addr) (n c : Nat) (ts : List Tab) (i a d : Int) (w : World) (h : TabRd w A n ts) (hok : tabsOk ts = true) (d0 : 0 ≤ d) (d1 : d ≤ 16) (a0 : 0 ≤ a) (a1 : a ≤ pw d - 1) :
    Calls Try.prog 53 #[.slice A n c, .int .i64 i, .int .i64 a, .int .i64 d] w fun e w' => e = .returned (lookV (lookF ts (d.toNat + 1) i a d)) ∧ Below w.heap.size w w' := by
  have hl := h.1
  obtain ⟨hall, hten⟩ := tabsOk_iff.1 hok
  have hn : n ≤ 10 := by omega
  have HL := Lib.hid hl
  have HALL := Lib.hid hall
  have H := Lib.hid h
  have HD : Hid (0 ≤ d ∧ d ≤ 16 ∧ 0 ≤ a ∧ a ≤ pw d - 1) := ⟨d0, d1, a0, a1⟩
  have hw1 : IntKind.i64.wrap ((n : Int) - 1) = (n : Int) - 1 := by rw [IntKind.wrap_i64]; omega
  generalize hR : lookF ts (d.toNat + 1) i a d = R
  have HR := Lib.hid hR
  clear h hl hall hten hok d0 d1 a0 a1 hR
  go_enter Try.func53, Try.ntmps53
  go_wp2_with fail
  go_loopw [1, 2, 3] (fun vi va vd wr => ∃ (f : Nat) (i a d : Int), vi = .int .i64 i ∧ va = .int .i64 a ∧ vd = .int .i64 d ∧ 0 ≤ d ∧ d ≤ 16 ∧ 0 ≤ a ∧ a ≤ pw d - 1 ∧ lookF ts (f + 1) i a d = R ∧ d.toNat ≤ f ∧ Below w.heap.size w wr) (fun vi va vd _ => (intOf vd).toNat)
  case atStart => exact ⟨d.toNat, i, a, d, rfl, rfl, rfl, HD.out.1, HD.out.2.1, HD.out.2.2.1, HD.out.2.2.2, HR.out, by omega, Below.refl _ _⟩
  case round =>
    clear HD HR
    obtain ⟨f, i, a, d, rfl, rfl, rfl, d0, d1, a0, a1, hlook, hf, hb⟩ := hrel
    have hpm := pw_max d1
    cases hi : inB i 0 ((n : Int) - 1)
    · have hno : R = none := by rw [← hlook]; exact lookF_out (by rw [HL.out]; exact hi)
      have HB := Lib.hid hb
      subst hno
      clear hlook hb
      go_wp2_with (first | (go_at_call 47; refine (impl_in _ _ _ _).mono ?_; rintro e w' ⟨rfl, rfl⟩))
      go_ret3
      exact ⟨lookV_none.symm, HB.out⟩
    · obtain ⟨i0, i1⟩ := inB_iff.1 hi
      obtain ⟨t, rfl⟩ := Int.eq_ofNat_of_zero_le i0
      have ht : t < n := by omega
      have ht' : (t : Int) < (n : Int) := by omega
      rw [lookF_in (by rw [HL.out]; exact ht)] at hlook
      have hRW := H.out.below hb
      obtain ⟨g, o, rfl, hgl, hcells⟩ := hRW.2 (by omega)
      obtain ⟨S, cS, t0, t1, t2, t3, -, -, hcap⟩ := hcells t ht
      obtain ⟨hhead, hcaps⟩ := tabOk_iff.1 (HALL.out t (by rw [HL.out]; exact ht))
      obtain ⟨⟨b0, b1⟩, ⟨g0, g1⟩, ⟨u0, u1⟩, hq⟩ := headOk_iff.1 hhead
      have HCAPS := Lib.hid hcaps
      have HB := Lib.hid hb
      have HCAP := Lib.hid hcap
      have hpb := pw_pos (ts.getD t T0).bits
      have hpb4 := pw4 b1
      have hpg4 := pw4 g1
      clear i1 hRW hcells hcap hhead hcaps hb
      obtain ⟨B, gd, G, sl, hx⟩ : ∃ B gd G sl, ts.getD t T0 = ⟨B, gd, G, sl⟩ := ⟨_, _, _, _, rfl⟩
      rw [hx] at t0 t1 t2 t3 hlook b0 b1 g0 g1 u0 u1 hq hpb hpb4 hpg4 HCAPS HCAP
      simp only at t0 t1 t2 t3 hlook b0 b1 g0 g1 u0 u1 hq hpb hpb4 hpg4 HCAPS HCAP
      generalize hql : sl.length = q at *
      have hwA : wrap64 (G + B) = G + B := wrap_id (by omega) (by omega)
      by_cases hlt : d < G + B
      · rw [if_pos hlt] at hlook
        subst hlook
        go_wp2_with (first | (go_at_call 47; refine (impl_in _ _ _ _).mono ?_; rintro e w' ⟨rfl, rfl⟩))
        go_ret3
        exact ⟨lookV_none.symm, below_al HB.out _⟩
      · rw [if_neg hlt] at hlook
        have hge : ¬ G + B > d := by omega
        have hdd : (d - G).toNat ≤ 16 := by omega
        have hsA : wrap64 (2 ^ (d - G).toNat) = pw (d - G) := pw_wrap (by omega)
        have hsB : wrap64 (2 ^ (d - G - B).toNat) = pw (d - G - B) := pw_wrap (by omega)
        have hpdg := pw_max (b := d - G) (by omega)
        have hpd' := pw_max (b := d - G - B) (by omega)
        have hpdg1 := pw_pos (d - G)
        have hpd'1 := pw_pos (d - G - B)
        have e0 := emod_lt_pw a (d - G)
        have e1 := emod_lt_pw a (d - G - B)
        have e2 := emod_lt_pw (a / pw (d - G - B)) B
        have hmA : bits .and .i64 a (pw (d - G) - 1) = a % pw (d - G) := mask_pw a0 (by omega) (by omega) (by omega)
        have hmB : bits .and .i64 (a % pw (d - G)) (pw (d - G - B) - 1) = a % pw (d - G - B) := by
          rw [mask_pw e0.1 (by omega) (by omega) (by omega)]
          exact mod_mod_pw (by omega) (by omega)
        have hfA : a / 2 ^ (d - G).toNat = a / pw (d - G) := rfl
        have hfB : (a % pw (d - G)) / 2 ^ (d - G - B).toNat = a / pw (d - G - B) % pw B := by
          show (a % pw (d - G)) / pw (d - G - B) = _
          have h := digits (a := a) (x := d - G - B) (y := B) a0 (by omega) (by omega)
          rwa [show d - G - B + B = d - G by omega] at h
        generalize hPP : pw (d - G - B) = P2 at *
        have HPP := Lib.hid hPP
        clear hPP
        generalize pw (d - G) = P1 at *
        have hsA1 : wrap64 (P1 - 1) = P1 - 1 := wrap_id (by omega) (by omega)
        have hsB1 : wrap64 (P2 - 1) = P2 - 1 := wrap_id (by omega) (by omega)
        generalize a % P1 = M1 at *
        generalize a % P2 = M2 at *
        generalize a / P2 % pw B = Z at *
        generalize a / P1 = X at *
        by_cases hxg : X = gd
        · rw [if_pos hxg] at hlook
          subst hxg
          have hxx : (X != X) = false := by simp
          by_cases hz : d - G - B = 0
          · rw [if_pos hz] at hlook
            subst hlook
            have hzz : (d - G - B == 0) = true := by rw [hz]; rfl
            clear hz e0 e1 hge
            go_wp2_with (first | (go_at_call 47; refine (impl_in _ _ _ _).mono ?_; rintro e w' ⟨rfl, rfl⟩))
            go_ret3
            exact ⟨(lookV_some _ _).symm, below_al HB.out _⟩
          · rw [if_neg hz] at hlook
            have hzz : (d - G - B == 0) = false := by rw [beq_eq_false_iff_ne]; exact hz
            have hd0 : 0 ≤ d - G - B := by omega
            have hdm : (d - G - B).toNat < d.toNat := by omega
            have hdf : ∃ f', f = f' + 1 ∧ (d - G - B).toNat ≤ f' := ⟨f - 1, by omega, by omega⟩
            obtain ⟨f', hf', hff⟩ := hdf
            rw [hf'] at hlook
            obtain ⟨k, hk⟩ := Int.eq_ofNat_of_zero_le e2.1
            have hkq : k < q := by omega
            have hkq' : (k : Int) < (q : Int) := by omega
            rw [hk] at hfB hlook
            rw [capAt_nat] at hlook
            obtain ⟨gs, os, rfl, hgs, hcc⟩ := (HCAP.out.below (below_al (Below.refl _ wr) (.cells #[.int .i64 B, .int .i64 X, .int .i64 G, .slice S q cS] 29))).2 (by omega)
            obtain ⟨q0, q1, q2, q3⟩ := hcc k hkq
            obtain ⟨x, y, u, v, hcx⟩ : ∃ x y u v, sl.getD k C0 = ⟨x, y, u, v⟩ := ⟨_, _, _, _, rfl⟩
            rw [hcx] at q0 q1 q2 q3 hlook
            simp only at q0 q1 q2 q3 hlook
            have HM2 : Hid (0 ≤ M2 ∧ M2 ≤ P2 - 1) := e1
            have HP2 : Hid (d - G - B ≤ 16) := by show _ ≤ _; omega
            clear e0 e1 e2 hge hcc HCAP HCAPS hk hf' hf hz hq hpm hx hcx
            by_cases hx2 : x = 2
            · rw [if_pos hx2] at hlook
              subst hx2
              have HLOOK := Lib.hid hlook
              clear hlook
              go_wp2_with (first | (go_at_call 47; refine (impl_in _ _ _ _).mono ?_; rintro e w' ⟨rfl, rfl⟩))
              go_roundw
              case rel => exact ⟨f', y, M2, d - G - B, rfl, rfl, rfl, hd0, HP2.out, HM2.out.1, by rw [HPP.out]; exact HM2.out.2, HLOOK.out, hff, below_al HB.out _⟩
              case measure => simpa [intOf] using hdm
            · rw [if_neg hx2] at hlook
              subst hlook
              have hxb : (x != 2) = true := by rw [bne_iff_ne]; exact hx2
              clear hx2
              go_wp2_with (first | (go_at_call 47; refine (impl_in _ _ _ _).mono ?_; rintro e w' ⟨rfl, rfl⟩))
              go_ret3
              exact ⟨lookV_none.symm, below_al HB.out _⟩
        · rw [if_neg hxg] at hlook
          subst hlook
          have hxx : (X != gd) = true := by rw [bne_iff_ne]; exact hxg
          clear hxg e0 e1 hge
          go_wp2_with (first | (go_at_call 47; refine (impl_in _ _ _ _).mono ?_; rintro e w' ⟨rfl, rfl⟩))
          go_ret3
          exact ⟨lookV_none.symm, below_al HB.out _⟩

set_option maxRecDepth 8000 in
set_option maxHeartbeats 4000000 in
theorem impl_LookupSlot (A : Option Addr) (n c : Nat) (ts : List Tab) (i a d : Int) (w : World) (h : TabRd w A n ts) (hn : n ≤ 2000000) (hs : SmallT ts) :
    Calls Try.prog 29 #[.slice A n c, .int .i64 i, .int .i64 a, .int .i64 d] w fun e w' => e = .returned (lookV (look ts i a d)) ∧ Below w.heap.size w w' := by
  have hv := impl_TablesValid A n c ts w h hn hs
  cases hd : tabsOk ts
  · rw [hd] at hv
    have HV : Hid (look ts i a d = none) := by show _ = _; unfold look; rw [hd]; rfl
    clear h hs
    go_enter Try.func29, Try.ntmps29
    go_wp2_with fail
    refine hv.mono ?_
    rintro e w1 ⟨rfl, hb1⟩
    go_wp2_with fail
    go_ret3
    exact ⟨by rw [HV.out]; rfl, hb1⟩
  · rw [hd] at hv
    cases h1 : inB d 1 16
    · have HV : Hid (look ts i a d = none) := by show _ = _; unfold look; rw [hd, h1]; rfl
      clear h hs
      go_enter Try.func29, Try.ntmps29
      go_wp2_with fail
      refine hv.mono ?_
      rintro e w1 ⟨rfl, hb1⟩
      go_wp2_with (first | (go_at_call 47; refine (impl_in _ _ _ _).mono ?_; rintro e w' ⟨rfl, rfl⟩))
      go_ret3
      exact ⟨by rw [HV.out]; rfl, hb1⟩
    · obtain ⟨d0, d1⟩ := inB_iff.1 h1
      have hd0 : 0 ≤ d := by omega
      have hsA : wrap64 (2 ^ d.toNat) = pw d := pw_wrap (by omega)
      have hp1 := pw_pos d
      have hp2 := pw_max (b := d) (by omega)
      have hsA1 : wrap64 (pw d - 1) = pw d - 1 := wrap_id (by omega) (by omega)
      have hsA2 : IntKind.i64.wrap (pw d - 1) = pw d - 1 := i64_id (by omega) (by omega)
      cases h2 : inB a 0 (pw d - 1)
      · have HV : Hid (look ts i a d = none) := by show _ = _; unfold look; rw [hd, h1, h2]; rfl
        clear h hs
        go_enter Try.func29, Try.ntmps29
        go_wp2_with fail
        refine hv.mono ?_
        rintro e w1 ⟨rfl, hb1⟩
        go_wp2_with (first | (go_at_call 47; refine (impl_in _ _ _ _).mono ?_; rintro e w' ⟨rfl, rfl⟩))
        go_ret3
        exact ⟨by rw [HV.out]; rfl, hb1⟩
      · have HV : Hid (look ts i a d = lookF ts (d.toNat + 1) i a d) := by show _ = _; unfold look; rw [hd, h1, h2]; rfl
        obtain ⟨a0, a1⟩ := inB_iff.1 h2
        have hlk := fun W (hW : Below w.heap.size w W) => impl_lookup A n c ts i a d W (h.below hW) hd hd0 d1 a0 a1
        rw [← HV.out] at hlk
        clear h hs HV
        go_enter Try.func29, Try.ntmps29
        go_wp2_with fail
        refine hv.mono ?_
        rintro e w1 ⟨rfl, hb1⟩
        go_wp2_with (first | (go_at_call 47; refine (impl_in _ _ _ _).mono ?_; rintro e w' ⟨rfl, rfl⟩))
        refine (hlk _ hb1).mono ?_
        rintro e w2 ⟨rfl, hb2⟩
        have hB2 := below_next hb1 hb2
        clear hlk hb1 hb2 hv
        cases hLK : look ts i a d with
        | none =>
          have HLK := Lib.hid hLK
          clear hLK
          simp only [lookV]
          go_wp2_with fail
          go_ret3
          exact ⟨by rw [HLK.out]; rfl, hB2⟩
        | some z =>
          obtain ⟨t, s⟩ := z
          have HLK := Lib.hid hLK
          clear hLK
          simp only [lookV]
          go_wp2_with fail
          go_ret3
          exact ⟨by rw [HLK.out]; rfl, hB2⟩

end Go.Proofs.Ytdafogfpbpjmdaa
