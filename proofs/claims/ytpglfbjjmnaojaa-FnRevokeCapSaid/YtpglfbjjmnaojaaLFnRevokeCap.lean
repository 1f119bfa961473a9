/- The law FnRevokeCap: whatever its arguments, the call returns true, and every argument reads afterwards as it read before. No condition. -/
import Derived.Test.YtpglfbjjmnaojaaTreeSame
namespace Go.Proofs.Ytpglfbjjmnaojaa
open Go.ChangeShapes Go.WideShapes Go.ChangeAt Go.RowKit
open Go.ChangeMaps (open_string shut_string)
set_option linter.unusedVariables false

set_option maxRecDepth 100000 in
set_option maxHeartbeats 16000000 in
theorem walk_FnRevokeCap (v0 : Value) (w : World) (w0 : BytesIn w v0) :
    Calls Try.prog 10 #[v0] w fun e w' => e = .returned (.bool true) ∧ Below w.heap.size w w' := by
  have hd := drawRevokeCap v0 w w0
  obtain ⟨Ac, nc, capc, bs, rfl, hnc, hcc, _⟩ := w0
  by_cases h20 : (1048576 : Int) < (nc : Int)
  · go_enter Try.func10, Try.ntmps10
    go_wp2_with fail
    go_ret
    exact ⟨rfl, Below.refl _ _⟩
  · go_enter Try.func10, Try.ntmps10
    go_wp2_with fail
    refine hd.mono ?_
    rintro e w1 ⟨A, k, c, es, n, rfl, hE, hk, hB⟩
    have hK1 := EntK.of hE hB hB.size
    have hlen := hE.1
    clear hE hB hd
    go_wp2_with fail
    refine (impl_RevokeCap A k c _ es n _ hK1.1 (by omega)).mono ?_
    rintro e w2 ⟨X, x, rfl, hX2, hb2⟩
    have hK2 := EntK.step hb2 ⟨hK1, trivial⟩
    clear hK1 hb2
    have hLle := revL_len es n
    go_wp2_with fail
    refine (spec_RevokeCap_e A k c _ es n _ hK2.1 (by omega)).mono ?_
    rintro e w3 ⟨Y, y, rfl, hY3, hb3⟩
    have hK3 := EntK.step hb3 ⟨hK2, trivial⟩
    have hX3 := hX2.below hb3
    clear hK2 hX2 hb3
    go_wp2_with fail
    refine (laws_sameTree X Y (revL es n).length x y _ _ (revL es n) _ hX3 hY3 (by omega)).mono ?_
    rintro e w4 ⟨rfl, hb4⟩
    have hK4 := EntK.step hb4 ⟨hK3, trivial⟩
    have hX4 := hX3.below hb4
    clear hK3 hX3 hY3 hb4
    cases hl : liveB es n
    · rw [revL_dead hl] at *
      go_wp2_with fail
      refine (laws_alive _).mono ?_
      rintro e wz ⟨rfl, hbz⟩
      go_wp2_with fail
      go_ret
      exact ⟨rfl, below_next hK4.2.1 hbz⟩
    · rw [revL_live hl] at *
      obtain ⟨hv, ⟨n0, n1⟩, hgn⟩ := liveB_iff.1 hl
      obtain ⟨m, rfl⟩ := Int.eq_ofNat_of_zero_le n0
      have hmk : m < k := by omega
      have hmk' : (m : Int) < (k : Int) := by omega
      have hm0 : (0 : Int) ≤ (m : Int) := by omega
      have hXl : (revokeE es m).length = k := by rw [revokeE_len]; exact hlen
      rw [hXl] at hX4 hLle ⊢
      clear hLle n0 n1
      have hkne : ((k : Int) == 0) = false := by rw [beq_eq_false_iff_ne]; omega

      have HV := Lib.hid hv
      have HL := Lib.hid hl
      have HG := Lib.hid hgn
      have HLEN := Lib.hid hlen
      have hdl := fun j => descTo_len es m j
      have hx := impl_Descendants X k x w1.heap.size (revokeE es m) m
      have hy := impl_Descendants A k c w.heap.size es m
      have hz := impl_DerivationValid X k x w1.heap.size (revokeE es m)
      rw [descL_live (revoke_keeps_live hl (.inl rfl)), desc_revoked hv (by omega)] at hx
      rw [descL_live hl] at hy
      rw [dValid_revoke hv (by omega)] at hz
      have HXX := Lib.hid hx
      have HYY := Lib.hid hy
      have HZZ := Lib.hid hz
      have HK := Lib.hid hK4
      have HX := Lib.hid hX4
      obtain ⟨gA, rfl, -, hgA, hcA, -⟩ := hK4.1.at_ (by omega)
      obtain ⟨gX, rfl, -, hgX, hcX, -⟩ := hX4.at_ (by omega)
      have HCA := Lib.hid hcA
      have HCX := Lib.hid hcX
      clear hcA hcX hK4 hX4 hx hy hz hv hl hgn hlen hXl
      go_wp2_with fail
      go_loopw [6, 7] (fun gv i wr => ∃ j q : Nat, j ≤ k ∧ i = .int .i64 j ∧ gv = .int .i64 ((descTo es m j).length : Nat) ∧ wr = w4.drewN q) (fun _ i _ => k - (intOf i).toNat)
      case atStart => exact ⟨0, 0, Nat.zero_le _, rfl, by rw [descTo_small (by omega)]; rfl, rfl⟩
      case round =>
        obtain ⟨j, q, hj, rfl, rfl, rfl⟩ := hrel
        have hdj := hdl j
        by_cases hlt : j < k
        · have hlt' : (j : Int) < (k : Int) := by omega
          have hj0 : (0 : Int) ≤ (j : Int) := by omega
          have hjl : (j : Int) < es.length := by have := HLEN.out; omega
          obtain ⟨a0, a1, a2, a3, a4, a5⟩ := HCA.out j hlt
          obtain ⟨d0, d1, d2, d3, d4, d5⟩ := HCX.out j hlt
          have hs := revoke_same (es := es) (n := (m : Int)) (i := (j : Int)) HV.out hm0 hj0 hjl
          rw [entAt_nat, entAt_nat] at hs
          have HS : Hid (descTo es m (j + 1) = descTo es m j ++ if decide ((m : Int) < (j : Int)) && below es m j then [(j : Int)] else []) := descTo_succ _ _ _
          by_cases hch : (m : Int) < (j : Int) ∧ below es m j = true
          · have hgj := below_live HV.out hm0 hj0 hjl hch.2
            rw [entAt_nat] at hgj
            rw [if_pos hch] at hs
            rw [hs] at d0 d1 d2 d3 d4 d5
            simp only at d0 d1 d2 d3 d4 d5
            rw [hgj] at a5
            have e1 : (descTo es m (j + 1)).length = (descTo es m j).length + 1 := by rw [HS.out, hch.2]; simp [hch.1]
            have HE1 := Lib.hid e1
            clear hs hgj hch e1 HS
            generalize (es.getD j E0).k = x0 at *
            generalize (es.getD j E0).o = x1 at *
            generalize (es.getD j E0).r = x2 at *
            generalize (es.getD j E0).b = x3 at *
            generalize (es.getD j E0).p = x4 at *
            generalize (descTo es m j).length = L0 at *
            go_wp2_with fail
            go_quiet (fail)
            go_wp2_with fail
            go_quiet (fail)
            go_wp2_with fail
            go_roundw
            case rel => exact ⟨j + 1, _, by omega, by go_num, by rw [HE1.out]; go_num, by first | rfl | (rw [World.drewN_drewN]) | (simp only [World.drewN_drewN]; rfl)⟩
            case measure => simp [intOf]; omega
          · rw [if_neg hch] at hs
            rw [hs] at d0 d1 d2 d3 d4 d5
            have e1 : (descTo es m (j + 1)).length = (descTo es m j).length := by
              rw [HS.out, if_neg (by simpa using hch), List.append_nil]
            have HE1 := Lib.hid e1
            clear hs hch e1 HS
            generalize (es.getD j E0).k = x0 at *
            generalize (es.getD j E0).o = x1 at *
            generalize (es.getD j E0).r = x2 at *
            generalize (es.getD j E0).b = x3 at *
            generalize (es.getD j E0).p = x4 at *
            generalize (es.getD j E0).g = x5 at *
            generalize (descTo es m j).length = L0 at *
            go_wp2_with fail
            go_quiet (fail)
            go_wp2_with fail
            go_roundw
            case rel => exact ⟨j + 1, _, by omega, by go_num, by rw [HE1.out], rfl⟩
            case measure => simp [intOf]; omega
        · have hge : ¬ (j : Int) < (k : Int) := by omega
          have hjk : j = k := by omega
          subst hjk
          have hK5 := EntK.drewN HK.out q
          have hX5 := HX.out.drewN q
          obtain ⟨d0, d1, d2, d3, d4, d5⟩ := HCX.out m hmk
          have hgx : ((revokeE es m).getD m E0).g = false := by
            have := revoke_live (es := es) (n := (m : Int)) hm0 (by have := HLEN.out; omega)
            rw [HG.out, entAt_nat] at this
            exact this
          rw [hgx] at d5
          clear hdj hdl hgx d0 d1 d2 d3 d4
          have hdd : descTo es m j = desc es m := by unfold desc; rw [HLEN.out]
          rw [hdd]
          have hxx := HXX.out _ hX5 (by omega)
          have hdle : (desc es m).length ≤ 60 := by have := desc_len_le es m; have := HLEN.out; omega
          clear hdd
          go_wp2_with fail
          refine hxx.mono ?_
          rintro e w5 ⟨Dx, dx, rfl, -, hb5⟩
          have hK6 := EntK.step hb5 ⟨hK5, trivial⟩
          have hX6 := hX5.below hb5
          have d5' : w5.cell? ⟨gX, m * 6 + 5, none⟩ = some (.bool false) := (hb5.cell (p := ⟨gX, m * 6 + 5, none⟩) hgX).trans d5
          clear d5 hb5 hX5 hK5 hxx
          go_wp2_with fail
          refine (HYY.out _ hK6.1 (by omega)).mono ?_
          rintro e w6 ⟨Dy, dy, rfl, -, hb6⟩
          have hK7 := EntK.step hb6 ⟨hK6, trivial⟩
          have hX7 := hX6.below hb6
          clear hK6 hX6 hb6 d5'
          go_wp2_with fail
          refine (HZZ.out _ hX7 (by omega)).mono ?_
          rintro e w7 ⟨rfl, hb7⟩
          go_wp2_with fail
          go_ret
          exact ⟨rfl, below_next hK7.2.1 hb7⟩

set_option maxRecDepth 100000 in
theorem lifted_FnRevokeCap (os : Os) (started : os.Started) (H : Type) (enc : TypeId × Value → H) :
    ReturnsInHanded {} Try.checked os 10 .any (Rows.fnRevokeCapSpec.pre6 enc Try.prog Try.f10 Rows.fnRevokeCapRow.domain false) (Rows.fnRevokeCapSpec.post enc Try.prog Try.f10 false true false false) := by
  refine returnsInHanded_of_change (C := Try.checked) row_own started (by kernel_rfl) Try.func10
    (ChangeSpec.witness6 (enc := enc) (C := Try.checked) false ⟨#[], #[.slice none 0 0], []⟩ 8 (by kernel_rfl) (by kernel_rfl) (by kernel_rfl) (by kernel_rfl)) ?_
  intro W base args ds gs before hval0 hW hcnd _
  have hval : ∀ (j : Nat) t v, Try.f10.params[j]? = some t → args[j]? = some v → Value.okWide Try.prog W .any base t v := hval0
  have hW' := hW
  obtain ⟨p, q, hA0, hV, rfl, hfz, hnd⟩ := hW
  have hA : DataW.TrodAll enc Try.prog W 0 (fun _ => true) true Try.f10.params.toList args.toList ds p := hA0
  rw [Try.params10] at hA hval
  obtain ⟨v0, vs0, d0, ds0, p0, q0, hargs, rfl, rfl, h0, r0⟩ := trodAll_cons hA
  obtain ⟨rfl, rfl, rfl⟩ := trodAll_nil r0
  obtain rfl : args = #[v0] := by cases args; simp_all
  obtain ⟨rfl, rfl⟩ := trodVars_none hV
  have k0 := h0
  have lt0 : ∀ x ∈ p0, x.block < W.heap.size := by obtain ⟨m, hm⟩ := k0; exact DataW.trod_lt m _ _ _ hm
  have w0 := open_bytes (hval 0 41 v0 rfl rfl) h0
  clear hA0 hval0
  refine (walk_FnRevokeCap v0 W w0).mono fun e W' ⟨he, bel⟩ => ?_
  subst he
  exact ⟨_, rfl, _, _, _, [], _, [], hW', trodAll_mk1 (shut_bool Try.underlying4 _), (trodAll_cons_mk (Below.trod row_laidOut (by kernel_rfl) (of_decide_eq_true (by kernel_rfl)) k0 bel lt0) trodAll_mk0), rfl, bel.frame _, fun h => by cases h⟩

theorem over_FnRevokeCap : Rows.fnRevokeCapRow.holds Try.pinned (OpenSpec.ofChange Rows.fnRevokeCapSpec) :=
  OpenClaim.holds_of_wide 10 Try.f10 rfl rfl rfl rfl rfl rfl rfl ⟨rfl, rfl, rfl, rfl, rfl⟩ rfl rfl rfl rfl rfl (by kernel_rfl) Try.func10 (by kernel_rfl)
    (of_decide_eq_true (by kernel_rfl)) (by unfold Func.isWrapper; first | (rw [if_pos (by decide +kernel)]; kernel_rfl) | (rw [if_neg (by decide +kernel)]; exact ⟨rfl, rfl⟩))
    (fun os started H enc _ => lifted_FnRevokeCap os started H enc)

theorem FnRevokeCap_holds : Rows.FnRevokeCapSaid := over_FnRevokeCap

end Go.Proofs.Ytpglfbjjmnaojaa
