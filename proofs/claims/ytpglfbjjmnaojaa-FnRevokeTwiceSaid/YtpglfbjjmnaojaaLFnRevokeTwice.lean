/- The law FnRevokeTwice: whatever its arguments, the call returns true, and every argument reads afterwards as it read before. No condition. -/
import Derived.Test.YtpglfbjjmnaojaaTreeSame
namespace Go.Proofs.Ytpglfbjjmnaojaa
open Go.ChangeShapes Go.WideShapes Go.ChangeAt Go.RowKit
open Go.ChangeMaps (open_string shut_string)
set_option linter.unusedVariables false

/-- A tree, a second one, and a list of numbers that all stay. -/
def Tri (B : Nat) (w : World) (A : Option Addr) (k c b1 : Nat) (es : List Ent) (X : Option Addr) (kx x bx : Nat) (xs : List Ent) (D : Option Addr) (q d bd : Nat) (L : List Int) (wr : World) : Prop := EntK B w A k c b1 es wr ∧ EntO wr bx X kx x xs ∧ IntO wr bd D q d L
theorem Tri.step {B : Nat} {w wr w1 : World} {A : Option Addr} {k c b1 : Nat} {es : List Ent} {X : Option Addr} {kx x bx : Nat} {xs : List Ent} {D : Option Addr} {q d bd : Nat} {L : List Int} (hb : Below wr.heap.size wr w1)
    (h : Tri B w A k c b1 es X kx x bx xs D q d bd L wr) : Tri B w A k c b1 es X kx x bx xs D q d bd L w1 := ⟨EntK.step hb ⟨h.1, trivial⟩, h.2.1.below hb, h.2.2.below hb⟩

set_option maxRecDepth 100000 in
set_option maxHeartbeats 16000000 in
theorem walk_FnRevokeTwice (v0 : Value) (w : World) (w0 : BytesIn w v0) :
    Calls Try.prog 11 #[v0] w fun e w' => e = .returned (.bool true) ∧ Below w.heap.size w w' := by
  have hd := drawRevokeCap v0 w w0
  obtain ⟨Ac, nc, capc, bs, rfl, hnc, hcc, _⟩ := w0
  by_cases h20 : (1048576 : Int) < (nc : Int)
  · go_enter Try.func11, Try.ntmps11
    go_wp2_with fail
    go_ret
    exact ⟨rfl, Below.refl _ _⟩
  · go_enter Try.func11, Try.ntmps11
    go_wp2_with fail
    refine hd.mono ?_
    rintro e w1 ⟨A, k, c, es, n, rfl, hE, hk, hB⟩
    have hK1 := EntK.of hE hB hB.size
    have hlen := hE.1
    clear hE hB hd
    go_wp2_with fail
    refine (impl_RevokeCap A k c _ es n _ hK1.1 (by omega)).mono ?_
    rintro e w2 ⟨X, x, rfl, hX2, hb2⟩
    have hK2 := EntK.step hb2 ⟨hK1, trivial⟩
    clear hK1 hb2
    have hLle := revL_len es n
    go_wp2_with fail
    refine (spec_RevokeCap_e A k c _ es n _ hK2.1 (by omega)).mono ?_
    rintro e w3 ⟨Y, y, rfl, hY3, hb3⟩
    have hK3 := EntK.step hb3 ⟨hK2, trivial⟩
    have hX3 := hX2.below hb3
    clear hK2 hX2 hb3
    go_wp2_with fail
    refine (laws_sameTree X Y (revL es n).length x y _ _ (revL es n) _ hX3 hY3 (by omega)).mono ?_
    rintro e w4 ⟨rfl, hb4⟩
    have hK4 := EntK.step hb4 ⟨hK3, trivial⟩
    have hX4 := hX3.below hb4
    clear hK3 hX3 hY3 hb4
    cases hl : liveB es n
    · rw [revL_dead hl] at *
      go_wp2_with fail
      refine (laws_alive _).mono ?_
      rintro e wz ⟨rfl, hbz⟩
      go_wp2_with fail
      go_ret
      exact ⟨rfl, below_next hK4.2.1 hbz⟩
    · rw [revL_live hl] at *
      obtain ⟨hv, ⟨n0, n1⟩, hgn⟩ := liveB_iff.1 hl
      obtain ⟨m, rfl⟩ := Int.eq_ofNat_of_zero_le n0
      have hmk : m < k := by omega
      have hmk' : (m : Int) < (k : Int) := by omega
      have hm0 : (0 : Int) ≤ (m : Int) := by omega
      have hXl : (revokeE es m).length = k := by rw [revokeE_len]; exact hlen
      rw [hXl] at hX4 hLle ⊢
      clear hLle n0 n1
      have hkne : ((k : Int) == 0) = false := by rw [beq_eq_false_iff_ne]; omega

      have HV := Lib.hid hv
      have HL := Lib.hid hl
      have HLEN := Lib.hid hlen
      have HXL := Lib.hid hXl
      have hdesc := impl_Descendants A k c w.heap.size es m w4 hK4.1 (by omega)
      rw [descL_live hl] at hdesc
      have hqle := desc_len_le es m
      have HAT := Lib.hid (fun i hi => desc_at (es := es) (m := m) (k := i) hi)
      have HMEM := Lib.hid (fun (i : Nat) (hi : i < (desc es m).length) => show (desc es m).getD i 0 ∈ desc es m by rw [show (desc es m).getD i 0 = (desc es m)[i] by simp [List.getD, hi]]; exact List.getElem_mem hi)
      clear hv hl hgn
      go_wp2_with fail
      refine hdesc.mono ?_
      rintro e w5 ⟨D, d, rfl, hI5, hb5⟩
      have HT := Lib.hid (show Tri w.heap.size w A k c w.heap.size es X k x w1.heap.size (revokeE es m) D (desc es m).length d w4.heap.size (desc es m) w5 from ⟨EntK.step hb5 ⟨hK4, trivial⟩, hX4.below hb5, hI5⟩)
      clear hdesc hI5 hb5 hK4 hX4 hXl
      generalize hq : (desc es m).length = q at *
      have HQ := Lib.hid hq
      clear hq
      have hq60 : q ≤ 60 := by omega
      go_wp2_with fail
      go_loopw [7] (fun i wr => ∃ j : Nat, j ≤ q ∧ i = .int .i64 j ∧ Tri w.heap.size w A k c w.heap.size es X k x w1.heap.size (revokeE es m) D q d w4.heap.size (desc es m) wr) (fun i _ => q - (intOf i).toNat)
      case atStart => exact ⟨0, by omega, rfl, HT.out⟩
      case round =>
        clear HT
        obtain ⟨j, hj, rfl, hT⟩ := hrel
        by_cases hlt : j < q
        · have hlt' : (j : Int) < (q : Int) := by omega
          have hj0 : (0 : Int) ≤ (j : Int) := by omega
          obtain ⟨i, hLi, hil⟩ := HAT.out j hlt
          have hmem := HMEM.out j hlt
          rw [hLi] at hmem
          have hlive := desc_live HV.out hm0 hmem
          have hlive2 := revoke_keeps_live HL.out (.inr hmem)
          have hafter := revoke_after HV.out hm0 hmem
          obtain ⟨gD, rfl, -, hgD, hcD, -⟩ := hT.2.2.at_ (by omega)
          have cD := hcD j hlt
          rw [hLi] at cD
          have hr1 := impl_RevokeCap A k c w.heap.size es i wr hT.1.1 (by omega)
          rw [revL_live hlive] at hr1
          have HR1 := Lib.hid hr1
          have HT := Lib.hid hT
          have HRL := Lib.hid (show (revokeE es i).length = k by rw [revokeE_len, HLEN.out])
          have HAF := Lib.hid hafter
          have HL2 := Lib.hid hlive2
          clear hr1 hT hafter hlive2 hlive hmem hLi hcD
          go_wp2_with fail
          refine HR1.out.mono ?_
          rintro e w6 ⟨R, r, rfl, hR6, hb6⟩
          rw [HRL.out] at hR6 ⊢
          have hr2 := impl_RevokeCap R k r _ (revokeE es i) m w6 hR6 (by omega)
          rw [revL_live HL2.out, HAF.out] at hr2
          have HT6 := Lib.hid (HT.out.step hb6)
          have HR2 := Lib.hid hr2
          clear hr2 hR6 hb6 HR1 HT cD
          go_wp2_with fail
          refine HR2.out.mono ?_
          rintro e w7 ⟨S, s, rfl, hS7, hb7⟩
          rw [HXL.out] at hS7 ⊢
          have hT7 := HT6.out.step hb7
          have hs := laws_sameTree S X k s x _ _ (revokeE es m) w7 hS7 hT7.2.1 (by omega)
          have HT7 := Lib.hid hT7
          clear hT7 hS7 hb7 HT6 HR2
          go_wp2_with fail
          refine hs.mono ?_
          rintro e w8 ⟨rfl, hb8⟩
          have HT8 := Lib.hid (HT7.out.step hb8)
          clear hs hb8 HT7
          go_wp2_with fail
          go_roundw
          case rel => exact ⟨j + 1, by omega, by go_num, HT8.out⟩
          case measure => simp [intOf]; omega
        · have hge : ¬ (j : Int) < (q : Int) := by omega
          have hr1 := impl_RevokeCap X k x w1.heap.size (revokeE es m) m wr hT.2.1 (by omega)
          rw [revL_live (revoke_keeps_live HL.out (.inl rfl)), revoke_revoked HV.out hm0] at hr1
          have HR1 := Lib.hid hr1
          have HT := Lib.hid hT
          clear hr1 hT
          go_wp2_with fail
          refine HR1.out.mono ?_
          rintro e w6 ⟨S, s, rfl, hS6, hb6⟩
          rw [HXL.out] at hS6 ⊢
          have hT6 := HT.out.step hb6
          have hs := laws_sameTree S X k s x _ _ (revokeE es m) w6 hS6 hT6.2.1 (by omega)
          have HT6 := Lib.hid hT6
          clear hT6 hS6 hb6 HR1
          go_wp2_with fail
          refine hs.mono ?_
          rintro e w7 ⟨rfl, hb7⟩
          go_wp2_with fail
          go_ret
          exact ⟨rfl, below_next HT6.out.1.2.1 hb7⟩

set_option maxRecDepth 100000 in
theorem lifted_FnRevokeTwice (os : Os) (started : os.Started) (H : Type) (enc : TypeId × Value → H) :
    ReturnsInHanded {} Try.checked os 11 .any (Rows.fnRevokeTwiceSpec.pre6 enc Try.prog Try.f11 Rows.fnRevokeTwiceRow.domain false) (Rows.fnRevokeTwiceSpec.post enc Try.prog Try.f11 false true false false) := by
  refine returnsInHanded_of_change (C := Try.checked) row_own started (by kernel_rfl) Try.func11
    (ChangeSpec.witness6 (enc := enc) (C := Try.checked) false ⟨#[], #[.slice none 0 0], []⟩ 8 (by kernel_rfl) (by kernel_rfl) (by kernel_rfl) (by kernel_rfl)) ?_
  intro W base args ds gs before hval0 hW hcnd _
  have hval : ∀ (j : Nat) t v, Try.f11.params[j]? = some t → args[j]? = some v → Value.okWide Try.prog W .any base t v := hval0
  have hW' := hW
  obtain ⟨p, q, hA0, hV, rfl, hfz, hnd⟩ := hW
  have hA : DataW.TrodAll enc Try.prog W 0 (fun _ => true) true Try.f11.params.toList args.toList ds p := hA0
  rw [Try.params11] at hA hval
  obtain ⟨v0, vs0, d0, ds0, p0, q0, hargs, rfl, rfl, h0, r0⟩ := trodAll_cons hA
  obtain ⟨rfl, rfl, rfl⟩ := trodAll_nil r0
  obtain rfl : args = #[v0] := by cases args; simp_all
  obtain ⟨rfl, rfl⟩ := trodVars_none hV
  have k0 := h0
  have lt0 : ∀ x ∈ p0, x.block < W.heap.size := by obtain ⟨m, hm⟩ := k0; exact DataW.trod_lt m _ _ _ hm
  have w0 := open_bytes (hval 0 41 v0 rfl rfl) h0
  clear hA0 hval0
  refine (walk_FnRevokeTwice v0 W w0).mono fun e W' ⟨he, bel⟩ => ?_
  subst he
  exact ⟨_, rfl, _, _, _, [], _, [], hW', trodAll_mk1 (shut_bool Try.underlying4 _), (trodAll_cons_mk (Below.trod row_laidOut (by kernel_rfl) (of_decide_eq_true (by kernel_rfl)) k0 bel lt0) trodAll_mk0), rfl, bel.frame _, fun h => by cases h⟩

theorem over_FnRevokeTwice : Rows.fnRevokeTwiceRow.holds Try.pinned (OpenSpec.ofChange Rows.fnRevokeTwiceSpec) :=
  OpenClaim.holds_of_wide 11 Try.f11 rfl rfl rfl rfl rfl rfl rfl ⟨rfl, rfl, rfl, rfl, rfl⟩ rfl rfl rfl rfl rfl (by kernel_rfl) Try.func11 (by kernel_rfl)
    (of_decide_eq_true (by kernel_rfl)) (by unfold Func.isWrapper; first | (rw [if_pos (by decide +kernel)]; kernel_rfl) | (rw [if_neg (by decide +kernel)]; exact ⟨rfl, rfl⟩))
    (fun os started H enc _ => lifted_FnRevokeTwice os started H enc)

theorem FnRevokeTwice_holds : Rows.FnRevokeTwiceSaid := over_FnRevokeTwice

end Go.Proofs.Ytpglfbjjmnaojaa
