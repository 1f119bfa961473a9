/- The law FnDeriveRevoke: whatever its arguments, the call returns true, and every argument reads afterwards as it read before. No condition. -/
import Derived.Test.YtpglfbjjmnaojaaTreeSame
namespace Go.Proofs.Ytpglfbjjmnaojaa
open Go.ChangeShapes Go.WideShapes Go.ChangeAt Go.RowKit
open Go.ChangeMaps (open_string shut_string)
set_option linter.unusedVariables false

theorem der_facts {es : List Ent} {n r b : Int} (h : derOk es n r b = true) : liveB es n = true ∧ es.length < 30 ∧ dValid (es ++ [derE es n r b]) = true ∧ entWithin (derE es n r b) (entAt es n) = true := by
  unfold derOk at h
  simp only [Bool.and_eq_true, Bool.not_eq_true', decide_eq_false_iff_not] at h
  obtain ⟨hl, hm, h30⟩ := h
  have hlen := dValid_len (liveB_iff.1 hl).1
  have hw : entWithin (derE es n r b) (entAt es n) = true := minted_within hm
  have hk : (derE es n r b).k ≠ 0 := by
    have := (mintOk_parts hm).2.2.2.1
    simpa [derE] using this
  exact ⟨hl, by omega, dValid_derive hl (by omega) rfl rfl hk (minted_valid hm) hw, hw⟩
theorem derE_p (es : List Ent) (n r b : Int) : (derE es n r b).p = n := rfl
theorem derE_g (es : List Ent) (n r b : Int) : (derE es n r b).g = false := rfl
theorem live_derived {es : List Ent} {n r b : Int} (h : derOk es n r b = true) : liveB (es ++ [derE es n r b]) n = true := by
  obtain ⟨hl, h30, hv, -⟩ := der_facts h
  obtain ⟨-, hn, hg⟩ := liveB_iff.1 hl
  exact liveB_iff.2 ⟨hv, by rw [List.length_append]; simp; omega, by rw [entAt_append_lt hn.1 hn.2]; exact hg⟩
theorem take_app (es : List Ent) (e : Ent) : (es ++ [e]).take es.length = es := by simp

/-- The tree, and the one behind a revocation. -/
def TwoS (B : Nat) (w0 : World) (A : Option Addr) (k c b1 : Nat) (es : List Ent) (gX n x bx : Nat) (xs : List Ent) (wr : World) : Prop := EntK B w0 A k c b1 es wr ∧ EntO wr bx (some ⟨gX, 0, none⟩) n x xs
section
variable {B : Nat} {w0 w w1 : World} {A : Option Addr} {k c b1 : Nat} {es : List Ent} {gX n x bx : Nat} {xs : List Ent} {R : Prop}
theorem TwoS.drew (h : TwoS B w0 A k c b1 es gX n x bx xs w) : TwoS B w0 A k c b1 es gX n x bx xs w.drew := ⟨h.1.drew, h.2⟩
theorem TwoS.step (hb : Below w.heap.size w w1) (h : TwoS B w0 A k c b1 es gX n x bx xs w ∧ R) : TwoS B w0 A k c b1 es gX n x bx xs w1 := ⟨EntK.step hb ⟨h.1.1, trivial⟩, h.1.2.below hb⟩
theorem TwoS.gone {j : Nat} (hj : j < n) (he : (xs.getD j E0).g = true) (h : TwoS B w0 A k c b1 es gX n x bx xs w) : TwoS B w0 A k c b1 es gX n x bx xs w ∧ w.cell? ⟨gX, j * 6 + 5, none⟩ = some (.bool true) := by
  obtain ⟨a, ha, -, -, hc, -⟩ := h.2.at_ (by omega)
  injection ha with ha
  injection ha with ha
  subst ha
  have := (hc j hj).2.2.2.2.2
  rw [he] at this
  exact ⟨h, this⟩
end

set_option maxRecDepth 100000 in
set_option maxHeartbeats 16000000 in
theorem walk_FnDeriveRevoke (v0 : Value) (w : World) (w0 : BytesIn w v0) :
    Calls Try.prog 16 #[v0] w fun e w' => e = .returned (.bool true) ∧ Below w.heap.size w w' := by
  have hd := drawDeriveCap v0 w w0
  obtain ⟨Ac, nc, capc, bs, rfl, hnc, hcc, _⟩ := w0
  by_cases h20 : (1048576 : Int) < (nc : Int)
  · go_enter Try.func16, Try.ntmps16
    go_wp2_with fail
    go_ret
    exact ⟨rfl, Below.refl _ _⟩
  · go_enter Try.func16, Try.ntmps16
    go_wp2_with fail
    refine hd.mono ?_
    rintro e w1 ⟨A, k, c, es, n, r, b, rfl, hE, hk, hB⟩
    have hK1 := EntK.of hE hB hB.size
    have hlen := hE.1
    clear hE hB hd
    have hLle := derL_len es n r b
    go_wp2_with fail
    refine (impl_DeriveCap A k c _ es n r b _ hK1.1 (by omega)).mono ?_
    rintro e w2 ⟨X, x, rfl, hX2, hb2⟩
    have hK2 := EntK.step hb2 ⟨hK1, trivial⟩
    clear hK1 hb2
    go_wp2_with fail
    refine (spec_DeriveCap_e A k c _ es n r b _ hK2.1 (by omega)).mono ?_
    rintro e w3 ⟨Y, y, rfl, hY3, hb3⟩
    have hK3 := EntK.step hb3 ⟨hK2, trivial⟩
    have hX3 := hX2.below hb3
    clear hK2 hX2 hb3
    go_wp2_with fail
    refine (laws_sameTree X Y (derL es n r b).length x y _ _ (derL es n r b) _ hX3 hY3 (by omega)).mono ?_
    rintro e w4 ⟨rfl, hb4⟩
    have hK4 := EntK.step hb4 ⟨hK3, trivial⟩
    have hX4 := hX3.below hb4
    clear hK3 hX3 hY3 hb4
    cases hok : derOk es n r b
    · have hN : derN es n r b = -1 := by simp [derN, hok]
      rw [hN]
      cases hl : liveB es n
      · have hL : derL es n r b = [] := by simp [derL, hok, hl]
        rw [hL] at *
        go_wp2_with fail
        refine (laws_alive _).mono ?_
        rintro e wz ⟨rfl, hbz⟩
        go_wp2_with fail
        go_ret
        exact ⟨rfl, below_next hK4.2.1 hbz⟩
      · have hL : derL es n r b = es := by simp [derL, hok, hl]
        have hk0 := (liveB_iff.1 hl).2.1
        rw [hL] at *
        rw [hlen] at *
        have hkne : ((k : Int) == 0) = false := by rw [beq_eq_false_iff_ne]; omega
        go_wp2_with fail
        refine (laws_alive _).mono ?_
        rintro e wz ⟨rfl, hbz⟩
        go_wp2_with fail
        go_ret
        exact ⟨rfl, below_next hK4.2.1 hbz⟩
    · obtain ⟨hl, h30, hv', hw⟩ := der_facts hok
      have hN : derN es n r b = (k : Int) := by simp [derN, hok, hlen]
      have hL : derL es n r b = es ++ [derE es n r b] := by simp [derL, hok]
      have hlive := live_derived hok
      have hlenx : (es ++ [derE es n r b]).length = k + 1 := by rw [List.length_append, hlen]; rfl
      obtain ⟨hv, ⟨n0, n1⟩, hgn⟩ := liveB_iff.1 hl
      obtain ⟨m, rfl⟩ := Int.eq_ofNat_of_zero_le n0
      have hmk : m < k := by omega
      have hmk' : (m : Int) < (k : Int) := by omega
      have hm0 : (0 : Int) ≤ (m : Int) := by omega
      rw [hN]
      rw [hL] at hX4 hLle ⊢
      rw [hlenx] at hX4 hLle ⊢
      have hHE : (es ++ [derE es m r b]).getD k E0 = derE es m r b := by rw [← entAt_nat, ← hlen]; exact entAt_append_end
      have hHM : (es ++ [derE es m r b]).take k = es := by rw [← hlen]; exact take_app _ _

      have hr := impl_RevokeCap X (k + 1) x _ (es ++ [derE es m r b]) m w4 hX4 (by omega)
      rw [revL_live hlive, revoke_derived hl hv' rfl rfl] at hr
      have hrl : (revokeE es m ++ [{ derE es m r b with g := true }]).length = k + 1 := by rw [List.length_append, revokeE_len, hlen]; rfl
      have hrd := fun W (h : EntO W w.heap.size A k c es) => impl_RevokeCap A k c w.heap.size es m W h (by omega)
      rw [revL_live hl] at hrd
      have hrg : ((revokeE es m ++ [{ derE es m r b with g := true }]).getD k E0).g = true := by
        have e : (revokeE es m).length = k := by rw [revokeE_len]; exact hlen
        rw [← e]
        simp [List.getD]
      have hrt : (revokeE es m ++ [{ derE es m r b with g := true }]).take k = revokeE es m := by
        have e : (revokeE es m).length = k := by rw [revokeE_len]; exact hlen
        rw [← e]
        simp
      have hre : (revokeE es m).length = k := by rw [revokeE_len]; exact hlen
      generalize revokeE es m ++ [{ derE es m r b with g := true }] = RX at *
      generalize revokeE es m = RE at *
      have HRG := Lib.hid hrg
      have HRT := Lib.hid hrt
      have HRL := Lib.hid hrl
      have HRE := Lib.hid hre
      clear hrg hrt hre hHE hHM hw hv' hlive hv hgn n0 n1 hl hN hL hok hLle hlenx hX4
      go_wp2_with fail
      refine hr.mono ?_
      rintro e w5 ⟨G, gc, rfl, hG5, hb5⟩
      rw [hrl] at *
      obtain ⟨gG, rfl, -, hgl⟩ := hG5.some_ (by omega)
      have hS : TwoS w.heap.size w A k c w.heap.size es gG (k + 1) gc w4.heap.size RX w5 := ⟨EntK.step hb5 ⟨hK4, trivial⟩, hG5⟩
      have hc5 := (TwoS.gone (j := k) (by omega) HRG.out hS).2
      have hRV := fun (W : World) (R : Prop) (h : TwoS w.heap.size w A k c w.heap.size es gG (k + 1) gc w4.heap.size RX W ∧ R) => hrd W h.1.1.1
      have hSM := fun (W : World) (M : Option Addr) (mc bM : Nat) (R : Prop) (h : TwoS w.heap.size w A k c w.heap.size es gG (k + 1) gc w4.heap.size RX W ∧ R) (hM : EntO W bM M k mc RE) =>
        laws_sameTree (some ⟨gG, 0, none⟩) M k gc mc _ _ RE W (by have := h.1.2.take (m := k) (by omega); rw [HRT.out] at this; exact this) hM (by omega)
      have hk1 : IntKind.i64.wrap ((k : Int) + 1) = (k : Int) + 1 := by rw [IntKind.wrap_i64]; omega
      have hkg : (k : Int) ≤ (gc : Int) := by have := hG5.2.1; omega
      have hk0 : (0 : Int) ≤ (k : Int) := by omega
      have hkk : (k : Int) < (k : Int) + 1 := by omega
      clear hK4 hG5 hb5 hr hrd
      go_wp2_with fail
      (first
        | (go_region_held3 (fun w' => TwoS w.heap.size w A k c w.heap.size es gG (k + 1) gc w4.heap.size RX w' ∧ w'.cell? ⟨gG, k * 6 + 5, none⟩ = some (.bool true))
            (first | exact TwoS.gone (by omega) HRG.out (TwoS.drew hS) | exact TwoS.gone (by omega) HRG.out (TwoS.step (by assumption) (by assumption)))
            (first | (go_at_call 38; refine (hRV _ _ (by assumption)).mono ?_; rintro e w9 ⟨M, mc, rfl, hM, hb9⟩; rw [HRE.out] at hM ⊢) | (go_at_call 40; refine (hSM _ _ _ _ _ (by assumption) (by assumption)).mono ?_; rintro e w8 ⟨rfl, hb8⟩)))
        | fail)
      have hT : TwoS w.heap.size w A k c w.heap.size es gG (k + 1) gc w4.heap.size RX w8 := And.left (by assumption)
      have HT := Lib.hid hT
      clear hT hS hSM hRV hc5
      go_wp2_with fail
      go_ret
      exact ⟨rfl, HT.out.1.2.1⟩

set_option maxRecDepth 100000 in
theorem lifted_FnDeriveRevoke (os : Os) (started : os.Started) (H : Type) (enc : TypeId × Value → H) :
    ReturnsInHanded {} Try.checked os 16 .any (Rows.fnDeriveRevokeSpec.pre6 enc Try.prog Try.f16 Rows.fnDeriveRevokeRow.domain false) (Rows.fnDeriveRevokeSpec.post enc Try.prog Try.f16 false true false false) := by
  refine returnsInHanded_of_change (C := Try.checked) row_own started (by kernel_rfl) Try.func16
    (ChangeSpec.witness6 (enc := enc) (C := Try.checked) false ⟨#[], #[.slice none 0 0], []⟩ 8 (by kernel_rfl) (by kernel_rfl) (by kernel_rfl) (by kernel_rfl)) ?_
  intro W base args ds gs before hval0 hW hcnd _
  have hval : ∀ (j : Nat) t v, Try.f16.params[j]? = some t → args[j]? = some v → Value.okWide Try.prog W .any base t v := hval0
  have hW' := hW
  obtain ⟨p, q, hA0, hV, rfl, hfz, hnd⟩ := hW
  have hA : DataW.TrodAll enc Try.prog W 0 (fun _ => true) true Try.f16.params.toList args.toList ds p := hA0
  rw [Try.params16] at hA hval
  obtain ⟨v0, vs0, d0, ds0, p0, q0, hargs, rfl, rfl, h0, r0⟩ := trodAll_cons hA
  obtain ⟨rfl, rfl, rfl⟩ := trodAll_nil r0
  obtain rfl : args = #[v0] := by cases args; simp_all
  obtain ⟨rfl, rfl⟩ := trodVars_none hV
  have k0 := h0
  have lt0 : ∀ x ∈ p0, x.block < W.heap.size := by obtain ⟨m, hm⟩ := k0; exact DataW.trod_lt m _ _ _ hm
  have w0 := open_bytes (hval 0 41 v0 rfl rfl) h0
  clear hA0 hval0
  refine (walk_FnDeriveRevoke v0 W w0).mono fun e W' ⟨he, bel⟩ => ?_
  subst he
  exact ⟨_, rfl, _, _, _, [], _, [], hW', trodAll_mk1 (shut_bool Try.underlying4 _), (trodAll_cons_mk (Below.trod row_laidOut (by kernel_rfl) (of_decide_eq_true (by kernel_rfl)) k0 bel lt0) trodAll_mk0), rfl, bel.frame _, fun h => by cases h⟩

theorem over_FnDeriveRevoke : Rows.fnDeriveRevokeRow.holds Try.pinned (OpenSpec.ofChange Rows.fnDeriveRevokeSpec) :=
  OpenClaim.holds_of_wide 16 Try.f16 rfl rfl rfl rfl rfl rfl rfl ⟨rfl, rfl, rfl, rfl, rfl⟩ rfl rfl rfl rfl rfl (by kernel_rfl) Try.func16 (by kernel_rfl)
    (of_decide_eq_true (by kernel_rfl)) (by unfold Func.isWrapper; first | (rw [if_pos (by decide +kernel)]; kernel_rfl) | (rw [if_neg (by decide +kernel)]; exact ⟨rfl, rfl⟩))
    (fun os started H enc _ => lifted_FnDeriveRevoke os started H enc)

theorem FnDeriveRevoke_holds : Rows.FnDeriveRevokeSaid := over_FnDeriveRevoke

end Go.Proofs.Ytpglfbjjmnaojaa
