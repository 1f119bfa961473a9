/- The law FnDeriveCap: whatever its arguments, the call returns true, and every argument reads afterwards as it read before. No condition. -/
import Derived.Test.YtpglfbjjmnaojaaTreeSame
namespace Go.Proofs.Ytpglfbjjmnaojaa
open Go.ChangeShapes Go.WideShapes Go.ChangeAt Go.RowKit
open Go.ChangeMaps (open_string shut_string)
set_option linter.unusedVariables false

theorem der_facts {es : List Ent} {n r b : Int} (h : derOk es n r b = true) : liveB es n = true ∧ es.length < 30 ∧ dValid (es ++ [derE es n r b]) = true ∧ entWithin (derE es n r b) (entAt es n) = true := by
  unfold derOk at h
  simp only [Bool.and_eq_true, Bool.not_eq_true', decide_eq_false_iff_not] at h
  obtain ⟨hl, hm, h30⟩ := h
  have hlen := dValid_len (liveB_iff.1 hl).1
  have hw : entWithin (derE es n r b) (entAt es n) = true := minted_within hm
  have hk : (derE es n r b).k ≠ 0 := by
    have := (mintOk_parts hm).2.2.2.1
    simpa [derE] using this
  exact ⟨hl, by omega, dValid_derive hl (by omega) rfl rfl hk (minted_valid hm) hw, hw⟩
theorem derE_p (es : List Ent) (n r b : Int) : (derE es n r b).p = n := rfl
theorem derE_g (es : List Ent) (n r b : Int) : (derE es n r b).g = false := rfl
theorem live_derived {es : List Ent} {n r b : Int} (h : derOk es n r b = true) : liveB (es ++ [derE es n r b]) n = true := by
  obtain ⟨hl, h30, hv, -⟩ := der_facts h
  obtain ⟨-, hn, hg⟩ := liveB_iff.1 hl
  exact liveB_iff.2 ⟨hv, by rw [List.length_append]; simp; omega, by rw [entAt_append_lt hn.1 hn.2]; exact hg⟩
theorem take_app (es : List Ent) (e : Ent) : (es ++ [e]).take es.length = es := by simp

/-- The tree, the grown one, and the list of the descendants. -/
def DerS (B : Nat) (w0 : World) (gA k c b1 : Nat) (es : List Ent) (gX n x bx : Nat) (xs : List Ent) (gD q d bd : Nat) (L : List Int) (wr : World) : Prop := EntK B w0 (some ⟨gA, 0, none⟩) k c b1 es wr ∧ EntO wr bx (some ⟨gX, 0, none⟩) n x xs ∧ IntO wr bd (some ⟨gD, 0, none⟩) q d L
section
variable {B : Nat} {w0 w w1 : World} {gA k c b1 : Nat} {es : List Ent} {gX n x bx : Nat} {xs : List Ent} {gD q d bd : Nat} {L : List Int} {R : Prop}
theorem DerS.drew (h : DerS B w0 gA k c b1 es gX n x bx xs gD q d bd L w) : DerS B w0 gA k c b1 es gX n x bx xs gD q d bd L w.drew := ⟨h.1.drew, h.2.1, h.2.2⟩
theorem DerS.step (hb : Below w.heap.size w w1) (h : DerS B w0 gA k c b1 es gX n x bx xs gD q d bd L w ∧ R) : DerS B w0 gA k c b1 es gX n x bx xs gD q d bd L w1 := ⟨EntK.step hb ⟨h.1.1, trivial⟩, h.1.2.1.below hb, h.1.2.2.below hb⟩
theorem DerS.cells {m t : Nat} {v : Int} {k3 o3 r3 b3 p3 k4 o4 r4 b4 p4 : Int} {q3 q4 : Bool} (hk : k < n) (hm : m < k) (ht : t < q) (he : xs.getD k E0 = ⟨k3, o3, r3, b3, p3, q3⟩) (hx : es.getD m E0 = ⟨k4, o4, r4, b4, p4, q4⟩) (hv : L.getD t 0 = v) (h : DerS B w0 gA k c b1 es gX n x bx xs gD q d bd L w) :
    DerS B w0 gA k c b1 es gX n x bx xs gD q d bd L w ∧ w.cell? ⟨gX, k * 6, none⟩ = some (.int .i64 k3) ∧ w.cell? ⟨gX, k * 6 + 1, none⟩ = some (.int .i64 o3) ∧ w.cell? ⟨gX, k * 6 + 2, none⟩ = some (.int .i64 r3) ∧ w.cell? ⟨gX, k * 6 + 3, none⟩ = some (.int .i64 b3) ∧ w.cell? ⟨gA, m * 6, none⟩ = some (.int .i64 k4) ∧ w.cell? ⟨gA, m * 6 + 1, none⟩ = some (.int .i64 o4) ∧ w.cell? ⟨gA, m * 6 + 2, none⟩ = some (.int .i64 r4) ∧ w.cell? ⟨gA, m * 6 + 3, none⟩ = some (.int .i64 b4) ∧ w.cell? ⟨gD, t, none⟩ = some (.int .i64 v) := by
  obtain ⟨y0, y1, y2, y3, y4, y5⟩ := h.1.cells hm hx
  obtain ⟨a, ha, -, -, hc, -⟩ := h.2.1.at_ (by omega)
  injection ha with ha
  injection ha with ha
  subst ha
  have hc := hc k hk
  rw [he] at hc
  obtain ⟨x0, x1, x2, x3, x4, x5⟩ := hc
  obtain ⟨a, ha, -, -, hc, -⟩ := h.2.2.at_ (by omega)
  injection ha with ha
  injection ha with ha
  subst ha
  have hc := hc t ht
  rw [hv] at hc
  exact ⟨h, x0, x1, x2, x3, y0, y1, y2, y3, hc⟩
end

set_option maxRecDepth 100000 in
set_option maxHeartbeats 16000000 in
theorem walk_FnDeriveCap (v0 : Value) (w : World) (w0 : BytesIn w v0) :
    Calls Try.prog 15 #[v0] w fun e w' => e = .returned (.bool true) ∧ Below w.heap.size w w' := by
  have hd := drawDeriveCap v0 w w0
  obtain ⟨Ac, nc, capc, bs, rfl, hnc, hcc, _⟩ := w0
  by_cases h20 : (1048576 : Int) < (nc : Int)
  · go_enter Try.func15, Try.ntmps15
    go_wp2_with fail
    go_ret
    exact ⟨rfl, Below.refl _ _⟩
  · go_enter Try.func15, Try.ntmps15
    go_wp2_with fail
    refine hd.mono ?_
    rintro e w1 ⟨A, k, c, es, n, r, b, rfl, hE, hk, hB⟩
    have hK1 := EntK.of hE hB hB.size
    have hlen := hE.1
    clear hE hB hd
    have hLle := derL_len es n r b
    go_wp2_with fail
    refine (impl_DeriveCap A k c _ es n r b _ hK1.1 (by omega)).mono ?_
    rintro e w2 ⟨X, x, rfl, hX2, hb2⟩
    have hK2 := EntK.step hb2 ⟨hK1, trivial⟩
    clear hK1 hb2
    go_wp2_with fail
    refine (spec_DeriveCap_e A k c _ es n r b _ hK2.1 (by omega)).mono ?_
    rintro e w3 ⟨Y, y, rfl, hY3, hb3⟩
    have hK3 := EntK.step hb3 ⟨hK2, trivial⟩
    have hX3 := hX2.below hb3
    clear hK2 hX2 hb3
    go_wp2_with fail
    refine (laws_sameTree X Y (derL es n r b).length x y _ _ (derL es n r b) _ hX3 hY3 (by omega)).mono ?_
    rintro e w4 ⟨rfl, hb4⟩
    have hK4 := EntK.step hb4 ⟨hK3, trivial⟩
    have hX4 := hX3.below hb4
    clear hK3 hX3 hY3 hb4
    cases hok : derOk es n r b
    · have hN : derN es n r b = -1 := by simp [derN, hok]
      rw [hN]
      cases hl : liveB es n
      · have hL : derL es n r b = [] := by simp [derL, hok, hl]
        rw [hL] at *
        go_wp2_with fail
        refine (laws_alive _).mono ?_
        rintro e wz ⟨rfl, hbz⟩
        go_wp2_with fail
        go_ret
        exact ⟨rfl, below_next hK4.2.1 hbz⟩
      · have hL : derL es n r b = es := by simp [derL, hok, hl]
        have hk0 := (liveB_iff.1 hl).2.1
        rw [hL] at hX4 ⊢
        rw [hlen] at hX4 hk0 ⊢
        have hkne : ((k : Int) == 0) = false := by rw [beq_eq_false_iff_ne]; omega
        have hsm := laws_sameTree X A k x c _ _ es w4 hX4 hK4.1 (by omega)
        have HK4 := Lib.hid hK4
        clear hX4 hK4
        go_wp2_with fail
        refine hsm.mono ?_
        rintro e w5 ⟨rfl, hb5⟩
        have HK5 := Lib.hid (EntK.step hb5 ⟨HK4.out, trivial⟩)
        clear hb5 hsm
        go_wp2_with fail
        refine (laws_alive _).mono ?_
        rintro e wz ⟨rfl, hbz⟩
        go_wp2_with fail
        go_ret
        exact ⟨rfl, below_next HK5.out.2.1 hbz⟩
    · obtain ⟨hl, h30, hv', hw⟩ := der_facts hok
      have hN : derN es n r b = (k : Int) := by simp [derN, hok, hlen]
      have hL : derL es n r b = es ++ [derE es n r b] := by simp [derL, hok]
      have hlive := live_derived hok
      have hlenx : (es ++ [derE es n r b]).length = k + 1 := by rw [List.length_append, hlen]; rfl
      obtain ⟨hv, ⟨n0, n1⟩, hgn⟩ := liveB_iff.1 hl
      obtain ⟨m, rfl⟩ := Int.eq_ofNat_of_zero_le n0
      have hmk : m < k := by omega
      have hmk' : (m : Int) < (k : Int) := by omega
      have hm0 : (0 : Int) ≤ (m : Int) := by omega
      rw [hN]
      rw [hL] at hX4 hLle ⊢
      rw [hlenx] at hX4 hLle ⊢
      have hHE : (es ++ [derE es m r b]).getD k E0 = derE es m r b := by rw [← entAt_nat, ← hlen]; exact entAt_append_end
      have hHM : (es ++ [derE es m r b]).take k = es := by rw [← hlen]; exact take_app _ _

      have hde := impl_Descendants X (k + 1) x _ (es ++ [derE es m r b]) m w4 hX4 (by omega)
      rw [descL_live hlive, desc_derive hl hv' rfl rfl, hlen] at hde
      have hdv := fun W (h : EntO W w1.heap.size X (k + 1) x (es ++ [derE es m r b])) => impl_DerivationValid X (k + 1) x w1.heap.size (es ++ [derE es m r b]) W h (by omega)
      rw [hv'] at hdv
      obtain ⟨gA, rfl, -, hgA⟩ := hK4.1.some_ (by omega)
      obtain ⟨gX, rfl, -, hgX⟩ := hX4.some_ (by omega)
      obtain ⟨k3, o3, r3, b3, p3, q3, hE3⟩ : ∃ k3 o3 r3 b3 p3 q3, derE es m r b = ⟨k3, o3, r3, b3, p3, q3⟩ := ⟨_, _, _, _, _, _, rfl⟩
      obtain ⟨k4, o4, r4, b4, p4, q4, hE4⟩ : ∃ k o r b p q, es.getD m E0 = ⟨k, o, r, b, p, q⟩ := ⟨_, _, _, _, _, _, rfl⟩
      generalize es ++ [derE es m r b] = XS at *
      rw [hE3] at hHE
      rw [entAt_nat, hE4, hE3] at hw
      have hcap : capWithin k3 o3 r3 b3 k4 o4 r4 b4 = true := hw
      have hcw := fun W => impl_CapWithin k3 o3 r3 b3 k4 o4 r4 b4 W
      rw [hcap] at hcw
      have hql : (desc es m).length ≤ 30 := by have := desc_len_le es m; omega
      have hqq : (desc es m ++ [(k : Int)]).length = (desc es m).length + 1 := by simp
      have hqv : (desc es m ++ [(k : Int)]).getD (desc es m).length 0 = (k : Int) := by simp [List.getD]
      have HQQ := Lib.hid hqq
      have HQV := Lib.hid hqv
      have HHE := Lib.hid hHE
      have HHM := Lib.hid hHM
      have HE4 := Lib.hid hE4
      generalize desc es m ++ [(k : Int)] = L at *
      generalize (desc es m).length = q at *
      clear hqq hqv hHE hHM hE3 hE4 hcap hw hv' hlive hv hgn n0 n1 hl hN hL hok hLle hlenx
      go_wp2_with fail
      refine hde.mono ?_
      rintro e w5 ⟨D, d, rfl, hD5, hb5⟩
      rw [HQQ.out] at hD5 ⊢
      obtain ⟨gD, rfl, -, hgD, -⟩ := hD5.at_ (by omega)
      have hS : DerS w.heap.size w gA k c w.heap.size es gX (k + 1) x w1.heap.size XS gD (q + 1) d w4.heap.size L w5 := ⟨EntK.step hb5 ⟨hK4, trivial⟩, hX4.below hb5, hD5⟩
      obtain ⟨-, x0, x1, x2, x3, y0, y1, y2, y3, z0⟩ := DerS.cells (n := k + 1) (k := k) (q := q + 1) (t := q) (by omega) hmk (by omega) HHE.out HE4.out HQV.out hS
      have hDV := fun (W : World) (R : Prop) (h : DerS w.heap.size w gA k c w.heap.size es gX (k + 1) x w1.heap.size XS gD (q + 1) d w4.heap.size L W ∧ R) => hdv W h.1.2.1
      have hSM := fun (W : World) (R : Prop) (h : DerS w.heap.size w gA k c w.heap.size es gX (k + 1) x w1.heap.size XS gD (q + 1) d w4.heap.size L W ∧ R) =>
        laws_sameTree (some ⟨gX, 0, none⟩) (some ⟨gA, 0, none⟩) k x c _ _ es W (by have := h.1.2.1.take (m := k) (by omega); rw [HHM.out] at this; exact this) h.1.1.1 (by omega)
      have hkx : (k : Int) ≤ (x : Int) := by have := hX4.2.1; omega
      have hk0 : (0 : Int) ≤ (k : Int) := by omega
      have hkk : (k : Int) < (k : Int) + 1 := by omega
      have hq1 : IntKind.i64.wrap ((q : Int) + 1 - 1) = (q : Int) := by rw [IntKind.wrap_i64]; omega
      have hq2 : IntKind.i64.wrap (q : Int) = (q : Int) := by rw [IntKind.wrap_i64]; omega
      have hq0 : (0 : Int) ≤ (q : Int) := by omega
      have hqk : (q : Int) < (q : Int) + 1 := by omega
      have hqp : (0 : Int) < (q : Int) + 1 := by omega
      clear hK4 hX4 hD5 hb5 hde hdv
      go_wp2_with fail
      (first
        | (go_region_held3 (fun w' => DerS w.heap.size w gA k c w.heap.size es gX (k + 1) x w1.heap.size XS gD (q + 1) d w4.heap.size L w' ∧ w'.cell? ⟨gX, k * 6, none⟩ = some (.int .i64 k3) ∧ w'.cell? ⟨gX, k * 6 + 1, none⟩ = some (.int .i64 o3) ∧ w'.cell? ⟨gX, k * 6 + 2, none⟩ = some (.int .i64 r3) ∧ w'.cell? ⟨gX, k * 6 + 3, none⟩ = some (.int .i64 b3) ∧ w'.cell? ⟨gA, m * 6, none⟩ = some (.int .i64 k4) ∧ w'.cell? ⟨gA, m * 6 + 1, none⟩ = some (.int .i64 o4) ∧ w'.cell? ⟨gA, m * 6 + 2, none⟩ = some (.int .i64 r4) ∧ w'.cell? ⟨gA, m * 6 + 3, none⟩ = some (.int .i64 b4) ∧ w'.cell? ⟨gD, q, none⟩ = some (.int .i64 (k : Int)))
            (first | exact DerS.cells (by omega) hmk (by omega) HHE.out HE4.out HQV.out (DerS.drew hS) | exact DerS.cells (by omega) hmk (by omega) HHE.out HE4.out HQV.out (DerS.step (by assumption) (by assumption)))
            (first | (go_at_call 20; refine (hDV _ _ (by assumption)).mono ?_; rintro e w9 ⟨rfl, hb9⟩) | (go_at_call 40; refine (hSM _ _ (by assumption)).mono ?_; rintro e w8 ⟨rfl, hb8⟩) | (go_at_call 45; refine (hcw _).mono ?_; rintro e w7 ⟨rfl, hb7⟩)))
        | fail)
      have hT : DerS w.heap.size w gA k c w.heap.size es gX (k + 1) x w1.heap.size XS gD (q + 1) d w4.heap.size L w7 := And.left (by assumption)
      have HT := Lib.hid hT
      clear hT hS hSM hDV hcw x0 x1 x2 x3 y0 y1 y2 y3 z0
      go_wp2_with fail
      go_ret
      exact ⟨rfl, HT.out.1.2.1⟩

set_option maxRecDepth 100000 in
theorem lifted_FnDeriveCap (os : Os) (started : os.Started) (H : Type) (enc : TypeId × Value → H) :
    ReturnsInHanded {} Try.checked os 15 .any (Rows.fnDeriveCapSpec.pre6 enc Try.prog Try.f15 Rows.fnDeriveCapRow.domain false) (Rows.fnDeriveCapSpec.post enc Try.prog Try.f15 false true false false) := by
  refine returnsInHanded_of_change (C := Try.checked) row_own started (by kernel_rfl) Try.func15
    (ChangeSpec.witness6 (enc := enc) (C := Try.checked) false ⟨#[], #[.slice none 0 0], []⟩ 8 (by kernel_rfl) (by kernel_rfl) (by kernel_rfl) (by kernel_rfl)) ?_
  intro W base args ds gs before hval0 hW hcnd _
  have hval : ∀ (j : Nat) t v, Try.f15.params[j]? = some t → args[j]? = some v → Value.okWide Try.prog W .any base t v := hval0
  have hW' := hW
  obtain ⟨p, q, hA0, hV, rfl, hfz, hnd⟩ := hW
  have hA : DataW.TrodAll enc Try.prog W 0 (fun _ => true) true Try.f15.params.toList args.toList ds p := hA0
  rw [Try.params15] at hA hval
  obtain ⟨v0, vs0, d0, ds0, p0, q0, hargs, rfl, rfl, h0, r0⟩ := trodAll_cons hA
  obtain ⟨rfl, rfl, rfl⟩ := trodAll_nil r0
  obtain rfl : args = #[v0] := by cases args; simp_all
  obtain ⟨rfl, rfl⟩ := trodVars_none hV
  have k0 := h0
  have lt0 : ∀ x ∈ p0, x.block < W.heap.size := by obtain ⟨m, hm⟩ := k0; exact DataW.trod_lt m _ _ _ hm
  have w0 := open_bytes (hval 0 41 v0 rfl rfl) h0
  clear hA0 hval0
  refine (walk_FnDeriveCap v0 W w0).mono fun e W' ⟨he, bel⟩ => ?_
  subst he
  exact ⟨_, rfl, _, _, _, [], _, [], hW', trodAll_mk1 (shut_bool Try.underlying4 _), (trodAll_cons_mk (Below.trod row_laidOut (by kernel_rfl) (of_decide_eq_true (by kernel_rfl)) k0 bel lt0) trodAll_mk0), rfl, bel.frame _, fun h => by cases h⟩

theorem over_FnDeriveCap : Rows.fnDeriveCapRow.holds Try.pinned (OpenSpec.ofChange Rows.fnDeriveCapSpec) :=
  OpenClaim.holds_of_wide 15 Try.f15 rfl rfl rfl rfl rfl rfl rfl ⟨rfl, rfl, rfl, rfl, rfl⟩ rfl rfl rfl rfl rfl (by kernel_rfl) Try.func15 (by kernel_rfl)
    (of_decide_eq_true (by kernel_rfl)) (by unfold Func.isWrapper; first | (rw [if_pos (by decide +kernel)]; kernel_rfl) | (rw [if_neg (by decide +kernel)]; exact ⟨rfl, rfl⟩))
    (fun os started H enc _ => lifted_FnDeriveCap os started H enc)

theorem FnDeriveCap_holds : Rows.FnDeriveCapSaid := over_FnDeriveCap

end Go.Proofs.Ytpglfbjjmnaojaa
