/- The draw of MintCap: whatever the code, a capability and two numbers. No condition. -/
import Derived.Test.YtciebhdoafhkbaaDrawCapLaws
import Derived.Deep.RegionHeld3
namespace Go.Proofs.Ytciebhdoafhkbaa
open Go.RowKit
set_option linter.unusedVariables false

def mintAV (b : Nat) : Nat → Value → World → Prop
  | 0, v, w => ∃ (g : Nat) (xs : List Int), v = .slice (some ⟨g, 0, none⟩) 2 2 ∧ IntsAt w g xs ∧ xs.length = 2
  | 1, v, w => v = .pointer (some ⟨b, 0, none⟩)
  | 2, v, w => ∃ i : Int, v = .int .i64 i ∧ 0 ≤ i ∧ i < 2
  | 3, v, w => ∃ (g i : Nat) (xs : List Int), v = .pointer (some ⟨g, i, none⟩) ∧ IntsAt w g xs ∧ i < xs.length
  | 4, v, w => ∃ i : Int, v = .int .i64 i
  | 5, v, w => v = .pointer (some ⟨b, 0, none⟩)
  | 6, v, w => ∃ i : Int, v = .int .i64 i ∧ 0 ≤ i ∧ i < 5
  | 7, v, w => v = .pointer (some ⟨b, 0, none⟩)
  | 8, v, w => ∃ i : Int, v = .int .i64 i ∧ 0 ≤ i ∧ i < 16
  | 9, v, w => ∃ y0 y1 y2 y3 : Int, v = .agg #[.int .i64 y0, .int .i64 y1, .int .i64 y2, .int .i64 y3]
  | _, _, _ => True
theorem mintAV_le (b : Nat) : ∀ j u w w', Le w w' → mintAV b j u w → mintAV b j u w' := by
  intro j u w w' hl h
  unfold mintAV at h ⊢
  split at h <;> first
    | exact h
    | (obtain ⟨g, xs, h1, h2, h3⟩ := h; exact ⟨g, xs, h1, h2.le hl, h3⟩)
    | (obtain ⟨g, i, xs, h1, h2, h3⟩ := h; exact ⟨g, i, xs, h1, h2.le hl, h3⟩)
def mintBV (b : Nat) : Nat → Value → World → Prop
  | 0, v, w => ∃ y0 y1 y2 y3 : Int, v = .agg #[.int .i64 y0, .int .i64 y1, .int .i64 y2, .int .i64 y3]
  | 1, v, w => v = .pointer (some ⟨b, 0, none⟩)
  | 2, v, w => ∃ i : Int, v = .int .i64 i
  | 3, v, w => v = .pointer (some ⟨b, 0, none⟩)
  | 4, v, w => ∃ i : Int, v = .int .i64 i ∧ 0 ≤ i ∧ i < 5
  | 5, v, w => ∃ i : Int, v = .int .i64 i
  | 6, v, w => ∃ (g : Nat) (xs : List Int), v = .slice (some ⟨g, 0, none⟩) 4 4 ∧ IntsAt w g xs ∧ xs.length = 4
  | 7, v, w => ∃ (g : Nat) (xs : List Int), v = .slice (some ⟨g, 0, none⟩) 8 8 ∧ IntsAt w g xs ∧ xs.length = 8 ∧ ∀ x ∈ xs, 0 ≤ x ∧ x < 4
  | 8, v, w => v = .pointer (some ⟨b, 0, none⟩)
  | 9, v, w => ∃ i : Int, v = .int .i64 i ∧ 0 ≤ i ∧ i < 8
  | 10, v, w => ∃ (g i : Nat) (xs : List Int), v = .pointer (some ⟨g, i, none⟩) ∧ IntsAt w g xs ∧ i < xs.length ∧ ∀ x ∈ xs, 0 ≤ x ∧ x < 4
  | 11, v, w => ∃ i : Int, v = .int .i64 i ∧ 0 ≤ i ∧ i < 4
  | 12, v, w => ∃ (g i : Nat) (xs : List Int), v = .pointer (some ⟨g, i, none⟩) ∧ IntsAt w g xs ∧ i < xs.length
  | 13, v, w => ∃ i : Int, v = .int .i64 i
  | 15, v, w => ∃ i : Int, v = .int .i64 i
  | 16, v, w => ∃ i : Int, v = .int .i64 i
  | _, _, _ => True
theorem mintBV_le (b : Nat) : ∀ j u w w', Le w w' → mintBV b j u w → mintBV b j u w' := by
  intro j u w w' hl h
  unfold mintBV at h ⊢
  split at h <;> first
    | exact h
    | (obtain ⟨g, xs, h1, h2, h3⟩ := h; exact ⟨g, xs, h1, h2.le hl, h3⟩)
    | (obtain ⟨g, i, xs, h1, h2, h3⟩ := h; exact ⟨g, i, xs, h1, h2.le hl, h3⟩)

set_option maxHeartbeats 4000000 in
theorem drawMintCap (v : Value) (w : World) (h : BytesIn w v) : Calls Try.prog 30 #[v] w (DrawnMint w) := by
  go_enter Try.func30, Try.ntmps30
  go_wp2_with fail
  refine (open_src _ w.heap.size _ (h.below ((Below.refl _ _).alloc (Nat.le_refl _) _)) h.from_).mono ?_
  rintro e w1 ⟨b, rfl, hb, h1, hb1, hs1⟩
  have hR := (CapAt.new w 0 0 0 0).below' hb1 (by simp)
  have hB : Below w.heap.size w w1 := (((Below.refl _ w).alloc (Nat.le_refl _) _).trans (hb1.mono (by simp)))
  clear hb1
  have hb' : w.heap.size < b := by simp at hb; omega
  go_wp2_with fail
  refine (cap_any _ _ _ _ (by omega) h1 (by omega)).mono ?_
  rintro e w2 ⟨k, o, r, x, rfl, h2, ho2⟩
  have hw2 := ho2.size
  have hw0 := hB.size
  have hlt := h2.lt
  have hC0 := CapAt.new w2 k o r x
  go_wp2_with fail
  refine (odd_any _ _ _ _ (by omega) (h2.alloc _) (by omega)).mono ?_
  rintro e w3 ⟨t, rfl, h3, ho3⟩
  have hC3 : VarAt w3 w2.heap.size 4 25 := (hC0.only ho3 (by omega)).var
  have hR3 : VarAt w3 w.heap.size 4 25 := (((hR.only ho2 (by omega)).alloc _).only ho3 (by omega)).var
  have hs3 : Src w.heap.size w3 b := ((hs1.only ho2).only ((Only.refl _ _).alloc _)).only ho3
  have hO3 : Only b w w3 := (Only.of_below hB).trans ((ho2.alloc _).trans ho3)
  have hcw : w.heap.size ≤ w2.heap.size := by omega
  have hbc : b < w2.heap.size := hlt
  have h30 : Rd w3 b 30 := h3.more (by omega)
  clear h1 hs1 hR hB h2 ho2 hC0 h3 ho3 hb hw2 hw0 hlt h
  generalize w2.heap.size = c at *
  generalize hRR : w.heap.size = R at *
  have HRR := Lib.hid hRR
  have hwR : w.heap.size ≤ R := by omega
  clear hRR
  have hGB : ∀ {W : World}, Only b w W → Below R w W := fun ho => HRR.out ▸ ho.to_below (Below.refl _ _) (by have := HRR.out; omega)
  cases t
  · have hC := hC3
    have hR := hR3
    go_wp2_with fail
    refine wp_region_inv (mintBV b) (DG R b (30) 17 w w3.drew) Le (by kernel_rfl) (by kernel_rfl) (by kernel_rfl) (mintBV_le _) (⟨Rd.more h30 (by omega), Only.drew hO3, Le.refl _, hs3⟩) ⟨?o0, ?o1, ?o2, ?o3, ?o4, ?o5, ?o6, ?o7, ?o8, ?o9, ?o10, ?o11, ?o12, ?o13, ?o14, ?o15, ?o16, trivial⟩ ?hfin
    case o0 =>
      intro f a w K hF hA hsz hG hK
      rw [if_pos (by rfl)]
      have hsz : f + 1 ≤ 17 := hsz
      have hsz2 := hsz
      have e6 : a.tmps[6]?.getD undef = .pointer (some ⟨c, 0, none⟩) := slot_of (hF 6 (by kernel_rfl)) rfl
      have hv := hC.le hG.le
      obtain ⟨u0, c0⟩ := hv.cell (i := 0) (by omega)
      obtain ⟨u1, c1⟩ := hv.cell (i := 1) (by omega)
      obtain ⟨u2, c2⟩ := hv.cell (i := 2) (by omega)
      obtain ⟨u3, c3⟩ := hv.cell (i := 3) (by omega)
      clear hF hA
      unfold Oper.wp execOp
      go_simp
      exact hK _ _ (fun _ => ⟨_, _, _, _, rfl⟩) (hG.keep) (Le.refl _)
    case o1 =>
      intro f a w K hF hA hsz hG hK
      rw [if_pos (by rfl)]
      have hsz : f + 1 ≤ 17 := hsz
      have hsz2 := hsz
      have e5 : a.tmps[5]?.getD undef = .pointer (some ⟨b, 0, none⟩) := slot_of (hF 5 (by kernel_rfl)) rfl
      clear hF hA
      unfold Oper.wp execOp
      go_simp
      exact hK _ _ (fun _ => rfl) (hG.keep) (Le.refl _)
    case o2 =>
      intro f a w K hF hA hsz hG hK
      rw [if_pos (by rfl)]
      have hsz : f + 1 ≤ 17 := hsz
      have hsz2 := hsz
      have p24 : mintBV b 1 (a.eval (.tmp 24)) w := hA ⟨1, .data⟩ (by simp) rfl _ rfl (by simp)
      have q24 : a.eval (.tmp 24) = _ := p24
      have e24 := slot_eq q24
      clear q24
      clear hF hA
      unfold Oper.wp execOp
      go_simp
      refine (rights_any _ _ _ _ (by omega) hG.rd (by omega)).mono ?_
      rintro e w1 ⟨i, rfl, h0, h1, hR1, hO1⟩
      exact hK _ _ (fun _ => ⟨i, rfl⟩) (hG.step hR1 (by omega) hO1) (Le.only hO1 hG.rd hR1)
    case o3 =>
      intro f a w K hF hA hsz hG hK
      rw [if_pos (by rfl)]
      have hsz : f + 1 ≤ 17 := hsz
      have hsz2 := hsz
      have e5 : a.tmps[5]?.getD undef = .pointer (some ⟨b, 0, none⟩) := slot_of (hF 5 (by kernel_rfl)) rfl
      clear hF hA
      unfold Oper.wp execOp
      go_simp
      exact hK _ _ (fun _ => rfl) (hG.keep) (Le.refl _)
    case o4 =>
      intro f a w K hF hA hsz hG hK
      rw [if_pos (by rfl)]
      have hsz : f + 1 ≤ 17 := hsz
      have hsz2 := hsz
      have p26 : mintBV b 3 (a.eval (.tmp 26)) w := hA ⟨3, .data⟩ (by simp) rfl _ rfl (by simp)
      have q26 : a.eval (.tmp 26) = _ := p26
      have e26 := slot_eq q26
      clear q26
      clear hF hA
      unfold Oper.wp execOp
      go_simp
      refine (pick_any _ _ _ _ (by omega) hG.rd).mono ?_
      rintro e w1 ⟨i, rfl, h0, h1, hR1, hO1⟩
      exact hK _ _ (fun _ => ⟨i, rfl, h0, h1 (by omega)⟩) (hG.step hR1 (by omega) hO1) (Le.only hO1 hG.rd hR1)
    case o5 =>
      intro f a w K hF hA hsz hG hK
      rw [if_pos (by rfl)]
      have hsz : f + 1 ≤ 17 := hsz
      have hsz2 := hsz
      have p27 : mintBV b 4 (a.eval (.tmp 27)) w := hA ⟨4, .data⟩ (by simp) rfl _ rfl (by simp)
      obtain ⟨i27, q27, hl27, hh27⟩ := p27
      have e27 := slot_eq q27
      clear q27
      clear hF hA
      unfold Oper.wp execOp
      go_simp
      exact hK _ _ (fun _ => ⟨_, rfl⟩) (hG.keep) (Le.refl _)
    case o6 =>
      intro f a w K hF hA hsz hG hK
      rw [if_pos (by rfl)]
      have hsz : f + 1 ≤ 17 := hsz
      have hsz2 := hsz
      have p28 : mintBV b 5 (a.eval (.tmp 28)) w := hA ⟨5, .data⟩ (by simp) rfl _ rfl (by simp)
      obtain ⟨i28, q28⟩ := p28
      have e28 := slot_eq q28
      clear q28
      clear hF hA
      unfold Oper.wp execOp
      go_simp
      exact hK _ _ (fun _ => ⟨_, _, rfl, IntsAt.new w [_, _, _, _], rfl⟩) (hG.alloc _) (Le.alloc _ _)
    case o7 =>
      intro f a w K hF hA hsz hG hK
      rw [if_pos (by rfl)]
      have hsz : f + 1 ≤ 17 := hsz
      have hsz2 := hsz
      clear hF hA
      unfold Oper.wp execOp
      go_simp
      exact hK _ _ (fun _ => ⟨_, _, rfl, IntsAt.new w [_, _, _, _, _, _, _, _], rfl, by simp⟩) (hG.alloc _) (Le.alloc _ _)
    case o8 =>
      intro f a w K hF hA hsz hG hK
      rw [if_pos (by rfl)]
      have hsz : f + 1 ≤ 17 := hsz
      have hsz2 := hsz
      have e5 : a.tmps[5]?.getD undef = .pointer (some ⟨b, 0, none⟩) := slot_of (hF 5 (by kernel_rfl)) rfl
      clear hF hA
      unfold Oper.wp execOp
      go_simp
      exact hK _ _ (fun _ => rfl) (hG.keep) (Le.refl _)
    case o9 =>
      intro f a w K hF hA hsz hG hK
      rw [if_pos (by rfl)]
      have hsz : f + 1 ≤ 17 := hsz
      have hsz2 := hsz
      have p31 : mintBV b 8 (a.eval (.tmp 31)) w := hA ⟨8, .data⟩ (by simp) rfl _ rfl (by simp)
      have q31 : a.eval (.tmp 31) = _ := p31
      have e31 := slot_eq q31
      clear q31
      clear hF hA
      unfold Oper.wp execOp
      go_simp
      refine (pick_any _ _ _ _ (by omega) hG.rd).mono ?_
      rintro e w1 ⟨i, rfl, h0, h1, hR1, hO1⟩
      exact hK _ _ (fun _ => ⟨i, rfl, h0, h1 (by omega)⟩) (hG.step hR1 (by omega) hO1) (Le.only hO1 hG.rd hR1)
    case o10 =>
      intro f a w K hF hA hsz hG hK
      rw [if_pos (by rfl)]
      have hsz : f + 1 ≤ 17 := hsz
      have hsz2 := hsz
      have p30 : mintBV b 7 (a.eval (.tmp 30)) w := hA ⟨7, .data⟩ (by simp) rfl _ rfl (by simp)
      obtain ⟨g30, xs30, q30, hx30, hn30, hb30⟩ := p30
      have e30 := slot_eq q30
      have p32 : mintBV b 9 (a.eval (.tmp 32)) w := hA ⟨9, .data⟩ (by simp) rfl _ rfl (by simp)
      obtain ⟨i32, q32, hl32, hh32⟩ := p32
      have e32 := slot_eq q32
      clear q30 q32
      clear hF hA
      unfold Oper.wp execOp
      go_simp
      exact hK _ _ (fun _ => ⟨g30, (i32).toNat, _, rfl, hx30, by omega, hb30⟩) (hG.keep) (Le.refl _)
    case o11 =>
      intro f a w K hF hA hsz hG hK
      rw [if_pos (by rfl)]
      have hsz : f + 1 ≤ 17 := hsz
      have hsz2 := hsz
      have p33 : mintBV b 10 (a.eval (.tmp 33)) w := hA ⟨10, .data⟩ (by simp) rfl _ rfl (by simp)
      obtain ⟨g33, j33, xs33, q33, hx33, hj33, hb33⟩ := p33
      have e33 := slot_eq q33
      clear q33
      have cc := hx33.cell hj33
      clear hF hA
      unfold Oper.wp execOp
      go_simp
      exact hK _ _ (fun _ => ⟨_, rfl, (hb33 _ (List.getElem_mem hj33)).1, (hb33 _ (List.getElem_mem hj33)).2⟩) (hG.keep) (Le.refl _)
    case o12 =>
      intro f a w K hF hA hsz hG hK
      rw [if_pos (by rfl)]
      have hsz : f + 1 ≤ 17 := hsz
      have hsz2 := hsz
      have p29 : mintBV b 6 (a.eval (.tmp 29)) w := hA ⟨6, .data⟩ (by simp) rfl _ rfl (by simp)
      obtain ⟨g29, xs29, q29, hx29, hn29⟩ := p29
      have e29 := slot_eq q29
      have p34 : mintBV b 11 (a.eval (.tmp 34)) w := hA ⟨11, .data⟩ (by simp) rfl _ rfl (by simp)
      obtain ⟨i34, q34, hl34, hh34⟩ := p34
      have e34 := slot_eq q34
      clear q29 q34
      clear hF hA
      unfold Oper.wp execOp
      go_simp
      exact hK _ _ (fun _ => ⟨g29, (i34).toNat, _, rfl, hx29, by omega⟩) (hG.keep) (Le.refl _)
    case o13 =>
      intro f a w K hF hA hsz hG hK
      rw [if_pos (by rfl)]
      have hsz : f + 1 ≤ 17 := hsz
      have hsz2 := hsz
      have p35 : mintBV b 12 (a.eval (.tmp 35)) w := hA ⟨12, .data⟩ (by simp) rfl _ rfl (by simp)
      obtain ⟨g35, j35, xs35, q35, hx35, hj35⟩ := p35
      have e35 := slot_eq q35
      clear q35
      have cc := hx35.cell hj35
      clear hF hA
      unfold Oper.wp execOp
      go_simp
      exact hK _ _ (fun _ => ⟨_, rfl⟩) (hG.keep) (Le.refl _)
    case o14 =>
      intro f a w K hF hA hsz hG hK
      rw [if_pos (by rfl)]
      have hsz : f + 1 ≤ 17 := hsz
      have hsz2 := hsz
      have p23 : mintBV b 0 (a.eval (.tmp 23)) w := hA ⟨0, .data⟩ (by simp) rfl _ rfl (by simp)
      obtain ⟨y23_0, y23_1, y23_2, y23_3, q23⟩ := p23
      have e23 := slot_eq q23
      have e2 : a.tmps[2]?.getD undef = .pointer (some ⟨R, 0, none⟩) := slot_of (hF 2 (by kernel_rfl)) rfl
      clear q23
      have hv := hR.le hG.le
      obtain ⟨u0, c0⟩ := hv.cell (i := 0) (by omega)
      obtain ⟨u1, c1⟩ := hv.cell (i := 1) (by omega)
      obtain ⟨u2, c2⟩ := hv.cell (i := 2) (by omega)
      obtain ⟨u3, c3⟩ := hv.cell (i := 3) (by omega)
      have f0 := fun i => VarAt.free (i := i) hv
      clear hF hA
      unfold Oper.wp execOp
      go_simp
      exact hK undef _ (fun h => (h rfl).elim) (DG.set (DG.set (DG.set (DG.set hG.keep (by omega) (by omega) (by omega) hv (by decide) _) (by omega) (by omega) (by omega) (VarAt.set hv _) (by decide) _) (by omega) (by omega) (by omega) (VarAt.set (VarAt.set hv _) _) (by decide) _) (by omega) (by omega) (by omega) (VarAt.set (VarAt.set (VarAt.set hv _) _) _) (by decide) _) (Le.set4 hv (by decide))
    case o15 =>
      intro f a w K hF hA hsz hG hK
      rw [if_pos (by rfl)]
      have hsz : f + 1 ≤ 17 := hsz
      have hsz2 := hsz
      have p25 : mintBV b 2 (a.eval (.tmp 25)) w := hA ⟨2, .data⟩ (by simp) rfl _ rfl (by simp)
      obtain ⟨i25, q25⟩ := p25
      have e25 := slot_eq q25
      clear q25
      clear hF hA
      unfold Oper.wp execOp
      go_simp
      exact hK _ _ (fun _ => ⟨_, rfl⟩) (hG.keep) (Le.refl _)
    case o16 =>
      intro f a w K hF hA hsz hG hK
      rw [if_pos (by rfl)]
      have hsz : f + 1 ≤ 17 := hsz
      have hsz2 := hsz
      have p36 : mintBV b 13 (a.eval (.tmp 36)) w := hA ⟨13, .data⟩ (by simp) rfl _ rfl (by simp)
      obtain ⟨i36, q36⟩ := p36
      have e36 := slot_eq q36
      clear q36
      clear hF hA
      unfold Oper.wp execOp
      go_simp
      exact hK _ _ (fun _ => ⟨_, rfl⟩) (hG.keep) (Le.refl _)
    case hfin =>
      intro f a w' hdef hsize hF hv hG
      have p3 : mintBV b 15 (a.eval (.tmp 3)) w' := hv 15 _ rfl (by simp)
      obtain ⟨i3, q3⟩ := p3
      have p4 : mintBV b 16 (a.eval (.tmp 4)) w' := hv 16 _ rfl (by simp)
      obtain ⟨i4, q4⟩ := p4
      have q2 : a.eval (.tmp 2) = .pointer (some ⟨R, 0, none⟩) := (hF 2 (by kernel_rfl)).trans rfl
      have ha : a = ⟨#[a.eval (.tmp 0), a.eval (.tmp 1), a.eval (.tmp 2), a.eval (.tmp 3), a.eval (.tmp 4), a.eval (.tmp 5), a.eval (.tmp 6), a.eval (.tmp 7), a.eval (.tmp 8), a.eval (.tmp 9), a.eval (.tmp 10), a.eval (.tmp 11), a.eval (.tmp 12), a.eval (.tmp 13), a.eval (.tmp 14), a.eval (.tmp 15), a.eval (.tmp 16), a.eval (.tmp 17), a.eval (.tmp 18), a.eval (.tmp 19), a.eval (.tmp 20), a.eval (.tmp 21), a.eval (.tmp 22), a.eval (.tmp 23), a.eval (.tmp 24), a.eval (.tmp 25), a.eval (.tmp 26), a.eval (.tmp 27), a.eval (.tmp 28), a.eval (.tmp 29), a.eval (.tmp 30), a.eval (.tmp 31), a.eval (.tmp 32), a.eval (.tmp 33), a.eval (.tmp 34), a.eval (.tmp 35), a.eval (.tmp 36)], []⟩ := (act_lit a (n := 37) hsize).trans (by rw [hdef]; rfl)
      rw [q3, q4, q2] at ha
      generalize a.eval (.tmp 0) = s0 at ha
      generalize a.eval (.tmp 1) = s1 at ha
      generalize a.eval (.tmp 5) = s5 at ha
      generalize a.eval (.tmp 6) = s6 at ha
      generalize a.eval (.tmp 7) = s7 at ha
      generalize a.eval (.tmp 8) = s8 at ha
      generalize a.eval (.tmp 9) = s9 at ha
      generalize a.eval (.tmp 10) = s10 at ha
      generalize a.eval (.tmp 11) = s11 at ha
      generalize a.eval (.tmp 12) = s12 at ha
      generalize a.eval (.tmp 13) = s13 at ha
      generalize a.eval (.tmp 14) = s14 at ha
      generalize a.eval (.tmp 15) = s15 at ha
      generalize a.eval (.tmp 16) = s16 at ha
      generalize a.eval (.tmp 17) = s17 at ha
      generalize a.eval (.tmp 18) = s18 at ha
      generalize a.eval (.tmp 19) = s19 at ha
      generalize a.eval (.tmp 20) = s20 at ha
      generalize a.eval (.tmp 21) = s21 at ha
      generalize a.eval (.tmp 22) = s22 at ha
      generalize a.eval (.tmp 23) = s23 at ha
      generalize a.eval (.tmp 24) = s24 at ha
      generalize a.eval (.tmp 25) = s25 at ha
      generalize a.eval (.tmp 26) = s26 at ha
      generalize a.eval (.tmp 27) = s27 at ha
      generalize a.eval (.tmp 28) = s28 at ha
      generalize a.eval (.tmp 29) = s29 at ha
      generalize a.eval (.tmp 30) = s30 at ha
      generalize a.eval (.tmp 31) = s31 at ha
      generalize a.eval (.tmp 32) = s32 at ha
      generalize a.eval (.tmp 33) = s33 at ha
      generalize a.eval (.tmp 34) = s34 at ha
      generalize a.eval (.tmp 35) = s35 at ha
      generalize a.eval (.tmp 36) = s36 at ha
      clear hdef hsize hF hv q3 q4 q2
      subst ha
      have hR2 := hR.le hG.le
      obtain ⟨k9, o9, r9, x9, hR9⟩ := hR2.cap
      obtain ⟨c0, c1, c2, c3⟩ := hR9.cells
      have ho := hG.only
      clear hG
      go_wp2_with fail
      refine bodyPost_ret (v := .tuple #[.agg #[.int .i64 k9, .int .i64 o9, .int .i64 r9, .int .i64 x9], .int .i64 i3, .int .i64 i4]) (by simp [results, Try.results30, go_sem, c0, c1, c2, c3]) rfl ⟨_, _, _, _, _, _, rfl, ?_⟩
      exact HRR.out ▸ hGB ho
  · go_wp2_with fail
    refine wp_region_inv (mintAV b) (DG R b (30) 11 w w3.drew) Le (by kernel_rfl) (by kernel_rfl) (by kernel_rfl) (mintAV_le _) (⟨Rd.more h30 (by omega), Only.drew hO3, Le.refl _, hs3⟩) ⟨?o0, ?o1, ?o2, ?o3, ?o4, ?o5, ?o6, ?o7, ?o8, ?o9, ?o10, trivial⟩ ?hfin
    case o0 =>
      intro f a w K hF hA hsz hG hK
      rw [if_pos (by rfl)]
      have hsz : f + 1 ≤ 11 := hsz
      have hsz2 := hsz
      clear hF hA
      unfold Oper.wp execOp
      go_simp
      exact hK _ _ (fun _ => ⟨_, _, rfl, IntsAt.new w [_, _], rfl⟩) (hG.alloc _) (Le.alloc _ _)
    case o1 =>
      intro f a w K hF hA hsz hG hK
      rw [if_pos (by rfl)]
      have hsz : f + 1 ≤ 11 := hsz
      have hsz2 := hsz
      have e5 : a.tmps[5]?.getD undef = .pointer (some ⟨b, 0, none⟩) := slot_of (hF 5 (by kernel_rfl)) rfl
      clear hF hA
      unfold Oper.wp execOp
      go_simp
      exact hK _ _ (fun _ => rfl) (hG.keep) (Le.refl _)
    case o2 =>
      intro f a w K hF hA hsz hG hK
      rw [if_pos (by rfl)]
      have hsz : f + 1 ≤ 11 := hsz
      have hsz2 := hsz
      have p14 : mintAV b 1 (a.eval (.tmp 14)) w := hA ⟨1, .data⟩ (by simp) rfl _ rfl (by simp)
      have q14 : a.eval (.tmp 14) = _ := p14
      have e14 := slot_eq q14
      clear q14
      clear hF hA
      unfold Oper.wp execOp
      go_simp
      refine (pick_any _ _ _ _ (by omega) hG.rd).mono ?_
      rintro e w1 ⟨i, rfl, h0, h1, hR1, hO1⟩
      exact hK _ _ (fun _ => ⟨i, rfl, h0, h1 (by omega)⟩) (hG.step hR1 (by omega) hO1) (Le.only hO1 hG.rd hR1)
    case o3 =>
      intro f a w K hF hA hsz hG hK
      rw [if_pos (by rfl)]
      have hsz : f + 1 ≤ 11 := hsz
      have hsz2 := hsz
      have p13 : mintAV b 0 (a.eval (.tmp 13)) w := hA ⟨0, .data⟩ (by simp) rfl _ rfl (by simp)
      obtain ⟨g13, xs13, q13, hx13, hn13⟩ := p13
      have e13 := slot_eq q13
      have p15 : mintAV b 2 (a.eval (.tmp 15)) w := hA ⟨2, .data⟩ (by simp) rfl _ rfl (by simp)
      obtain ⟨i15, q15, hl15, hh15⟩ := p15
      have e15 := slot_eq q15
      clear q13 q15
      clear hF hA
      unfold Oper.wp execOp
      go_simp
      exact hK _ _ (fun _ => ⟨g13, (i15).toNat, _, rfl, hx13, by omega⟩) (hG.keep) (Le.refl _)
    case o4 =>
      intro f a w K hF hA hsz hG hK
      rw [if_pos (by rfl)]
      have hsz : f + 1 ≤ 11 := hsz
      have hsz2 := hsz
      have p16 : mintAV b 3 (a.eval (.tmp 16)) w := hA ⟨3, .data⟩ (by simp) rfl _ rfl (by simp)
      obtain ⟨g16, j16, xs16, q16, hx16, hj16⟩ := p16
      have e16 := slot_eq q16
      clear q16
      have cc := hx16.cell hj16
      clear hF hA
      unfold Oper.wp execOp
      go_simp
      exact hK _ _ (fun _ => ⟨_, rfl⟩) (hG.keep) (Le.refl _)
    case o5 =>
      intro f a w K hF hA hsz hG hK
      rw [if_pos (by rfl)]
      have hsz : f + 1 ≤ 11 := hsz
      have hsz2 := hsz
      have e5 : a.tmps[5]?.getD undef = .pointer (some ⟨b, 0, none⟩) := slot_of (hF 5 (by kernel_rfl)) rfl
      clear hF hA
      unfold Oper.wp execOp
      go_simp
      exact hK _ _ (fun _ => rfl) (hG.keep) (Le.refl _)
    case o6 =>
      intro f a w K hF hA hsz hG hK
      rw [if_pos (by rfl)]
      have hsz : f + 1 ≤ 11 := hsz
      have hsz2 := hsz
      have p18 : mintAV b 5 (a.eval (.tmp 18)) w := hA ⟨5, .data⟩ (by simp) rfl _ rfl (by simp)
      have q18 : a.eval (.tmp 18) = _ := p18
      have e18 := slot_eq q18
      clear q18
      clear hF hA
      unfold Oper.wp execOp
      go_simp
      refine (pick_any _ _ _ _ (by omega) hG.rd).mono ?_
      rintro e w1 ⟨i, rfl, h0, h1, hR1, hO1⟩
      exact hK _ _ (fun _ => ⟨i, rfl, h0, h1 (by omega)⟩) (hG.step hR1 (by omega) hO1) (Le.only hO1 hG.rd hR1)
    case o7 =>
      intro f a w K hF hA hsz hG hK
      rw [if_pos (by rfl)]
      have hsz : f + 1 ≤ 11 := hsz
      have hsz2 := hsz
      have e5 : a.tmps[5]?.getD undef = .pointer (some ⟨b, 0, none⟩) := slot_of (hF 5 (by kernel_rfl)) rfl
      clear hF hA
      unfold Oper.wp execOp
      go_simp
      exact hK _ _ (fun _ => rfl) (hG.keep) (Le.refl _)
    case o8 =>
      intro f a w K hF hA hsz hG hK
      rw [if_pos (by rfl)]
      have hsz : f + 1 ≤ 11 := hsz
      have hsz2 := hsz
      have p20 : mintAV b 7 (a.eval (.tmp 20)) w := hA ⟨7, .data⟩ (by simp) rfl _ rfl (by simp)
      have q20 : a.eval (.tmp 20) = _ := p20
      have e20 := slot_eq q20
      clear q20
      clear hF hA
      unfold Oper.wp execOp
      go_simp
      refine (pick_any _ _ _ _ (by omega) hG.rd).mono ?_
      rintro e w1 ⟨i, rfl, h0, h1, hR1, hO1⟩
      exact hK _ _ (fun _ => ⟨i, rfl, h0, h1 (by omega)⟩) (hG.step hR1 (by omega) hO1) (Le.only hO1 hG.rd hR1)
    case o9 =>
      intro f a w K hF hA hsz hG hK
      rw [if_pos (by rfl)]
      have hsz : f + 1 ≤ 11 := hsz
      have hsz2 := hsz
      have p17 : mintAV b 4 (a.eval (.tmp 17)) w := hA ⟨4, .data⟩ (by simp) rfl _ rfl (by simp)
      obtain ⟨i17, q17⟩ := p17
      have e17 := slot_eq q17
      have p19 : mintAV b 6 (a.eval (.tmp 19)) w := hA ⟨6, .data⟩ (by simp) rfl _ rfl (by simp)
      obtain ⟨i19, q19, hl19, hh19⟩ := p19
      have e19 := slot_eq q19
      have p21 : mintAV b 8 (a.eval (.tmp 21)) w := hA ⟨8, .data⟩ (by simp) rfl _ rfl (by simp)
      obtain ⟨i21, q21, hl21, hh21⟩ := p21
      have e21 := slot_eq q21
      clear q17 q19 q21
      clear hF hA
      unfold Oper.wp execOp
      go_simp
      exact hK _ _ (fun _ => ⟨_, _, _, _, rfl⟩) (hG.keep) (Le.refl _)
    case o10 =>
      intro f a w K hF hA hsz hG hK
      rw [if_pos (by rfl)]
      have hsz : f + 1 ≤ 11 := hsz
      have hsz2 := hsz
      have p22 : mintAV b 9 (a.eval (.tmp 22)) w := hA ⟨9, .data⟩ (by simp) rfl _ rfl (by simp)
      obtain ⟨y22_0, y22_1, y22_2, y22_3, q22⟩ := p22
      have e22 := slot_eq q22
      have e6 : a.tmps[6]?.getD undef = .pointer (some ⟨c, 0, none⟩) := slot_of (hF 6 (by kernel_rfl)) rfl
      clear q22
      have hv := hC3.le hG.le
      obtain ⟨u0, c0⟩ := hv.cell (i := 0) (by omega)
      obtain ⟨u1, c1⟩ := hv.cell (i := 1) (by omega)
      obtain ⟨u2, c2⟩ := hv.cell (i := 2) (by omega)
      obtain ⟨u3, c3⟩ := hv.cell (i := 3) (by omega)
      have f0 := fun i => VarAt.free (i := i) hv
      clear hF hA
      unfold Oper.wp execOp
      go_simp
      exact hK undef _ (fun h => (h rfl).elim) (DG.set (DG.set (DG.set (DG.set hG.keep (by omega) (by omega) (by omega) hv (by decide) _) (by omega) (by omega) (by omega) (VarAt.set hv _) (by decide) _) (by omega) (by omega) (by omega) (VarAt.set (VarAt.set hv _) _) (by decide) _) (by omega) (by omega) (by omega) (VarAt.set (VarAt.set (VarAt.set hv _) _) _) (by decide) _) (Le.set4 hv (by decide))
    case hfin =>
      intro f a w' hdef hsize hF hv hG
      have q2 : a.eval (.tmp 2) = .pointer (some ⟨R, 0, none⟩) := (hF 2 (by kernel_rfl)).trans rfl
      have q5 : a.eval (.tmp 5) = .pointer (some ⟨b, 0, none⟩) := (hF 5 (by kernel_rfl)).trans rfl
      have q6 : a.eval (.tmp 6) = .pointer (some ⟨c, 0, none⟩) := (hF 6 (by kernel_rfl)).trans rfl
      have ha : a = ⟨#[a.eval (.tmp 0), a.eval (.tmp 1), a.eval (.tmp 2), a.eval (.tmp 3), a.eval (.tmp 4), a.eval (.tmp 5), a.eval (.tmp 6), a.eval (.tmp 7), a.eval (.tmp 8), a.eval (.tmp 9), a.eval (.tmp 10), a.eval (.tmp 11), a.eval (.tmp 12), a.eval (.tmp 13), a.eval (.tmp 14), a.eval (.tmp 15), a.eval (.tmp 16), a.eval (.tmp 17), a.eval (.tmp 18), a.eval (.tmp 19), a.eval (.tmp 20), a.eval (.tmp 21), a.eval (.tmp 22), a.eval (.tmp 23), a.eval (.tmp 24), a.eval (.tmp 25), a.eval (.tmp 26), a.eval (.tmp 27), a.eval (.tmp 28), a.eval (.tmp 29), a.eval (.tmp 30), a.eval (.tmp 31), a.eval (.tmp 32), a.eval (.tmp 33), a.eval (.tmp 34), a.eval (.tmp 35), a.eval (.tmp 36)], []⟩ := (act_lit a (n := 37) hsize).trans (by rw [hdef]; rfl)
      rw [q2, q5, q6] at ha
      generalize a.eval (.tmp 0) = s0 at ha
      generalize a.eval (.tmp 1) = s1 at ha
      generalize a.eval (.tmp 3) = s3 at ha
      generalize a.eval (.tmp 4) = s4 at ha
      generalize a.eval (.tmp 7) = s7 at ha
      generalize a.eval (.tmp 8) = s8 at ha
      generalize a.eval (.tmp 9) = s9 at ha
      generalize a.eval (.tmp 10) = s10 at ha
      generalize a.eval (.tmp 11) = s11 at ha
      generalize a.eval (.tmp 12) = s12 at ha
      generalize a.eval (.tmp 13) = s13 at ha
      generalize a.eval (.tmp 14) = s14 at ha
      generalize a.eval (.tmp 15) = s15 at ha
      generalize a.eval (.tmp 16) = s16 at ha
      generalize a.eval (.tmp 17) = s17 at ha
      generalize a.eval (.tmp 18) = s18 at ha
      generalize a.eval (.tmp 19) = s19 at ha
      generalize a.eval (.tmp 20) = s20 at ha
      generalize a.eval (.tmp 21) = s21 at ha
      generalize a.eval (.tmp 22) = s22 at ha
      generalize a.eval (.tmp 23) = s23 at ha
      generalize a.eval (.tmp 24) = s24 at ha
      generalize a.eval (.tmp 25) = s25 at ha
      generalize a.eval (.tmp 26) = s26 at ha
      generalize a.eval (.tmp 27) = s27 at ha
      generalize a.eval (.tmp 28) = s28 at ha
      generalize a.eval (.tmp 29) = s29 at ha
      generalize a.eval (.tmp 30) = s30 at ha
      generalize a.eval (.tmp 31) = s31 at ha
      generalize a.eval (.tmp 32) = s32 at ha
      generalize a.eval (.tmp 33) = s33 at ha
      generalize a.eval (.tmp 34) = s34 at ha
      generalize a.eval (.tmp 35) = s35 at ha
      generalize a.eval (.tmp 36) = s36 at ha
      clear hdef hsize hF hv q2 q5 q6
      subst ha
      have h40 : Rd w' b 1130 := hG.rd.more (by omega)
      have hO4 := hG.only
      have hs4 := hG.src
      have hC := hC3.le hG.le
      have hR := hR3.le hG.le
      clear hG
      go_wp2_with fail
      refine wp_region_inv (mintBV b) (DG R b (1130) 17 w w'.drew) Le (by kernel_rfl) (by kernel_rfl) (by kernel_rfl) (mintBV_le _) (⟨Rd.more h40 (by omega), Only.drew hO4, Le.refl _, hs4⟩) ⟨?o0, ?o1, ?o2, ?o3, ?o4, ?o5, ?o6, ?o7, ?o8, ?o9, ?o10, ?o11, ?o12, ?o13, ?o14, ?o15, ?o16, trivial⟩ ?hfin
      case o0 =>
        intro f a w K hF hA hsz hG hK
        rw [if_pos (by rfl)]
        have hsz : f + 1 ≤ 17 := hsz
        have hsz2 := hsz
        have e6 : a.tmps[6]?.getD undef = .pointer (some ⟨c, 0, none⟩) := slot_of (hF 6 (by kernel_rfl)) rfl
        have hv := hC.le hG.le
        obtain ⟨u0, c0⟩ := hv.cell (i := 0) (by omega)
        obtain ⟨u1, c1⟩ := hv.cell (i := 1) (by omega)
        obtain ⟨u2, c2⟩ := hv.cell (i := 2) (by omega)
        obtain ⟨u3, c3⟩ := hv.cell (i := 3) (by omega)
        clear hF hA
        unfold Oper.wp execOp
        go_simp
        exact hK _ _ (fun _ => ⟨_, _, _, _, rfl⟩) (hG.keep) (Le.refl _)
      case o1 =>
        intro f a w K hF hA hsz hG hK
        rw [if_pos (by rfl)]
        have hsz : f + 1 ≤ 17 := hsz
        have hsz2 := hsz
        have e5 : a.tmps[5]?.getD undef = .pointer (some ⟨b, 0, none⟩) := slot_of (hF 5 (by kernel_rfl)) rfl
        clear hF hA
        unfold Oper.wp execOp
        go_simp
        exact hK _ _ (fun _ => rfl) (hG.keep) (Le.refl _)
      case o2 =>
        intro f a w K hF hA hsz hG hK
        rw [if_pos (by rfl)]
        have hsz : f + 1 ≤ 17 := hsz
        have hsz2 := hsz
        have p24 : mintBV b 1 (a.eval (.tmp 24)) w := hA ⟨1, .data⟩ (by simp) rfl _ rfl (by simp)
        have q24 : a.eval (.tmp 24) = _ := p24
        have e24 := slot_eq q24
        clear q24
        clear hF hA
        unfold Oper.wp execOp
        go_simp
        refine (rights_any _ _ _ _ (by omega) hG.rd (by omega)).mono ?_
        rintro e w1 ⟨i, rfl, h0, h1, hR1, hO1⟩
        exact hK _ _ (fun _ => ⟨i, rfl⟩) (hG.step hR1 (by omega) hO1) (Le.only hO1 hG.rd hR1)
      case o3 =>
        intro f a w K hF hA hsz hG hK
        rw [if_pos (by rfl)]
        have hsz : f + 1 ≤ 17 := hsz
        have hsz2 := hsz
        have e5 : a.tmps[5]?.getD undef = .pointer (some ⟨b, 0, none⟩) := slot_of (hF 5 (by kernel_rfl)) rfl
        clear hF hA
        unfold Oper.wp execOp
        go_simp
        exact hK _ _ (fun _ => rfl) (hG.keep) (Le.refl _)
      case o4 =>
        intro f a w K hF hA hsz hG hK
        rw [if_pos (by rfl)]
        have hsz : f + 1 ≤ 17 := hsz
        have hsz2 := hsz
        have p26 : mintBV b 3 (a.eval (.tmp 26)) w := hA ⟨3, .data⟩ (by simp) rfl _ rfl (by simp)
        have q26 : a.eval (.tmp 26) = _ := p26
        have e26 := slot_eq q26
        clear q26
        clear hF hA
        unfold Oper.wp execOp
        go_simp
        refine (pick_any _ _ _ _ (by omega) hG.rd).mono ?_
        rintro e w1 ⟨i, rfl, h0, h1, hR1, hO1⟩
        exact hK _ _ (fun _ => ⟨i, rfl, h0, h1 (by omega)⟩) (hG.step hR1 (by omega) hO1) (Le.only hO1 hG.rd hR1)
      case o5 =>
        intro f a w K hF hA hsz hG hK
        rw [if_pos (by rfl)]
        have hsz : f + 1 ≤ 17 := hsz
        have hsz2 := hsz
        have p27 : mintBV b 4 (a.eval (.tmp 27)) w := hA ⟨4, .data⟩ (by simp) rfl _ rfl (by simp)
        obtain ⟨i27, q27, hl27, hh27⟩ := p27
        have e27 := slot_eq q27
        clear q27
        clear hF hA
        unfold Oper.wp execOp
        go_simp
        exact hK _ _ (fun _ => ⟨_, rfl⟩) (hG.keep) (Le.refl _)
      case o6 =>
        intro f a w K hF hA hsz hG hK
        rw [if_pos (by rfl)]
        have hsz : f + 1 ≤ 17 := hsz
        have hsz2 := hsz
        have p28 : mintBV b 5 (a.eval (.tmp 28)) w := hA ⟨5, .data⟩ (by simp) rfl _ rfl (by simp)
        obtain ⟨i28, q28⟩ := p28
        have e28 := slot_eq q28
        clear q28
        clear hF hA
        unfold Oper.wp execOp
        go_simp
        exact hK _ _ (fun _ => ⟨_, _, rfl, IntsAt.new w [_, _, _, _], rfl⟩) (hG.alloc _) (Le.alloc _ _)
      case o7 =>
        intro f a w K hF hA hsz hG hK
        rw [if_pos (by rfl)]
        have hsz : f + 1 ≤ 17 := hsz
        have hsz2 := hsz
        clear hF hA
        unfold Oper.wp execOp
        go_simp
        exact hK _ _ (fun _ => ⟨_, _, rfl, IntsAt.new w [_, _, _, _, _, _, _, _], rfl, by simp⟩) (hG.alloc _) (Le.alloc _ _)
      case o8 =>
        intro f a w K hF hA hsz hG hK
        rw [if_pos (by rfl)]
        have hsz : f + 1 ≤ 17 := hsz
        have hsz2 := hsz
        have e5 : a.tmps[5]?.getD undef = .pointer (some ⟨b, 0, none⟩) := slot_of (hF 5 (by kernel_rfl)) rfl
        clear hF hA
        unfold Oper.wp execOp
        go_simp
        exact hK _ _ (fun _ => rfl) (hG.keep) (Le.refl _)
      case o9 =>
        intro f a w K hF hA hsz hG hK
        rw [if_pos (by rfl)]
        have hsz : f + 1 ≤ 17 := hsz
        have hsz2 := hsz
        have p31 : mintBV b 8 (a.eval (.tmp 31)) w := hA ⟨8, .data⟩ (by simp) rfl _ rfl (by simp)
        have q31 : a.eval (.tmp 31) = _ := p31
        have e31 := slot_eq q31
        clear q31
        clear hF hA
        unfold Oper.wp execOp
        go_simp
        refine (pick_any _ _ _ _ (by omega) hG.rd).mono ?_
        rintro e w1 ⟨i, rfl, h0, h1, hR1, hO1⟩
        exact hK _ _ (fun _ => ⟨i, rfl, h0, h1 (by omega)⟩) (hG.step hR1 (by omega) hO1) (Le.only hO1 hG.rd hR1)
      case o10 =>
        intro f a w K hF hA hsz hG hK
        rw [if_pos (by rfl)]
        have hsz : f + 1 ≤ 17 := hsz
        have hsz2 := hsz
        have p30 : mintBV b 7 (a.eval (.tmp 30)) w := hA ⟨7, .data⟩ (by simp) rfl _ rfl (by simp)
        obtain ⟨g30, xs30, q30, hx30, hn30, hb30⟩ := p30
        have e30 := slot_eq q30
        have p32 : mintBV b 9 (a.eval (.tmp 32)) w := hA ⟨9, .data⟩ (by simp) rfl _ rfl (by simp)
        obtain ⟨i32, q32, hl32, hh32⟩ := p32
        have e32 := slot_eq q32
        clear q30 q32
        clear hF hA
        unfold Oper.wp execOp
        go_simp
        exact hK _ _ (fun _ => ⟨g30, (i32).toNat, _, rfl, hx30, by omega, hb30⟩) (hG.keep) (Le.refl _)
      case o11 =>
        intro f a w K hF hA hsz hG hK
        rw [if_pos (by rfl)]
        have hsz : f + 1 ≤ 17 := hsz
        have hsz2 := hsz
        have p33 : mintBV b 10 (a.eval (.tmp 33)) w := hA ⟨10, .data⟩ (by simp) rfl _ rfl (by simp)
        obtain ⟨g33, j33, xs33, q33, hx33, hj33, hb33⟩ := p33
        have e33 := slot_eq q33
        clear q33
        have cc := hx33.cell hj33
        clear hF hA
        unfold Oper.wp execOp
        go_simp
        exact hK _ _ (fun _ => ⟨_, rfl, (hb33 _ (List.getElem_mem hj33)).1, (hb33 _ (List.getElem_mem hj33)).2⟩) (hG.keep) (Le.refl _)
      case o12 =>
        intro f a w K hF hA hsz hG hK
        rw [if_pos (by rfl)]
        have hsz : f + 1 ≤ 17 := hsz
        have hsz2 := hsz
        have p29 : mintBV b 6 (a.eval (.tmp 29)) w := hA ⟨6, .data⟩ (by simp) rfl _ rfl (by simp)
        obtain ⟨g29, xs29, q29, hx29, hn29⟩ := p29
        have e29 := slot_eq q29
        have p34 : mintBV b 11 (a.eval (.tmp 34)) w := hA ⟨11, .data⟩ (by simp) rfl _ rfl (by simp)
        obtain ⟨i34, q34, hl34, hh34⟩ := p34
        have e34 := slot_eq q34
        clear q29 q34
        clear hF hA
        unfold Oper.wp execOp
        go_simp
        exact hK _ _ (fun _ => ⟨g29, (i34).toNat, _, rfl, hx29, by omega⟩) (hG.keep) (Le.refl _)
      case o13 =>
        intro f a w K hF hA hsz hG hK
        rw [if_pos (by rfl)]
        have hsz : f + 1 ≤ 17 := hsz
        have hsz2 := hsz
        have p35 : mintBV b 12 (a.eval (.tmp 35)) w := hA ⟨12, .data⟩ (by simp) rfl _ rfl (by simp)
        obtain ⟨g35, j35, xs35, q35, hx35, hj35⟩ := p35
        have e35 := slot_eq q35
        clear q35
        have cc := hx35.cell hj35
        clear hF hA
        unfold Oper.wp execOp
        go_simp
        exact hK _ _ (fun _ => ⟨_, rfl⟩) (hG.keep) (Le.refl _)
      case o14 =>
        intro f a w K hF hA hsz hG hK
        rw [if_pos (by rfl)]
        have hsz : f + 1 ≤ 17 := hsz
        have hsz2 := hsz
        have p23 : mintBV b 0 (a.eval (.tmp 23)) w := hA ⟨0, .data⟩ (by simp) rfl _ rfl (by simp)
        obtain ⟨y23_0, y23_1, y23_2, y23_3, q23⟩ := p23
        have e23 := slot_eq q23
        have e2 : a.tmps[2]?.getD undef = .pointer (some ⟨R, 0, none⟩) := slot_of (hF 2 (by kernel_rfl)) rfl
        clear q23
        have hv := hR.le hG.le
        obtain ⟨u0, c0⟩ := hv.cell (i := 0) (by omega)
        obtain ⟨u1, c1⟩ := hv.cell (i := 1) (by omega)
        obtain ⟨u2, c2⟩ := hv.cell (i := 2) (by omega)
        obtain ⟨u3, c3⟩ := hv.cell (i := 3) (by omega)
        have f0 := fun i => VarAt.free (i := i) hv
        clear hF hA
        unfold Oper.wp execOp
        go_simp
        exact hK undef _ (fun h => (h rfl).elim) (DG.set (DG.set (DG.set (DG.set hG.keep (by omega) (by omega) (by omega) hv (by decide) _) (by omega) (by omega) (by omega) (VarAt.set hv _) (by decide) _) (by omega) (by omega) (by omega) (VarAt.set (VarAt.set hv _) _) (by decide) _) (by omega) (by omega) (by omega) (VarAt.set (VarAt.set (VarAt.set hv _) _) _) (by decide) _) (Le.set4 hv (by decide))
      case o15 =>
        intro f a w K hF hA hsz hG hK
        rw [if_pos (by rfl)]
        have hsz : f + 1 ≤ 17 := hsz
        have hsz2 := hsz
        have p25 : mintBV b 2 (a.eval (.tmp 25)) w := hA ⟨2, .data⟩ (by simp) rfl _ rfl (by simp)
        obtain ⟨i25, q25⟩ := p25
        have e25 := slot_eq q25
        clear q25
        clear hF hA
        unfold Oper.wp execOp
        go_simp
        exact hK _ _ (fun _ => ⟨_, rfl⟩) (hG.keep) (Le.refl _)
      case o16 =>
        intro f a w K hF hA hsz hG hK
        rw [if_pos (by rfl)]
        have hsz : f + 1 ≤ 17 := hsz
        have hsz2 := hsz
        have p36 : mintBV b 13 (a.eval (.tmp 36)) w := hA ⟨13, .data⟩ (by simp) rfl _ rfl (by simp)
        obtain ⟨i36, q36⟩ := p36
        have e36 := slot_eq q36
        clear q36
        clear hF hA
        unfold Oper.wp execOp
        go_simp
        exact hK _ _ (fun _ => ⟨_, rfl⟩) (hG.keep) (Le.refl _)
      case hfin =>
        intro f a w' hdef hsize hF hv hG
        have p3 : mintBV b 15 (a.eval (.tmp 3)) w' := hv 15 _ rfl (by simp)
        obtain ⟨i3, q3⟩ := p3
        have p4 : mintBV b 16 (a.eval (.tmp 4)) w' := hv 16 _ rfl (by simp)
        obtain ⟨i4, q4⟩ := p4
        have q2 : a.eval (.tmp 2) = .pointer (some ⟨R, 0, none⟩) := (hF 2 (by kernel_rfl)).trans rfl
        have ha : a = ⟨#[a.eval (.tmp 0), a.eval (.tmp 1), a.eval (.tmp 2), a.eval (.tmp 3), a.eval (.tmp 4), a.eval (.tmp 5), a.eval (.tmp 6), a.eval (.tmp 7), a.eval (.tmp 8), a.eval (.tmp 9), a.eval (.tmp 10), a.eval (.tmp 11), a.eval (.tmp 12), a.eval (.tmp 13), a.eval (.tmp 14), a.eval (.tmp 15), a.eval (.tmp 16), a.eval (.tmp 17), a.eval (.tmp 18), a.eval (.tmp 19), a.eval (.tmp 20), a.eval (.tmp 21), a.eval (.tmp 22), a.eval (.tmp 23), a.eval (.tmp 24), a.eval (.tmp 25), a.eval (.tmp 26), a.eval (.tmp 27), a.eval (.tmp 28), a.eval (.tmp 29), a.eval (.tmp 30), a.eval (.tmp 31), a.eval (.tmp 32), a.eval (.tmp 33), a.eval (.tmp 34), a.eval (.tmp 35), a.eval (.tmp 36)], []⟩ := (act_lit a (n := 37) hsize).trans (by rw [hdef]; rfl)
        rw [q3, q4, q2] at ha
        generalize a.eval (.tmp 0) = s0 at ha
        generalize a.eval (.tmp 1) = s1 at ha
        generalize a.eval (.tmp 5) = s5 at ha
        generalize a.eval (.tmp 6) = s6 at ha
        generalize a.eval (.tmp 7) = s7 at ha
        generalize a.eval (.tmp 8) = s8 at ha
        generalize a.eval (.tmp 9) = s9 at ha
        generalize a.eval (.tmp 10) = s10 at ha
        generalize a.eval (.tmp 11) = s11 at ha
        generalize a.eval (.tmp 12) = s12 at ha
        generalize a.eval (.tmp 13) = s13 at ha
        generalize a.eval (.tmp 14) = s14 at ha
        generalize a.eval (.tmp 15) = s15 at ha
        generalize a.eval (.tmp 16) = s16 at ha
        generalize a.eval (.tmp 17) = s17 at ha
        generalize a.eval (.tmp 18) = s18 at ha
        generalize a.eval (.tmp 19) = s19 at ha
        generalize a.eval (.tmp 20) = s20 at ha
        generalize a.eval (.tmp 21) = s21 at ha
        generalize a.eval (.tmp 22) = s22 at ha
        generalize a.eval (.tmp 23) = s23 at ha
        generalize a.eval (.tmp 24) = s24 at ha
        generalize a.eval (.tmp 25) = s25 at ha
        generalize a.eval (.tmp 26) = s26 at ha
        generalize a.eval (.tmp 27) = s27 at ha
        generalize a.eval (.tmp 28) = s28 at ha
        generalize a.eval (.tmp 29) = s29 at ha
        generalize a.eval (.tmp 30) = s30 at ha
        generalize a.eval (.tmp 31) = s31 at ha
        generalize a.eval (.tmp 32) = s32 at ha
        generalize a.eval (.tmp 33) = s33 at ha
        generalize a.eval (.tmp 34) = s34 at ha
        generalize a.eval (.tmp 35) = s35 at ha
        generalize a.eval (.tmp 36) = s36 at ha
        clear hdef hsize hF hv q3 q4 q2
        subst ha
        have hR2 := hR.le hG.le
        obtain ⟨k9, o9, r9, x9, hR9⟩ := hR2.cap
        obtain ⟨c0, c1, c2, c3⟩ := hR9.cells
        have ho := hG.only
        clear hG
        go_wp2_with fail
        refine bodyPost_ret (v := .tuple #[.agg #[.int .i64 k9, .int .i64 o9, .int .i64 r9, .int .i64 x9], .int .i64 i3, .int .i64 i4]) (by simp [results, Try.results30, go_sem, c0, c1, c2, c3]) rfl ⟨_, _, _, _, _, _, rfl, ?_⟩
        exact HRR.out ▸ hGB ho

end Go.Proofs.Ytciebhdoafhkbaa
