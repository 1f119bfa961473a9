/- The draws on a derivation tree, whatever the code. No condition. -/
import Derived.Test.YtpglfbjjmnaojaaDrawTree
namespace Go.Proofs.Ytpglfbjjmnaojaa
open Go.RowKit
set_option linter.unusedVariables false

def TreePick (b m : Nat) (w : World) (e : Ending) (w' : World) : Prop := ∃ i : Int, e = .returned (.int .i64 i) ∧ Rd w' b m ∧ Only b w w'
set_option maxHeartbeats 2000000 in
theorem treePick_any (A : Option Addr) (k c b m : Nat) (w : World) (hm : m ≤ 900000000) (hk : k ≤ 60) (h : Rd w b m) :
    Calls Try.prog 66 #[.pointer (some ⟨b, 0, none⟩), .slice A k c] w (TreePick b (m + 1 + 1) w) := by
  go_enter Try.func66, Try.ntmps66
  go_wp2_with fail
  refine (pick_any _ _ _ _ (by omega) h).mono ?_
  rintro e w1 ⟨y, rfl, y0, y1, hR1, hO1⟩
  have y1' := y1 (by omega)
  clear y1 h
  go_wp2_with fail
  refine (pick_any _ _ _ _ (by omega) hR1).mono ?_
  rintro e w2 ⟨z, rfl, z0, z1, hR2, hO2⟩
  have z1' := z1 (by omega)
  have HR := Lib.hid hR2
  have HO := Lib.hid (hO1.trans hO2)
  clear z1 hR1 hR2 hO1 hO2
  go_wp2_with fail
  go_ret
  exact ⟨_, rfl, HR.out, HO.out⟩

def DrawnT (w : World) (e : Ending) (w' : World) : Prop := ∃ (A : Option Addr) (k c : Nat) (es : List Ent), e = .returned (.slice A k c) ∧ EntO w' w.heap.size A k c es ∧ k ≤ 60 ∧ (A = none → c = 0) ∧ Below w.heap.size w w'
theorem OwnE.none_ {w : World} {base n c : Nat} {A : Option Addr} {es : List Ent} (h : OwnE w base A n c es) : A = none → c = 0 := fun e => by
  rcases h.2 with ⟨hv, _⟩ | ⟨g, cap, cur, hv, _⟩
  · injection hv
  · injection hv with h1
    rw [e] at h1
    cases h1
def DrawnTI (w : World) (e : Ending) (w' : World) : Prop := ∃ (A : Option Addr) (k c : Nat) (es : List Ent) (n : Int), e = .returned (.tuple #[.slice A k c, .int .i64 n]) ∧ EntO w' w.heap.size A k c es ∧ k ≤ 60 ∧ Below w.heap.size w w'
def DrawnTD (w : World) (e : Ending) (w' : World) : Prop := ∃ (A : Option Addr) (k c : Nat) (es : List Ent) (n r b : Int), e = .returned (.tuple #[.slice A k c, .int .i64 n, .int .i64 r, .int .i64 b]) ∧ EntO w' w.heap.size A k c es ∧ k ≤ 60 ∧ Below w.heap.size w w'

set_option maxHeartbeats 2000000 in
theorem drawDerivationValid (v : Value) (w : World) (h : BytesIn w v) : Calls Try.prog 42 #[v] w (DrawnT w) := by
  go_enter Try.func42, Try.ntmps42
  go_wp2_with fail
  refine (open_any _ _ h).mono ?_
  rintro e w1 ⟨b, rfl, hb, h1, hb1⟩
  go_wp2_with fail
  refine (tree_any _ _ _ _ (by omega) h1 (by omega)).mono ?_
  rintro e w2 ⟨A, k, c, es, rfl, hO, hk, hR2, hO2⟩
  have HE := Lib.hid (hO.ento.more hb1.size)
  have HB := Lib.hid (hO2.to_below hb1 hb)
  have HN := Lib.hid hO.none_
  clear h1 hb1 hO hR2 hO2 h hb
  go_wp2_with fail
  go_ret
  exact ⟨A, k, c, es, rfl, HE.out, hk, HN.out, HB.out⟩

def descDV (b : Nat) (A : Option Addr) (k c : Nat) (y : Int) : Nat → Value → World → Prop
  | 0, v, w => v = .slice A k c
  | 1, v, w => v = .pointer (some ⟨b, 0, none⟩)
  | 2, v, w => v = .slice A k c
  | 3, v, w => ∃ i : Int, v = .int .i64 i
  | 4, v, w => ∃ (g : Nat) (xs : List Int), v = .slice (some ⟨g, 0, none⟩) 2 2 ∧ IntsAt w g xs ∧ xs.length = 2
  | 5, v, w => v = .pointer (some ⟨b, 0, none⟩)
  | 6, v, w => ∃ i : Int, v = .int .i64 i ∧ 0 ≤ i ∧ i < 2
  | 7, v, w => ∃ (g i : Nat) (xs : List Int), v = .pointer (some ⟨g, i, none⟩) ∧ IntsAt w g xs ∧ i < xs.length
  | 8, v, w => ∃ i : Int, v = .int .i64 i
  | 9, v, w => v = .slice A k c
  | 10, v, w => ∃ i : Int, v = .int .i64 i
  | _, _, _ => True
theorem descDV_le (b : Nat) (A : Option Addr) (k c : Nat) (y : Int) : ∀ j u w w', LeO b w w' → descDV b A k c y j u w → descDV b A k c y j u w' := by
  intro j u w w' hl h
  unfold descDV at h ⊢
  split at h <;> first
    | exact h
    | (obtain ⟨g, xs, h1, h2, h3⟩ := h; exact ⟨g, xs, h1, h2.le hl.2, h3⟩)
    | (obtain ⟨g, i, xs, h1, h2, h3⟩ := h; exact ⟨g, i, xs, h1, h2.le hl.2, h3⟩)
def deriveDV (b : Nat) (A : Option Addr) (k c : Nat) (y : Int) : Nat → Value → World → Prop
  | 0, v, w => v = .slice A k c
  | 1, v, w => v = .int .i64 y
  | 2, v, w => v = .pointer (some ⟨b, 0, none⟩)
  | 3, v, w => ∃ i : Int, v = .int .i64 i
  | 4, v, w => v = .pointer (some ⟨b, 0, none⟩)
  | 5, v, w => ∃ i : Int, v = .int .i64 i ∧ 0 ≤ i ∧ i < 4
  | 6, v, w => ∃ i : Int, v = .int .i64 i
  | 7, v, w => ∃ (g : Nat) (xs : List Int), v = .slice (some ⟨g, 0, none⟩) 3 3 ∧ IntsAt w g xs ∧ xs.length = 3
  | 8, v, w => v = .pointer (some ⟨b, 0, none⟩)
  | 9, v, w => ∃ i : Int, v = .int .i64 i ∧ 0 ≤ i ∧ i < 3
  | 10, v, w => ∃ (g i : Nat) (xs : List Int), v = .pointer (some ⟨g, i, none⟩) ∧ IntsAt w g xs ∧ i < xs.length
  | 11, v, w => ∃ i : Int, v = .int .i64 i
  | 12, v, w => v = .slice A k c
  | 13, v, w => v = .int .i64 y
  | 14, v, w => ∃ i : Int, v = .int .i64 i
  | 15, v, w => ∃ i : Int, v = .int .i64 i
  | _, _, _ => True
theorem deriveDV_le (b : Nat) (A : Option Addr) (k c : Nat) (y : Int) : ∀ j u w w', LeO b w w' → deriveDV b A k c y j u w → deriveDV b A k c y j u w' := by
  intro j u w w' hl h
  unfold deriveDV at h ⊢
  split at h <;> first
    | exact h
    | (obtain ⟨g, xs, h1, h2, h3⟩ := h; exact ⟨g, xs, h1, h2.le hl.2, h3⟩)
    | (obtain ⟨g, i, xs, h1, h2, h3⟩ := h; exact ⟨g, i, xs, h1, h2.le hl.2, h3⟩)

set_option maxRecDepth 100000 in
set_option maxHeartbeats 8000000 in
theorem drawDescendants (v : Value) (w : World) (h : BytesIn w v) : Calls Try.prog 43 #[v] w (DrawnTI w) := by
  go_enter Try.func43, Try.ntmps43
  go_wp2_with fail
  refine (open_any _ _ h).mono ?_
  rintro e w1 ⟨b, rfl, hb, h1, hb1⟩
  go_wp2_with fail
  refine (tree_any _ _ _ _ (by omega) h1 (by omega)).mono ?_
  rintro e w2 ⟨A, k, c, es, rfl, hO, hk, hR2, hO2⟩
  have hb1lt := h1.lt
  have hE := hO.more hb1.size
  clear h1 h
  have hO3 := hO2.drew
  obtain ⟨y, -⟩ : ∃ y : Int, y = 0 := ⟨0, rfl⟩
  go_wp2_with fail
  refine wp_region_inv3 (descDV b A k c y) (TG 0 b (200000) 11 w2.drew w2.drew) (LeO b) (by kernel_rfl) (by kernel_rfl) (by kernel_rfl) (descDV_le _ _ _ _ _) (⟨hR2.more (by omega), Only.refl _ _⟩) ⟨?o0, ?o1, ?o2, ?o3, ?o4, ?o5, ?o6, ?o7, ?o8, ?o9, ?o10, trivial⟩ ?hfin
  case o0 =>
    intro f a w K hF hA hsz hG hK
    rw [if_pos (by rfl)]
    have hsz : f + 1 ≤ 11 := hsz
    have hsz2 := hsz
    have e5 : a.tmps[5]?.getD undef = .slice A k c := slot_of (hF 5 (by kernel_rfl)) rfl
    clear hF hA
    unfold Oper.wp execOp
    go_simp
    exact hK _ _ (fun _ => rfl) (hG.keep) (LeO.refl _ _)
  case o1 =>
    intro f a w K hF hA hsz hG hK
    rw [if_pos (by rfl)]
    have hsz : f + 1 ≤ 11 := hsz
    have hsz2 := hsz
    have e4 : a.tmps[4]?.getD undef = .pointer (some ⟨b, 0, none⟩) := slot_of (hF 4 (by kernel_rfl)) rfl
    clear hF hA
    unfold Oper.wp execOp
    go_simp
    exact hK _ _ (fun _ => rfl) (hG.keep) (LeO.refl _ _)
  case o2 =>
    intro f a w K hF hA hsz hG hK
    rw [if_pos (by rfl)]
    have hsz : f + 1 ≤ 11 := hsz
    have hsz2 := hsz
    have e5 : a.tmps[5]?.getD undef = .slice A k c := slot_of (hF 5 (by kernel_rfl)) rfl
    clear hF hA
    unfold Oper.wp execOp
    go_simp
    exact hK _ _ (fun _ => rfl) (hG.keep) (LeO.refl _ _)
  case o3 =>
    intro f a w K hF hA hsz hG hK
    rw [if_pos (by rfl)]
    have hsz : f + 1 ≤ 11 := hsz
    have hsz2 := hsz
    have p11 : descDV b A k c y 1 (a.eval (.tmp 11)) w := hA ⟨1, .data⟩ (by simp) rfl _ rfl (by simp)
    have q11 : a.eval (.tmp 11) = _ := p11
    have e11 := slot_eq q11
    have p12 : descDV b A k c y 2 (a.eval (.tmp 12)) w := hA ⟨2, .data⟩ (by simp) rfl _ rfl (by simp)
    have q12 : a.eval (.tmp 12) = _ := p12
    have e12 := slot_eq q12
    clear q11 q12
    clear hF hA
    unfold Oper.wp execOp
    go_simp
    refine (treePick_any _ _ _ _ _ _ (by omega) (by omega) hG.rd).mono ?_
    rintro e w1 ⟨i, rfl, hR1, hO1⟩
    exact hK _ _ (fun _ => ⟨i, rfl⟩) (hG.step hR1 (by omega) hO1) (LeO.only hO1 hG.rd hR1)
  case o4 =>
    intro f a w K hF hA hsz hG hK
    rw [if_pos (by rfl)]
    have hsz : f + 1 ≤ 11 := hsz
    have hsz2 := hsz
    have p13 : descDV b A k c y 3 (a.eval (.tmp 13)) w := hA ⟨3, .data⟩ (by simp) rfl _ rfl (by simp)
    obtain ⟨i13, q13⟩ := p13
    have e13 := slot_eq q13
    clear q13
    clear hF hA
    unfold Oper.wp execOp
    go_simp
    exact hK _ _ (fun _ => ⟨_, _, rfl, IntsAt.new w [_, _], rfl⟩) (hG.alloc _) (LeO.alloc _ _ _)
  case o5 =>
    intro f a w K hF hA hsz hG hK
    rw [if_pos (by rfl)]
    have hsz : f + 1 ≤ 11 := hsz
    have hsz2 := hsz
    have e4 : a.tmps[4]?.getD undef = .pointer (some ⟨b, 0, none⟩) := slot_of (hF 4 (by kernel_rfl)) rfl
    clear hF hA
    unfold Oper.wp execOp
    go_simp
    exact hK _ _ (fun _ => rfl) (hG.keep) (LeO.refl _ _)
  case o6 =>
    intro f a w K hF hA hsz hG hK
    rw [if_pos (by rfl)]
    have hsz : f + 1 ≤ 11 := hsz
    have hsz2 := hsz
    have p15 : descDV b A k c y 5 (a.eval (.tmp 15)) w := hA ⟨5, .data⟩ (by simp) rfl _ rfl (by simp)
    have q15 : a.eval (.tmp 15) = _ := p15
    have e15 := slot_eq q15
    clear q15
    clear hF hA
    unfold Oper.wp execOp
    go_simp
    refine (pick_any _ _ _ _ (by omega) hG.rd).mono ?_
    rintro e w1 ⟨i, rfl, h0, h1, hR1, hO1⟩
    exact hK _ _ (fun _ => ⟨i, rfl, h0, h1 (by omega)⟩) (hG.step hR1 (by omega) hO1) (LeO.only hO1 hG.rd hR1)
  case o7 =>
    intro f a w K hF hA hsz hG hK
    rw [if_pos (by rfl)]
    have hsz : f + 1 ≤ 11 := hsz
    have hsz2 := hsz
    have p14 : descDV b A k c y 4 (a.eval (.tmp 14)) w := hA ⟨4, .data⟩ (by simp) rfl _ rfl (by simp)
    obtain ⟨g14, xs14, q14, hx14, hn14⟩ := p14
    have e14 := slot_eq q14
    have p16 : descDV b A k c y 6 (a.eval (.tmp 16)) w := hA ⟨6, .data⟩ (by simp) rfl _ rfl (by simp)
    obtain ⟨i16, q16, hl16, hh16⟩ := p16
    have e16 := slot_eq q16
    clear q14 q16
    clear hF hA
    unfold Oper.wp execOp
    go_simp
    exact hK _ _ (fun _ => ⟨g14, (i16).toNat, _, rfl, hx14, by omega⟩) (hG.keep) (LeO.refl _ _)
  case o8 =>
    intro f a w K hF hA hsz hG hK
    rw [if_pos (by rfl)]
    have hsz : f + 1 ≤ 11 := hsz
    have hsz2 := hsz
    have p17 : descDV b A k c y 7 (a.eval (.tmp 17)) w := hA ⟨7, .data⟩ (by simp) rfl _ rfl (by simp)
    obtain ⟨g17, j17, xs17, q17, hx17, hj17⟩ := p17
    have e17 := slot_eq q17
    clear q17
    have cc := hx17.cell hj17
    clear hF hA
    unfold Oper.wp execOp
    go_simp
    exact hK _ _ (fun _ => ⟨_, rfl⟩) (hG.keep) (LeO.refl _ _)
  case o9 =>
    intro f a w K hF hA hsz hG hK
    rw [if_pos (by rfl)]
    have hsz : f + 1 ≤ 11 := hsz
    have hsz2 := hsz
    have p10 : descDV b A k c y 0 (a.eval (.tmp 10)) w := hA ⟨0, .data⟩ (by simp) rfl _ rfl (by simp)
    have q10 : a.eval (.tmp 10) = _ := p10
    have e10 := slot_eq q10
    clear q10
    clear hF hA
    unfold Oper.wp execOp
    go_simp
    exact hK _ _ (fun _ => rfl) (hG.keep) (LeO.refl _ _)
  case o10 =>
    intro f a w K hF hA hsz hG hK
    rw [if_pos (by rfl)]
    have hsz : f + 1 ≤ 11 := hsz
    have hsz2 := hsz
    have p18 : descDV b A k c y 8 (a.eval (.tmp 18)) w := hA ⟨8, .data⟩ (by simp) rfl _ rfl (by simp)
    obtain ⟨i18, q18⟩ := p18
    have e18 := slot_eq q18
    clear q18
    clear hF hA
    unfold Oper.wp execOp
    go_simp
    exact hK _ _ (fun _ => ⟨_, rfl⟩) (hG.keep) (LeO.refl _ _)
  case hfin =>
    intro f a w' hdef hsize hF hv hG
    have p2 : descDV b A k c y 9 (a.eval (.tmp 2)) w' := hv 9 _ rfl (by simp)
    have q2 : a.eval (.tmp 2) = _ := p2
    have p3 : descDV b A k c y 10 (a.eval (.tmp 3)) w' := hv 10 _ rfl (by simp)
    obtain ⟨i3, q3⟩ := p3
    have ha : a = ⟨#[a.eval (.tmp 0), a.eval (.tmp 1), a.eval (.tmp 2), a.eval (.tmp 3), a.eval (.tmp 4), a.eval (.tmp 5), a.eval (.tmp 6), a.eval (.tmp 7), a.eval (.tmp 8), a.eval (.tmp 9), a.eval (.tmp 10), a.eval (.tmp 11), a.eval (.tmp 12), a.eval (.tmp 13), a.eval (.tmp 14), a.eval (.tmp 15), a.eval (.tmp 16), a.eval (.tmp 17), a.eval (.tmp 18)], []⟩ := (act_lit a (n := 19) hsize).trans (by rw [hdef]; rfl)
    rw [q2, q3] at ha
    generalize a.eval (.tmp 0) = s0 at ha
    generalize a.eval (.tmp 1) = s1 at ha
    generalize a.eval (.tmp 4) = s4 at ha
    generalize a.eval (.tmp 5) = s5 at ha
    generalize a.eval (.tmp 6) = s6 at ha
    generalize a.eval (.tmp 7) = s7 at ha
    generalize a.eval (.tmp 8) = s8 at ha
    generalize a.eval (.tmp 9) = s9 at ha
    generalize a.eval (.tmp 10) = s10 at ha
    generalize a.eval (.tmp 11) = s11 at ha
    generalize a.eval (.tmp 12) = s12 at ha
    generalize a.eval (.tmp 13) = s13 at ha
    generalize a.eval (.tmp 14) = s14 at ha
    generalize a.eval (.tmp 15) = s15 at ha
    generalize a.eval (.tmp 16) = s16 at ha
    generalize a.eval (.tmp 17) = s17 at ha
    generalize a.eval (.tmp 18) = s18 at ha
    clear hdef hsize hF hv q2 q3
    subst ha
    have hOd : OwnE w2.drew _ A k c es := hO
    have HE := Lib.hid ((hOd.only hG.only (by omega)).ento.more hb1.size)
    have HB := Lib.hid ((hO3.trans hG.only).to_below hb1 hb)
    clear hG hO hE hb1 hOd
    go_wp2_with fail
    go_ret2
    exact ⟨A, k, c, es, i3, rfl, HE.out, hk, HB.out⟩

set_option maxRecDepth 100000 in
set_option maxHeartbeats 8000000 in
theorem drawDeriveCap (v : Value) (w : World) (h : BytesIn w v) : Calls Try.prog 47 #[v] w (DrawnTD w) := by
  go_enter Try.func47, Try.ntmps47
  go_wp2_with fail
  refine (open_any _ _ h).mono ?_
  rintro e w1 ⟨b, rfl, hb, h1, hb1⟩
  go_wp2_with fail
  refine (tree_any _ _ _ _ (by omega) h1 (by omega)).mono ?_
  rintro e w2 ⟨A, k, c, es, rfl, hO, hk, hR2, hO2⟩
  have hb1lt := h1.lt
  have hE := hO.more hb1.size
  clear h1 h
  go_wp2_with fail
  refine (treePick_any _ _ _ _ _ _ (by omega) hk hR2).mono ?_
  rintro e w3 ⟨y, rfl, hR3, hO3⟩
  have hO4 := (hO2.trans hO3).drew
  have hO5 := hO.only hO3 hb1lt
  clear hO hO2 hO3 hR2 hE
  have hO := hO5
  have hE := hO5
  clear hO5
  go_wp2_with fail
  refine wp_region_inv3 (deriveDV b A k c y) (TG 0 b (200002) 16 w3.drew w3.drew) (LeO b) (by kernel_rfl) (by kernel_rfl) (by kernel_rfl) (deriveDV_le _ _ _ _ _) (⟨hR3.more (by omega), Only.refl _ _⟩) ⟨?o0, ?o1, ?o2, ?o3, ?o4, ?o5, ?o6, ?o7, ?o8, ?o9, ?o10, ?o11, ?o12, ?o13, ?o14, ?o15, trivial⟩ ?hfin
  case o0 =>
    intro f a w K hF hA hsz hG hK
    rw [if_pos (by rfl)]
    have hsz : f + 1 ≤ 16 := hsz
    have hsz2 := hsz
    have e7 : a.tmps[7]?.getD undef = .slice A k c := slot_of (hF 7 (by kernel_rfl)) rfl
    clear hF hA
    unfold Oper.wp execOp
    go_simp
    exact hK _ _ (fun _ => rfl) (hG.keep) (LeO.refl _ _)
  case o1 =>
    intro f a w K hF hA hsz hG hK
    rw [if_pos (by rfl)]
    have hsz : f + 1 ≤ 16 := hsz
    have hsz2 := hsz
    have e8 : a.tmps[8]?.getD undef = .int .i64 y := slot_of (hF 8 (by kernel_rfl)) rfl
    clear hF hA
    unfold Oper.wp execOp
    go_simp
    exact hK _ _ (fun _ => rfl) (hG.keep) (LeO.refl _ _)
  case o2 =>
    intro f a w K hF hA hsz hG hK
    rw [if_pos (by rfl)]
    have hsz : f + 1 ≤ 16 := hsz
    have hsz2 := hsz
    have e6 : a.tmps[6]?.getD undef = .pointer (some ⟨b, 0, none⟩) := slot_of (hF 6 (by kernel_rfl)) rfl
    clear hF hA
    unfold Oper.wp execOp
    go_simp
    exact hK _ _ (fun _ => rfl) (hG.keep) (LeO.refl _ _)
  case o3 =>
    intro f a w K hF hA hsz hG hK
    rw [if_pos (by rfl)]
    have hsz : f + 1 ≤ 16 := hsz
    have hsz2 := hsz
    have p18 : deriveDV b A k c y 2 (a.eval (.tmp 18)) w := hA ⟨2, .data⟩ (by simp) rfl _ rfl (by simp)
    have q18 : a.eval (.tmp 18) = _ := p18
    have e18 := slot_eq q18
    clear q18
    clear hF hA
    unfold Oper.wp execOp
    go_simp
    refine (rights_any _ _ _ _ (by omega) hG.rd (by omega)).mono ?_
    rintro e w1 ⟨i, rfl, h0, h1, hR1, hO1⟩
    exact hK _ _ (fun _ => ⟨i, rfl⟩) (hG.step hR1 (by omega) hO1) (LeO.only hO1 hG.rd hR1)
  case o4 =>
    intro f a w K hF hA hsz hG hK
    rw [if_pos (by rfl)]
    have hsz : f + 1 ≤ 16 := hsz
    have hsz2 := hsz
    have e6 : a.tmps[6]?.getD undef = .pointer (some ⟨b, 0, none⟩) := slot_of (hF 6 (by kernel_rfl)) rfl
    clear hF hA
    unfold Oper.wp execOp
    go_simp
    exact hK _ _ (fun _ => rfl) (hG.keep) (LeO.refl _ _)
  case o5 =>
    intro f a w K hF hA hsz hG hK
    rw [if_pos (by rfl)]
    have hsz : f + 1 ≤ 16 := hsz
    have hsz2 := hsz
    have p20 : deriveDV b A k c y 4 (a.eval (.tmp 20)) w := hA ⟨4, .data⟩ (by simp) rfl _ rfl (by simp)
    have q20 : a.eval (.tmp 20) = _ := p20
    have e20 := slot_eq q20
    clear q20
    clear hF hA
    unfold Oper.wp execOp
    go_simp
    refine (pick_any _ _ _ _ (by omega) hG.rd).mono ?_
    rintro e w1 ⟨i, rfl, h0, h1, hR1, hO1⟩
    exact hK _ _ (fun _ => ⟨i, rfl, h0, h1 (by omega)⟩) (hG.step hR1 (by omega) hO1) (LeO.only hO1 hG.rd hR1)
  case o6 =>
    intro f a w K hF hA hsz hG hK
    rw [if_pos (by rfl)]
    have hsz : f + 1 ≤ 16 := hsz
    have hsz2 := hsz
    have p21 : deriveDV b A k c y 5 (a.eval (.tmp 21)) w := hA ⟨5, .data⟩ (by simp) rfl _ rfl (by simp)
    obtain ⟨i21, q21, hl21, hh21⟩ := p21
    have e21 := slot_eq q21
    clear q21
    clear hF hA
    unfold Oper.wp execOp
    go_simp
    exact hK _ _ (fun _ => ⟨_, rfl⟩) (hG.keep) (LeO.refl _ _)
  case o7 =>
    intro f a w K hF hA hsz hG hK
    rw [if_pos (by rfl)]
    have hsz : f + 1 ≤ 16 := hsz
    have hsz2 := hsz
    have p22 : deriveDV b A k c y 6 (a.eval (.tmp 22)) w := hA ⟨6, .data⟩ (by simp) rfl _ rfl (by simp)
    obtain ⟨i22, q22⟩ := p22
    have e22 := slot_eq q22
    clear q22
    clear hF hA
    unfold Oper.wp execOp
    go_simp
    exact hK _ _ (fun _ => ⟨_, _, rfl, IntsAt.new w [_, _, _], rfl⟩) (hG.alloc _) (LeO.alloc _ _ _)
  case o8 =>
    intro f a w K hF hA hsz hG hK
    rw [if_pos (by rfl)]
    have hsz : f + 1 ≤ 16 := hsz
    have hsz2 := hsz
    have e6 : a.tmps[6]?.getD undef = .pointer (some ⟨b, 0, none⟩) := slot_of (hF 6 (by kernel_rfl)) rfl
    clear hF hA
    unfold Oper.wp execOp
    go_simp
    exact hK _ _ (fun _ => rfl) (hG.keep) (LeO.refl _ _)
  case o9 =>
    intro f a w K hF hA hsz hG hK
    rw [if_pos (by rfl)]
    have hsz : f + 1 ≤ 16 := hsz
    have hsz2 := hsz
    have p24 : deriveDV b A k c y 8 (a.eval (.tmp 24)) w := hA ⟨8, .data⟩ (by simp) rfl _ rfl (by simp)
    have q24 : a.eval (.tmp 24) = _ := p24
    have e24 := slot_eq q24
    clear q24
    clear hF hA
    unfold Oper.wp execOp
    go_simp
    refine (pick_any _ _ _ _ (by omega) hG.rd).mono ?_
    rintro e w1 ⟨i, rfl, h0, h1, hR1, hO1⟩
    exact hK _ _ (fun _ => ⟨i, rfl, h0, h1 (by omega)⟩) (hG.step hR1 (by omega) hO1) (LeO.only hO1 hG.rd hR1)
  case o10 =>
    intro f a w K hF hA hsz hG hK
    rw [if_pos (by rfl)]
    have hsz : f + 1 ≤ 16 := hsz
    have hsz2 := hsz
    have p23 : deriveDV b A k c y 7 (a.eval (.tmp 23)) w := hA ⟨7, .data⟩ (by simp) rfl _ rfl (by simp)
    obtain ⟨g23, xs23, q23, hx23, hn23⟩ := p23
    have e23 := slot_eq q23
    have p25 : deriveDV b A k c y 9 (a.eval (.tmp 25)) w := hA ⟨9, .data⟩ (by simp) rfl _ rfl (by simp)
    obtain ⟨i25, q25, hl25, hh25⟩ := p25
    have e25 := slot_eq q25
    clear q23 q25
    clear hF hA
    unfold Oper.wp execOp
    go_simp
    exact hK _ _ (fun _ => ⟨g23, (i25).toNat, _, rfl, hx23, by omega⟩) (hG.keep) (LeO.refl _ _)
  case o11 =>
    intro f a w K hF hA hsz hG hK
    rw [if_pos (by rfl)]
    have hsz : f + 1 ≤ 16 := hsz
    have hsz2 := hsz
    have p26 : deriveDV b A k c y 10 (a.eval (.tmp 26)) w := hA ⟨10, .data⟩ (by simp) rfl _ rfl (by simp)
    obtain ⟨g26, j26, xs26, q26, hx26, hj26⟩ := p26
    have e26 := slot_eq q26
    clear q26
    have cc := hx26.cell hj26
    clear hF hA
    unfold Oper.wp execOp
    go_simp
    exact hK _ _ (fun _ => ⟨_, rfl⟩) (hG.keep) (LeO.refl _ _)
  case o12 =>
    intro f a w K hF hA hsz hG hK
    rw [if_pos (by rfl)]
    have hsz : f + 1 ≤ 16 := hsz
    have hsz2 := hsz
    have p16 : deriveDV b A k c y 0 (a.eval (.tmp 16)) w := hA ⟨0, .data⟩ (by simp) rfl _ rfl (by simp)
    have q16 : a.eval (.tmp 16) = _ := p16
    have e16 := slot_eq q16
    clear q16
    clear hF hA
    unfold Oper.wp execOp
    go_simp
    exact hK _ _ (fun _ => rfl) (hG.keep) (LeO.refl _ _)
  case o13 =>
    intro f a w K hF hA hsz hG hK
    rw [if_pos (by rfl)]
    have hsz : f + 1 ≤ 16 := hsz
    have hsz2 := hsz
    have p17 : deriveDV b A k c y 1 (a.eval (.tmp 17)) w := hA ⟨1, .data⟩ (by simp) rfl _ rfl (by simp)
    have q17 : a.eval (.tmp 17) = _ := p17
    have e17 := slot_eq q17
    clear q17
    clear hF hA
    unfold Oper.wp execOp
    go_simp
    exact hK _ _ (fun _ => rfl) (hG.keep) (LeO.refl _ _)
  case o14 =>
    intro f a w K hF hA hsz hG hK
    rw [if_pos (by rfl)]
    have hsz : f + 1 ≤ 16 := hsz
    have hsz2 := hsz
    have p19 : deriveDV b A k c y 3 (a.eval (.tmp 19)) w := hA ⟨3, .data⟩ (by simp) rfl _ rfl (by simp)
    obtain ⟨i19, q19⟩ := p19
    have e19 := slot_eq q19
    clear q19
    clear hF hA
    unfold Oper.wp execOp
    go_simp
    exact hK _ _ (fun _ => ⟨_, rfl⟩) (hG.keep) (LeO.refl _ _)
  case o15 =>
    intro f a w K hF hA hsz hG hK
    rw [if_pos (by rfl)]
    have hsz : f + 1 ≤ 16 := hsz
    have hsz2 := hsz
    have p27 : deriveDV b A k c y 11 (a.eval (.tmp 27)) w := hA ⟨11, .data⟩ (by simp) rfl _ rfl (by simp)
    obtain ⟨i27, q27⟩ := p27
    have e27 := slot_eq q27
    clear q27
    clear hF hA
    unfold Oper.wp execOp
    go_simp
    exact hK _ _ (fun _ => ⟨_, rfl⟩) (hG.keep) (LeO.refl _ _)
  case hfin =>
    intro f a w' hdef hsize hF hv hG
    have p2 : deriveDV b A k c y 12 (a.eval (.tmp 2)) w' := hv 12 _ rfl (by simp)
    have q2 : a.eval (.tmp 2) = _ := p2
    have p3 : deriveDV b A k c y 13 (a.eval (.tmp 3)) w' := hv 13 _ rfl (by simp)
    have q3 : a.eval (.tmp 3) = _ := p3
    have p4 : deriveDV b A k c y 14 (a.eval (.tmp 4)) w' := hv 14 _ rfl (by simp)
    obtain ⟨i4, q4⟩ := p4
    have p5 : deriveDV b A k c y 15 (a.eval (.tmp 5)) w' := hv 15 _ rfl (by simp)
    obtain ⟨i5, q5⟩ := p5
    have ha : a = ⟨#[a.eval (.tmp 0), a.eval (.tmp 1), a.eval (.tmp 2), a.eval (.tmp 3), a.eval (.tmp 4), a.eval (.tmp 5), a.eval (.tmp 6), a.eval (.tmp 7), a.eval (.tmp 8), a.eval (.tmp 9), a.eval (.tmp 10), a.eval (.tmp 11), a.eval (.tmp 12), a.eval (.tmp 13), a.eval (.tmp 14), a.eval (.tmp 15), a.eval (.tmp 16), a.eval (.tmp 17), a.eval (.tmp 18), a.eval (.tmp 19), a.eval (.tmp 20), a.eval (.tmp 21), a.eval (.tmp 22), a.eval (.tmp 23), a.eval (.tmp 24), a.eval (.tmp 25), a.eval (.tmp 26), a.eval (.tmp 27)], []⟩ := (act_lit a (n := 28) hsize).trans (by rw [hdef]; rfl)
    rw [q2, q3, q4, q5] at ha
    generalize a.eval (.tmp 0) = s0 at ha
    generalize a.eval (.tmp 1) = s1 at ha
    generalize a.eval (.tmp 6) = s6 at ha
    generalize a.eval (.tmp 7) = s7 at ha
    generalize a.eval (.tmp 8) = s8 at ha
    generalize a.eval (.tmp 9) = s9 at ha
    generalize a.eval (.tmp 10) = s10 at ha
    generalize a.eval (.tmp 11) = s11 at ha
    generalize a.eval (.tmp 12) = s12 at ha
    generalize a.eval (.tmp 13) = s13 at ha
    generalize a.eval (.tmp 14) = s14 at ha
    generalize a.eval (.tmp 15) = s15 at ha
    generalize a.eval (.tmp 16) = s16 at ha
    generalize a.eval (.tmp 17) = s17 at ha
    generalize a.eval (.tmp 18) = s18 at ha
    generalize a.eval (.tmp 19) = s19 at ha
    generalize a.eval (.tmp 20) = s20 at ha
    generalize a.eval (.tmp 21) = s21 at ha
    generalize a.eval (.tmp 22) = s22 at ha
    generalize a.eval (.tmp 23) = s23 at ha
    generalize a.eval (.tmp 24) = s24 at ha
    generalize a.eval (.tmp 25) = s25 at ha
    generalize a.eval (.tmp 26) = s26 at ha
    generalize a.eval (.tmp 27) = s27 at ha
    clear hdef hsize hF hv q2 q3 q4 q5
    subst ha
    have hOd : OwnE w3.drew _ A k c es := hO
    have HE := Lib.hid ((hOd.only hG.only (by omega)).ento.more hb1.size)
    have HB := Lib.hid ((hO4.trans hG.only).to_below hb1 hb)
    clear hG hO hE hb1 hOd
    go_wp2_with fail
    refine bodyPost_ret (v := .tuple #[.slice A k c, .int .i64 y, .int .i64 i4, .int .i64 i5]) (by simp [results, Try.results47, go_sem]) rfl ?_
    exact ⟨A, k, c, es, y, i4, i5, rfl, HE.out, hk, HB.out⟩

set_option maxHeartbeats 2000000 in
theorem drawRemoveCap (v : Value) (w : World) (h : BytesIn w v) : Calls Try.prog 46 #[v] w (DrawnTI w) := by
  go_enter Try.func46, Try.ntmps46
  go_wp2_with fail
  refine (drawDescendants _ _ h).mono ?_
  rintro e w1 ⟨A, k, c, es, n, rfl, hE, hk, hB⟩
  have HE := Lib.hid hE
  have HB := Lib.hid hB
  clear hE hB h
  go_wp2_with fail
  go_ret2
  exact ⟨A, k, c, es, n, rfl, HE.out, hk, HB.out⟩

set_option maxHeartbeats 2000000 in
theorem drawRevokeCap (v : Value) (w : World) (h : BytesIn w v) : Calls Try.prog 39 #[v] w (DrawnTI w) := by
  go_enter Try.func39, Try.ntmps39
  go_wp2_with fail
  refine (drawDescendants _ _ h).mono ?_
  rintro e w1 ⟨A, k, c, es, n, rfl, hE, hk, hB⟩
  have HE := Lib.hid hE
  have HB := Lib.hid hB
  clear hE hB h
  go_wp2_with fail
  go_ret2
  exact ⟨A, k, c, es, n, rfl, HE.out, hk, HB.out⟩

end Go.Proofs.Ytpglfbjjmnaojaa
