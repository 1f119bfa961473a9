/- The draws of capabilities with rights and badges, and of two kin. No condition. -/
import Derived.Test.YtciebhdoafhkbaaDrawCaps
import Derived.Test.YtciebhdoafhkbaaUnpack
import Derived.Test.YtciebhdoafhkbaaDrawRegion
import Derived.Deep.RegionHeld3
namespace Go.Proofs.Ytciebhdoafhkbaa
open Go.RowKit
set_option linter.unusedVariables false

theorem VarAt.cap {w : World} {c : Nat} (h : VarAt w c 4 25) : ∃ k o r x : Int, CapAt w c k o r x := by
  obtain ⟨⟨l⟩, h1, h2, h3⟩ := h
  match l, h1, h3 with
  | [a, b, c', d], _, h3 =>
    obtain ⟨k, rfl⟩ := h3 a (by simp)
    obtain ⟨o, rfl⟩ := h3 b (by simp)
    obtain ⟨r, rfl⟩ := h3 c' (by simp)
    obtain ⟨x, rfl⟩ := h3 d (by simp)
    exact ⟨k, o, r, x, h2⟩
theorem CapAt.fill {w : World} {c : Nat} {k o r x : Int} (h : CapAt w c k o r x) (k' o' r' x' : Int) :
    CapAt ((((w.setCell ⟨c, 0, none⟩ (.int .i64 k')).setCell ⟨c, 1, none⟩ (.int .i64 o')).setCell ⟨c, 2, none⟩ (.int .i64 r')).setCell ⟨c, 3, none⟩ (.int .i64 x')) c k' o' r' x' := by
  unfold CapAt at h ⊢
  simp [World.setCell, Array.getElem?_modify, h]

/-- Two capabilities that a draw may give. -/
def DrawnCaps (b m : Nat) (w : World) (e : Ending) (w' : World) : Prop :=
  ∃ k o r x k' o' r' x' : Int, e = .returned (.tuple #[.agg #[.int .i64 k, .int .i64 o, .int .i64 r, .int .i64 x], .agg #[.int .i64 k', .int .i64 o', .int .i64 r', .int .i64 x']]) ∧ Rd w' b m ∧ Only b w w'

def SomeCap (w : World) (e : Ending) (w' : World) : Prop := ∃ (k o r x : Int) (t : Bool), e = .returned (.tuple #[.agg #[.int .i64 k, .int .i64 o, .int .i64 r, .int .i64 x], .bool t]) ∧ Below w.heap.size w w'
theorem spec_MintCap_any (k o r b rights badge : Int) (w : World) :
    Calls Try.prog 25 #[.agg #[.int .i64 k, .int .i64 o, .int .i64 r, .int .i64 b], .int .i64 rights, .int .i64 badge] w (SomeCap w) := by
  cases h : mintOk k o r b rights badge
  · exact (spec_MintCap_no k o r b rights badge w h).mono fun e w' ⟨he, hb⟩ => ⟨_, _, _, _, _, he, hb⟩
  · exact (spec_MintCap_yes k o r b rights badge w h).mono fun e w' ⟨he, hb⟩ => ⟨_, _, _, _, _, he, hb⟩

theorem CapAt.below {w w' : World} {c : Nat} {k o r x : Int} (h : CapAt w c k o r x) (hb : Below w.heap.size w w') : CapAt w' c k o r x := (hb.block c h.lt).trans h
/-- What the operations of 'a, ok := MintCap(b, r.pick(16), []int{0, 0, 1 + r.pick(3)}[r.pick(3)])' leave. -/
def kinV (b B : Nat) (k o r x : Int) : Nat → Value → World → Prop
  | 0, v, _ => v = .agg #[.int .i64 k, .int .i64 o, .int .i64 r, .int .i64 x]
  | 1, v, _ => v = .pointer (some ⟨b, 0, none⟩)
  | 2, v, _ => ∃ i : Int, v = .int .i64 i
  | 3, v, _ => v = .pointer (some ⟨b, 0, none⟩)
  | 4, v, _ => ∃ i : Int, v = .int .i64 i
  | 5, v, _ => ∃ i : Int, v = .int .i64 i
  | 6, v, w => ∃ (g : Nat) (i : Int), v = .slice (some ⟨g, 0, none⟩) 3 3 ∧ IntsAt w g [0, 0, i]
  | 7, v, _ => v = .pointer (some ⟨b, 0, none⟩)
  | 8, v, _ => ∃ i : Int, v = .int .i64 i ∧ 0 ≤ i ∧ i < 3
  | 9, v, w => ∃ (g i : Nat) (xs : List Int), v = .pointer (some ⟨g, i, none⟩) ∧ IntsAt w g xs ∧ i < xs.length
  | 10, v, _ => ∃ i : Int, v = .int .i64 i
  | 11, v, _ => ∃ (k o r x : Int) (t : Bool), v = .tuple #[.agg #[.int .i64 k, .int .i64 o, .int .i64 r, .int .i64 x], .bool t]
  | 12, v, _ => ∃ (k o r x : Int) (t : Bool), v = .tuple #[.agg #[.int .i64 k, .int .i64 o, .int .i64 r, .int .i64 x], .bool t]
  | 13, v, _ => ∃ (k o r x : Int), v = .agg #[.int .i64 k, .int .i64 o, .int .i64 r, .int .i64 x]
  | 14, v, _ => ∃ (t : Bool), v = .bool t
  | 15, v, w => ∃ (c : Nat), v = .pointer (some ⟨c, 0, none⟩) ∧ B ≤ c ∧ VarAt w c 4 25
  | 17, v, _ => ∃ (t : Bool), v = .bool t
  | _, _, _ => True
theorem kinV_le (b B : Nat) (k o r x : Int) : ∀ j u w w', Le w w' → kinV b B k o r x j u w → kinV b B k o r x j u w' := by
  intro j u w w' hl h
  unfold kinV at h ⊢
  split at h <;> first
    | exact h
    | (obtain ⟨g, i, h1, h2⟩ := h; exact ⟨g, i, h1, h2.le hl⟩)
    | (obtain ⟨g, i, xs, h1, h2, h3⟩ := h; exact ⟨g, i, xs, h1, h2.le hl, h3⟩)
    | (obtain ⟨c, h1, h2, h3⟩ := h; exact ⟨c, h1, h2, h3.le hl⟩)
def kinG (b m c R B : Nat) (k o r x : Int) (w0 : World) (f : Nat) (w : World) : Prop :=
  Rd w b (m + (18 - f)) ∧ Only b w0 w ∧ CapAt w c k o r x ∧ CapAt w R 0 0 0 0 ∧ CapAt w (R + 1) 0 0 0 0 ∧ B ≤ w.heap.size

set_option maxHeartbeats 4000000 in
theorem kin_any (b m : Nat) (w : World) (hm : m ≤ 700000000) (h : Rd w b m) :
    Calls Try.prog 49 #[.pointer (some ⟨b, 0, none⟩)] w (DrawnCaps b (m + 80) w) := by
  have hb := h.lt
  go_enter Try.func49, Try.ntmps49
  go_wp2_with fail
  refine (cap_any _ _ _ _ (by omega) ((h.alloc _).alloc _) (by omega)).mono ?_
  rintro e w1 ⟨k, o, r, x, rfl, h1, o1⟩
  have hR : CapAt w1 w.heap.size 0 0 0 0 := ((CapAt.new w 0 0 0 0).alloc _).only o1 (by omega)
  have hS : CapAt w1 (w.heap.size + 1) 0 0 0 0 := by
    have := (CapAt.new (w.alloc (.cells #[.int .i64 0, .int .i64 0, .int .i64 0, .int .i64 0] 25)) 0 0 0 0).only o1 (by simp; omega)
    simpa using this
  have hO : Only b w w1 := (((Only.refl b w).alloc _).alloc _).trans o1
  clear o1 h
  go_wp2_with fail
  have hC := CapAt.new w1 k o r x
  have hR1 := hR.alloc (.cells #[.int .i64 k, .int .i64 o, .int .i64 r, .int .i64 x] 25)
  have hS1 := hS.alloc (.cells #[.int .i64 k, .int .i64 o, .int .i64 r, .int .i64 x] 25)
  have hO1 := hO.alloc (.cells #[.int .i64 k, .int .i64 o, .int .i64 r, .int .i64 x] 25)
  have hRd := h1.alloc (.cells #[.int .i64 k, .int .i64 o, .int .i64 r, .int .i64 x] 25)
  have hlt := hR.lt
  have hlt2 := hS.lt
  clear h1 hR hS hO
  generalize w1.alloc (.cells #[.int .i64 k, .int .i64 o, .int .i64 r, .int .i64 x] 25) = W at *
  generalize w1.heap.size = c at *
  generalize hRR : w.heap.size = R at *
  have HRR := Lib.hid hRR
  clear hRR
  have hWR : c < W.heap.size := hC.lt
  have hwW : w.heap.size ≤ W.heap.size := hO1.size
  refine wp_region_inv (kinV b W.heap.size k o r x) (kinG b (m + 20) c R W.heap.size k o r x w) Le (by kernel_rfl) (by kernel_rfl) (by kernel_rfl) (kinV_le _ _ _ _ _ _) (⟨hRd.more (by omega), hO1.drew, hC, hR1, hS1, Nat.le_refl _⟩) ⟨?o0, ?o1, ?o2, ?o3, ?o4, ?o5, ?o6, ?o7, ?o8, ?o9, ?o10, ?o11, ?o12, ?o13, ?o14, ?o15, ?o16, ?o17, trivial⟩ ?hfin
  case o0 =>
    intro f a w K hF hA hsz hG hK
    rw [if_pos (by rfl)]
    have hsz : f + 1 ≤ 18 := hsz
    obtain ⟨g1, g2, g3, g4, g5, g6⟩ := hG
    have e4 : a.tmps[4]?.getD undef = .pointer (some ⟨c, 0, none⟩) := slot_of (hF 4 (by kernel_rfl)) rfl
    obtain ⟨c0, c1, c2, c3⟩ := g3.cells
    clear hF hA
    unfold Oper.wp execOp
    go_simp
    exact hK _ _ (fun _ => rfl) ⟨g1.more (by omega), g2, g3, g4, g5, g6⟩ (Le.refl _)
  case o1 =>
    intro f a w K hF hA hsz hG hK
    rw [if_pos (by rfl)]
    have hsz : f + 1 ≤ 18 := hsz
    obtain ⟨g1, g2, g3, g4, g5, g6⟩ := hG
    have e0 : a.tmps[0]?.getD undef = .pointer (some ⟨b, 0, none⟩) := slot_of (hF 0 (by kernel_rfl)) rfl
    clear hF hA
    unfold Oper.wp execOp
    go_simp
    exact hK _ _ (fun _ => rfl) ⟨g1.more (by omega), g2, g3, g4, g5, g6⟩ (Le.refl _)
  case o2 =>
    intro f a w K hF hA hsz hG hK
    rw [if_pos (by rfl)]
    have hsz : f + 1 ≤ 18 := hsz
    obtain ⟨g1, g2, g3, g4, g5, g6⟩ := hG
    have p11 : kinV b W.heap.size k o r x 1 (a.eval (.tmp 11)) w := hA ⟨1, .data⟩ (by simp) rfl _ rfl (by simp)
    have q11 : a.eval (.tmp 11) = _ := p11
    have e11 := slot_eq q11
    clear q11
    clear hF hA
    unfold Oper.wp execOp
    go_simp
    refine (pick_any _ _ _ _ (by omega) g1).mono ?_
    rintro e w1 ⟨i, rfl, h0, h1, hR1, hO1⟩
    exact hK _ _ (fun _ => ⟨i, rfl⟩) ⟨hR1.more (by omega), g2.trans hO1, g3.only hO1 (by omega), g4.only hO1 (by omega), g5.only hO1 (by omega), Nat.le_trans g6 hO1.size⟩ (Le.only hO1 g1 hR1)
  case o3 =>
    intro f a w K hF hA hsz hG hK
    rw [if_pos (by rfl)]
    have hsz : f + 1 ≤ 18 := hsz
    obtain ⟨g1, g2, g3, g4, g5, g6⟩ := hG
    have e0 : a.tmps[0]?.getD undef = .pointer (some ⟨b, 0, none⟩) := slot_of (hF 0 (by kernel_rfl)) rfl
    clear hF hA
    unfold Oper.wp execOp
    go_simp
    exact hK _ _ (fun _ => rfl) ⟨g1.more (by omega), g2, g3, g4, g5, g6⟩ (Le.refl _)
  case o4 =>
    intro f a w K hF hA hsz hG hK
    rw [if_pos (by rfl)]
    have hsz : f + 1 ≤ 18 := hsz
    obtain ⟨g1, g2, g3, g4, g5, g6⟩ := hG
    have p13 : kinV b W.heap.size k o r x 3 (a.eval (.tmp 13)) w := hA ⟨3, .data⟩ (by simp) rfl _ rfl (by simp)
    have q13 : a.eval (.tmp 13) = _ := p13
    have e13 := slot_eq q13
    clear q13
    clear hF hA
    unfold Oper.wp execOp
    go_simp
    refine (pick_any _ _ _ _ (by omega) g1).mono ?_
    rintro e w1 ⟨i, rfl, h0, h1, hR1, hO1⟩
    exact hK _ _ (fun _ => ⟨i, rfl⟩) ⟨hR1.more (by omega), g2.trans hO1, g3.only hO1 (by omega), g4.only hO1 (by omega), g5.only hO1 (by omega), Nat.le_trans g6 hO1.size⟩ (Le.only hO1 g1 hR1)
  case o5 =>
    intro f a w K hF hA hsz hG hK
    rw [if_pos (by rfl)]
    have hsz : f + 1 ≤ 18 := hsz
    obtain ⟨g1, g2, g3, g4, g5, g6⟩ := hG
    have p14 : kinV b W.heap.size k o r x 4 (a.eval (.tmp 14)) w := hA ⟨4, .data⟩ (by simp) rfl _ rfl (by simp)
    obtain ⟨i, q14⟩ := p14
    have e14 := slot_eq q14
    clear q14
    clear hF hA
    unfold Oper.wp execOp
    go_simp
    exact hK _ _ (fun _ => ⟨_, rfl⟩) ⟨g1.more (by omega), g2, g3, g4, g5, g6⟩ (Le.refl _)
  case o6 =>
    intro f a w K hF hA hsz hG hK
    rw [if_pos (by rfl)]
    have hsz : f + 1 ≤ 18 := hsz
    obtain ⟨g1, g2, g3, g4, g5, g6⟩ := hG
    have p15 : kinV b W.heap.size k o r x 5 (a.eval (.tmp 15)) w := hA ⟨5, .data⟩ (by simp) rfl _ rfl (by simp)
    obtain ⟨i, q15⟩ := p15
    have e15 := slot_eq q15
    clear q15
    clear hF hA
    unfold Oper.wp execOp
    go_simp
    exact hK _ _ (fun _ => ⟨_, i, rfl, heap_alloc_new w _⟩) ⟨(g1.alloc _).more (by omega), g2.alloc _, g3.alloc _, g4.alloc _, g5.alloc _, by simp; omega⟩ (Le.alloc _ _)
  case o7 =>
    intro f a w K hF hA hsz hG hK
    rw [if_pos (by rfl)]
    have hsz : f + 1 ≤ 18 := hsz
    obtain ⟨g1, g2, g3, g4, g5, g6⟩ := hG
    have e0 : a.tmps[0]?.getD undef = .pointer (some ⟨b, 0, none⟩) := slot_of (hF 0 (by kernel_rfl)) rfl
    clear hF hA
    unfold Oper.wp execOp
    go_simp
    exact hK _ _ (fun _ => rfl) ⟨g1.more (by omega), g2, g3, g4, g5, g6⟩ (Le.refl _)
  case o8 =>
    intro f a w K hF hA hsz hG hK
    rw [if_pos (by rfl)]
    have hsz : f + 1 ≤ 18 := hsz
    obtain ⟨g1, g2, g3, g4, g5, g6⟩ := hG
    have p17 : kinV b W.heap.size k o r x 7 (a.eval (.tmp 17)) w := hA ⟨7, .data⟩ (by simp) rfl _ rfl (by simp)
    have q17 : a.eval (.tmp 17) = _ := p17
    have e17 := slot_eq q17
    clear q17
    clear hF hA
    unfold Oper.wp execOp
    go_simp
    refine (pick_any _ _ _ _ (by omega) g1).mono ?_
    rintro e w1 ⟨i, rfl, h0, h1, hR1, hO1⟩
    exact hK _ _ (fun _ => ⟨i, rfl, h0, h1 (by omega)⟩) ⟨hR1.more (by omega), g2.trans hO1, g3.only hO1 (by omega), g4.only hO1 (by omega), g5.only hO1 (by omega), Nat.le_trans g6 hO1.size⟩ (Le.only hO1 g1 hR1)
  case o9 =>
    intro f a w K hF hA hsz hG hK
    rw [if_pos (by rfl)]
    have hsz : f + 1 ≤ 18 := hsz
    obtain ⟨g1, g2, g3, g4, g5, g6⟩ := hG
    have p16 : kinV b W.heap.size k o r x 6 (a.eval (.tmp 16)) w := hA ⟨6, .data⟩ (by simp) rfl _ rfl (by simp)
    obtain ⟨g, x0, q16, hx⟩ := p16
    have e16 := slot_eq q16
    have p18 : kinV b W.heap.size k o r x 8 (a.eval (.tmp 18)) w := hA ⟨8, .data⟩ (by simp) rfl _ rfl (by simp)
    obtain ⟨j, q18, hj0, hj3⟩ := p18
    have e18 := slot_eq q18
    clear q16 q18
    clear hF hA
    unfold Oper.wp execOp
    go_simp
    exact hK _ _ (fun _ => ⟨g, j.toNat, _, rfl, hx, by simp; omega⟩) ⟨g1.more (by omega), g2, g3, g4, g5, g6⟩ (Le.refl _)
  case o10 =>
    intro f a w K hF hA hsz hG hK
    rw [if_pos (by rfl)]
    have hsz : f + 1 ≤ 18 := hsz
    obtain ⟨g1, g2, g3, g4, g5, g6⟩ := hG
    have p19 : kinV b W.heap.size k o r x 9 (a.eval (.tmp 19)) w := hA ⟨9, .data⟩ (by simp) rfl _ rfl (by simp)
    obtain ⟨g, j, xs, q19, hx, hj⟩ := p19
    have e19 := slot_eq q19
    clear q19
    have cc := hx.cell hj
    clear hF hA
    unfold Oper.wp execOp
    go_simp
    exact hK _ _ (fun _ => ⟨_, rfl⟩) ⟨g1.more (by omega), g2, g3, g4, g5, g6⟩ (Le.refl _)
  case o11 =>
    intro f a w K hF hA hsz hG hK
    rw [if_pos (by rfl)]
    have hsz : f + 1 ≤ 18 := hsz
    obtain ⟨g1, g2, g3, g4, g5, g6⟩ := hG
    have p10 : kinV b W.heap.size k o r x 0 (a.eval (.tmp 10)) w := hA ⟨0, .data⟩ (by simp) rfl _ rfl (by simp)
    have q10 : a.eval (.tmp 10) = _ := p10
    have e10 := slot_eq q10
    have p12 : kinV b W.heap.size k o r x 2 (a.eval (.tmp 12)) w := hA ⟨2, .data⟩ (by simp) rfl _ rfl (by simp)
    obtain ⟨i2, q12⟩ := p12
    have e12 := slot_eq q12
    have p20 : kinV b W.heap.size k o r x 10 (a.eval (.tmp 20)) w := hA ⟨10, .data⟩ (by simp) rfl _ rfl (by simp)
    obtain ⟨i3, q20⟩ := p20
    have e20 := slot_eq q20
    clear q10 q12 q20
    clear hF hA
    unfold Oper.wp execOp
    go_simp
    refine (spec_MintCap_any _ _ _ _ _ _ _).mono ?_
    rintro e w1 ⟨k5, o5, r5, x5, t5, rfl, hb5⟩
    exact hK _ _ (fun _ => ⟨k5, o5, r5, x5, t5, rfl⟩) ⟨(g1.below hb5).more (by omega), g2.trans (.of_below hb5), g3.below hb5, g4.below hb5, g5.below hb5, Nat.le_trans g6 hb5.size⟩ (Le.below hb5)
  case o12 =>
    intro f a w K hF hA hsz hG hK
    rw [if_pos (by rfl)]
    have hsz : f + 1 ≤ 18 := hsz
    obtain ⟨g1, g2, g3, g4, g5, g6⟩ := hG
    have p21 : kinV b W.heap.size k o r x 11 (a.eval (.tmp 21)) w := hA ⟨11, .data⟩ (by simp) rfl _ rfl (by simp)
    obtain ⟨k5, o5, r5, x5, t5, q21⟩ := p21
    have e21 := slot_eq q21
    clear q21
    clear hF hA
    unfold Oper.wp execOp
    go_simp
    exact hK _ _ (fun _ => ⟨k5, o5, r5, x5, t5, rfl⟩) ⟨g1.more (by omega), g2, g3, g4, g5, g6⟩ (Le.refl _)
  case o13 =>
    intro f a w K hF hA hsz hG hK
    rw [if_pos (by rfl)]
    have hsz : f + 1 ≤ 18 := hsz
    obtain ⟨g1, g2, g3, g4, g5, g6⟩ := hG
    have p9 : kinV b W.heap.size k o r x 12 (a.eval (.tmp 9)) w := hA ⟨12, .data⟩ (by simp) rfl _ rfl (by simp)
    obtain ⟨k5, o5, r5, x5, t5, q9⟩ := p9
    have e9 := slot_eq q9
    clear q9
    clear hF hA
    unfold Oper.wp execOp
    go_simp
    exact hK _ _ (fun _ => ⟨k5, o5, r5, x5, rfl⟩) ⟨g1.more (by omega), g2, g3, g4, g5, g6⟩ (Le.refl _)
  case o14 =>
    intro f a w K hF hA hsz hG hK
    rw [if_pos (by rfl)]
    have hsz : f + 1 ≤ 18 := hsz
    obtain ⟨g1, g2, g3, g4, g5, g6⟩ := hG
    have p9 : kinV b W.heap.size k o r x 12 (a.eval (.tmp 9)) w := hA ⟨12, .data⟩ (by simp) rfl _ rfl (by simp)
    obtain ⟨k5, o5, r5, x5, t5, q9⟩ := p9
    have e9 := slot_eq q9
    clear q9
    clear hF hA
    unfold Oper.wp execOp
    go_simp
    exact hK _ _ (fun _ => ⟨t5, rfl⟩) ⟨g1.more (by omega), g2, g3, g4, g5, g6⟩ (Le.refl _)
  case o15 =>
    intro f a w K hF hA hsz hG hK
    rw [if_pos (by rfl)]
    have hsz : f + 1 ≤ 18 := hsz
    obtain ⟨g1, g2, g3, g4, g5, g6⟩ := hG
    clear hF hA
    unfold Oper.wp execOp
    go_simp
    exact hK _ _ (fun _ => ⟨w.heap.size, rfl, g6, ⟨_, rfl, heap_alloc_new w _, allInts_of [0, 0, 0, 0]⟩⟩) ⟨(g1.alloc _).more (by omega), g2.alloc _, g3.alloc _, g4.alloc _, g5.alloc _, by simp; omega⟩ (Le.alloc _ _)
  case o16 =>
    intro f a w K hF hA hsz hG hK
    rw [if_pos (by rfl)]
    have hsz : f + 1 ≤ 18 := hsz
    obtain ⟨g1, g2, g3, g4, g5, g6⟩ := hG
    have p5 : kinV b W.heap.size k o r x 15 (a.eval (.tmp 5)) w := hA ⟨15, .data⟩ (by simp) rfl _ rfl (by simp)
    obtain ⟨c5, q5, hB5, hv5⟩ := p5
    have e5 := slot_eq q5
    have p22 : kinV b W.heap.size k o r x 13 (a.eval (.tmp 22)) w := hA ⟨13, .data⟩ (by simp) rfl _ rfl (by simp)
    obtain ⟨k5, o5, r5, x5, q22⟩ := p22
    have e22 := slot_eq q22
    clear q5 q22
    obtain ⟨y0, c0⟩ := hv5.cell (i := 0) (by omega)
    obtain ⟨y1, c1⟩ := hv5.cell (i := 1) (by omega)
    obtain ⟨y2, c2⟩ := hv5.cell (i := 2) (by omega)
    obtain ⟨y3, c3⟩ := hv5.cell (i := 3) (by omega)
    have f0 := fun i => VarAt.free (i := i) hv5
    have hn := hv5.notInts (by decide)
    clear hF hA
    unfold Oper.wp execOp
    go_simp
    exact hK undef _ (fun h => (h rfl).elim) ⟨((((g1.setOther (by omega) _).setOther (by omega) _).setOther (by omega) _).setOther (by omega) _).more (by omega), (((g2.setNew (by omega) _).setNew (by omega) _).setNew (by omega) _).setNew (by omega) _, (((g3.setOther (by omega) _).setOther (by omega) _).setOther (by omega) _).setOther (by omega) _, (((g4.setOther (by omega) _).setOther (by omega) _).setOther (by omega) _).setOther (by omega) _, (((g5.setOther (by omega) _).setOther (by omega) _).setOther (by omega) _).setOther (by omega) _, by simp [World.setCell]; omega⟩ (Le.set4 hv5 (by decide))
  case o17 =>
    intro f a w K hF hA hsz hG hK
    rw [if_pos (by rfl)]
    have hsz : f + 1 ≤ 18 := hsz
    obtain ⟨g1, g2, g3, g4, g5, g6⟩ := hG
    have p23 : kinV b W.heap.size k o r x 14 (a.eval (.tmp 23)) w := hA ⟨14, .data⟩ (by simp) rfl _ rfl (by simp)
    obtain ⟨t5, q23⟩ := p23
    have e23 := slot_eq q23
    clear q23
    clear hF hA
    unfold Oper.wp execOp
    go_simp
    exact hK _ _ (fun _ => ⟨t5, rfl⟩) ⟨g1.more (by omega), g2, g3, g4, g5, g6⟩ (Le.refl _)
  case hfin =>
    intro f a w' hdef hsize hF hv hG
    have p5 : kinV b W.heap.size k o r x 15 (a.eval (.tmp 5)) w' := hv 15 _ rfl (by simp)
    obtain ⟨c5, q5, hB5, hv5⟩ := p5
    have p6 : kinV b W.heap.size k o r x 17 (a.eval (.tmp 6)) w' := hv 17 _ rfl (by simp)
    obtain ⟨t6, q6⟩ := p6
    have q0 : a.eval (.tmp 0) = .pointer (some ⟨b, 0, none⟩) := (hF 0 (by kernel_rfl)).trans rfl
    have q2 : a.eval (.tmp 2) = .pointer (some ⟨R, 0, none⟩) := (hF 2 (by kernel_rfl)).trans rfl
    have q3 : a.eval (.tmp 3) = .pointer (some ⟨R + 1, 0, none⟩) := (hF 3 (by kernel_rfl)).trans rfl
    have q4 : a.eval (.tmp 4) = .pointer (some ⟨c, 0, none⟩) := (hF 4 (by kernel_rfl)).trans rfl
    have ha : a = ⟨#[a.eval (.tmp 0), a.eval (.tmp 1), a.eval (.tmp 2), a.eval (.tmp 3), a.eval (.tmp 4), a.eval (.tmp 5), a.eval (.tmp 6), a.eval (.tmp 7), a.eval (.tmp 8), a.eval (.tmp 9), a.eval (.tmp 10), a.eval (.tmp 11), a.eval (.tmp 12), a.eval (.tmp 13), a.eval (.tmp 14), a.eval (.tmp 15), a.eval (.tmp 16), a.eval (.tmp 17), a.eval (.tmp 18), a.eval (.tmp 19), a.eval (.tmp 20), a.eval (.tmp 21), a.eval (.tmp 22), a.eval (.tmp 23), a.eval (.tmp 24), a.eval (.tmp 25), a.eval (.tmp 26), a.eval (.tmp 27), a.eval (.tmp 28), a.eval (.tmp 29), a.eval (.tmp 30), a.eval (.tmp 31), a.eval (.tmp 32), a.eval (.tmp 33)], []⟩ := (act_lit a (n := 34) hsize).trans (by rw [hdef]; rfl)
    rw [q5, q6, q0, q2, q3, q4] at ha
    generalize a.eval (.tmp 1) = s1 at ha
    generalize a.eval (.tmp 7) = s7 at ha
    generalize a.eval (.tmp 8) = s8 at ha
    generalize a.eval (.tmp 9) = s9 at ha
    generalize a.eval (.tmp 10) = s10 at ha
    generalize a.eval (.tmp 11) = s11 at ha
    generalize a.eval (.tmp 12) = s12 at ha
    generalize a.eval (.tmp 13) = s13 at ha
    generalize a.eval (.tmp 14) = s14 at ha
    generalize a.eval (.tmp 15) = s15 at ha
    generalize a.eval (.tmp 16) = s16 at ha
    generalize a.eval (.tmp 17) = s17 at ha
    generalize a.eval (.tmp 18) = s18 at ha
    generalize a.eval (.tmp 19) = s19 at ha
    generalize a.eval (.tmp 20) = s20 at ha
    generalize a.eval (.tmp 21) = s21 at ha
    generalize a.eval (.tmp 22) = s22 at ha
    generalize a.eval (.tmp 23) = s23 at ha
    generalize a.eval (.tmp 24) = s24 at ha
    generalize a.eval (.tmp 25) = s25 at ha
    generalize a.eval (.tmp 26) = s26 at ha
    generalize a.eval (.tmp 27) = s27 at ha
    generalize a.eval (.tmp 28) = s28 at ha
    generalize a.eval (.tmp 29) = s29 at ha
    generalize a.eval (.tmp 30) = s30 at ha
    generalize a.eval (.tmp 31) = s31 at ha
    generalize a.eval (.tmp 32) = s32 at ha
    generalize a.eval (.tmp 33) = s33 at ha
    clear hdef hsize hF hv q5 q6 q0 q2 q3 q4
    subst ha
    obtain ⟨g1, g2, g3, g4, g5, g6⟩ := hG
    have hRd3 : Rd w' b (m + 40) := g1.more (by omega)
    clear g1
    obtain ⟨r0, r1, r2, r3⟩ := g4.cells
    obtain ⟨z0, z1, z2, z3⟩ := g5.cells
    cases t6
    · clear r0 r1 r2 r3 z0 z1 z2 z3
      go_wp2_with fail
      refine (cap_any _ _ _ _ (by omega) hRd3 (by omega)).mono ?_
      rintro e W4 ⟨k7, o7, r7, x7, rfl, hRd4, hO4⟩
      obtain ⟨k9, o9, r9, x9, hv6⟩ := (hv5.only hO4 (by omega)).cap
      obtain ⟨d0, d1, d2, d3⟩ := hv6.cells
      have f6 := hv6.free
      have hA6 := hv6.fill k7 o7 r7 x7
      have hB6 := (((((g3.only hO4 (by omega)).setOther (c' := c5) (i := 0) (by omega) (.int .i64 k7)).setOther (c' := c5) (i := 1) (by omega) (.int .i64 o7)).setOther (c' := c5) (i := 2) (by omega) (.int .i64 r7)).setOther (c' := c5) (i := 3) (by omega) (.int .i64 x7))
      have hR6 := (((((g4.only hO4 (by omega)).setOther (c' := c5) (i := 0) (by omega) (.int .i64 k7)).setOther (c' := c5) (i := 1) (by omega) (.int .i64 o7)).setOther (c' := c5) (i := 2) (by omega) (.int .i64 r7)).setOther (c' := c5) (i := 3) (by omega) (.int .i64 x7))
      have hS6 := (((((g5.only hO4 (by omega)).setOther (c' := c5) (i := 0) (by omega) (.int .i64 k7)).setOther (c' := c5) (i := 1) (by omega) (.int .i64 o7)).setOther (c' := c5) (i := 2) (by omega) (.int .i64 r7)).setOther (c' := c5) (i := 3) (by omega) (.int .i64 x7))
      have hO6 := (((((g2.trans hO4).setNew (c := c5) (i := 0) (by omega) (.int .i64 k7)).setNew (c := c5) (i := 1) (by omega) (.int .i64 o7)).setNew (c := c5) (i := 2) (by omega) (.int .i64 r7)).setNew (c := c5) (i := 3) (by omega) (.int .i64 x7))
      have hRd6 := ((((hRd4.setOther (c := c5) (i := 0) (by omega) (.int .i64 k7)).setOther (c := c5) (i := 1) (by omega) (.int .i64 o7)).setOther (c := c5) (i := 2) (by omega) (.int .i64 r7)).setOther (c := c5) (i := 3) (by omega) (.int .i64 x7))
      go_wp2_with fail
      clear d0 d1 d2 d3 f6 hv6 hRd4
      generalize (((W4.setCell ⟨c5, 0, none⟩ (.int .i64 k7)).setCell ⟨c5, 1, none⟩ (.int .i64 o7)).setCell ⟨c5, 2, none⟩ (.int .i64 r7)).setCell ⟨c5, 3, none⟩ (.int .i64 x7) = W6 at *
      have hwR : w.heap.size ≤ R := by have := HRR.out; omega
      obtain ⟨c0, c1, c2, c3⟩ := hA6.cells
      obtain ⟨d0, d1, d2, d3⟩ := hB6.cells
      obtain ⟨r0, r1, r2, r3⟩ := hR6.cells
      obtain ⟨z0, z1, z2, z3⟩ := hS6.cells
      have fr := hR6.free
      have fz := hS6.free
      have n1 : R ≠ c5 := by omega
      have n2 : R ≠ c := by omega
      have n3 : R + 1 ≠ c5 := by omega
      have n4 : R + 1 ≠ c := by omega
      go_region_held3 (fun w' => w'.cell? ⟨c5, 0, none⟩ = some (.int .i64 k7) ∧ w'.cell? ⟨c5, 1, none⟩ = some (.int .i64 o7) ∧ w'.cell? ⟨c5, 2, none⟩ = some (.int .i64 r7) ∧ w'.cell? ⟨c5, 3, none⟩ = some (.int .i64 x7) ∧ w'.cell? ⟨c, 0, none⟩ = some (.int .i64 k) ∧ w'.cell? ⟨c, 1, none⟩ = some (.int .i64 o) ∧ w'.cell? ⟨c, 2, none⟩ = some (.int .i64 r) ∧ w'.cell? ⟨c, 3, none⟩ = some (.int .i64 x)) (go_keep) (fail)
      all_goals
        go_wp2_with fail
        refine bodyPost_ret (v := .tuple #[.agg #[.int .i64 k7, .int .i64 o7, .int .i64 r7, .int .i64 x7], .agg #[.int .i64 k, .int .i64 o, .int .i64 r, .int .i64 x]]) (by simp [results, Try.results49, go_sem, r0, r1, r2, r3, z0, z1, z2, z3]) rfl ⟨_, _, _, _, _, _, _, _, rfl, ?_, ?_⟩
        · refine Rd.more (m := m + 70) ?_ (by omega)
          have hRd7 : Rd W6 b (m + 70) := hRd6.more (by omega)
          repeat (with_reducible first | refine Rd.setOther ?_ (by omega) _ | refine Rd.drew ?_ | exact hRd7)
        · repeat (with_reducible first | refine Only.setNew ?_ (by omega) _ | refine Only.drew ?_ | exact hO6)
    · go_wp2_with fail
      refine (odd_any _ _ _ _ (by omega) hRd3 (by omega)).mono ?_
      rintro e W3 ⟨t7, rfl, hRd5, hO5⟩
      have hv7 := hv5.only hO5 (by omega)
      have gb := g3.only hO5 (by omega)
      have gr := g4.only hO5 (by omega)
      have gs := g5.only hO5 (by omega)
      have go := g2.trans hO5
      clear hv5 g3 g4 g5 g2 hO5 hRd3 r0 r1 r2 r3 z0 z1 z2 z3
      cases t7
      · obtain ⟨k7, o7, r7, x7, hA6⟩ := hv7.cap
        have hB6 := gb
        have hR6 := gr
        have hS6 := gs
        have hO6 := go
        have hRd6 := hRd5
        have hW6 : ∃ W6 : World, W6 = W3 := ⟨_, rfl⟩
        obtain ⟨W6, hW6⟩ := hW6
        subst hW6
        go_wp2_with fail
        have hwR : w.heap.size ≤ R := by have := HRR.out; omega
        obtain ⟨c0, c1, c2, c3⟩ := hA6.cells
        obtain ⟨d0, d1, d2, d3⟩ := hB6.cells
        obtain ⟨r0, r1, r2, r3⟩ := hR6.cells
        obtain ⟨z0, z1, z2, z3⟩ := hS6.cells
        have fr := hR6.free
        have fz := hS6.free
        have n1 : R ≠ c5 := by omega
        have n2 : R ≠ c := by omega
        have n3 : R + 1 ≠ c5 := by omega
        have n4 : R + 1 ≠ c := by omega
        go_region_held3 (fun w' => w'.cell? ⟨c5, 0, none⟩ = some (.int .i64 k7) ∧ w'.cell? ⟨c5, 1, none⟩ = some (.int .i64 o7) ∧ w'.cell? ⟨c5, 2, none⟩ = some (.int .i64 r7) ∧ w'.cell? ⟨c5, 3, none⟩ = some (.int .i64 x7) ∧ w'.cell? ⟨c, 0, none⟩ = some (.int .i64 k) ∧ w'.cell? ⟨c, 1, none⟩ = some (.int .i64 o) ∧ w'.cell? ⟨c, 2, none⟩ = some (.int .i64 r) ∧ w'.cell? ⟨c, 3, none⟩ = some (.int .i64 x)) (go_keep) (fail)
        all_goals
          go_wp2_with fail
          refine bodyPost_ret (v := .tuple #[.agg #[.int .i64 k7, .int .i64 o7, .int .i64 r7, .int .i64 x7], .agg #[.int .i64 k, .int .i64 o, .int .i64 r, .int .i64 x]]) (by simp [results, Try.results49, go_sem, r0, r1, r2, r3, z0, z1, z2, z3]) rfl ⟨_, _, _, _, _, _, _, _, rfl, ?_, ?_⟩
          · refine Rd.more (m := m + 70) ?_ (by omega)
            have hRd7 : Rd W6 b (m + 70) := hRd6.more (by omega)
            repeat (with_reducible first | refine Rd.setOther ?_ (by omega) _ | refine Rd.drew ?_ | exact hRd7)
          · repeat (with_reducible first | refine Only.setNew ?_ (by omega) _ | refine Only.drew ?_ | exact hO6)
      · go_wp2_with fail
        refine (cap_any _ _ _ _ (by omega) hRd5 (by omega)).mono ?_
        rintro e W4 ⟨k7, o7, r7, x7, rfl, hRd4, hO4⟩
        obtain ⟨k9, o9, r9, x9, hv6⟩ := (hv7.only hO4 (by omega)).cap
        obtain ⟨d0, d1, d2, d3⟩ := hv6.cells
        have f6 := hv6.free
        have hA6 := hv6.fill k7 o7 r7 x7
        have hB6 := (((((gb.only hO4 (by omega)).setOther (c' := c5) (i := 0) (by omega) (.int .i64 k7)).setOther (c' := c5) (i := 1) (by omega) (.int .i64 o7)).setOther (c' := c5) (i := 2) (by omega) (.int .i64 r7)).setOther (c' := c5) (i := 3) (by omega) (.int .i64 x7))
        have hR6 := (((((gr.only hO4 (by omega)).setOther (c' := c5) (i := 0) (by omega) (.int .i64 k7)).setOther (c' := c5) (i := 1) (by omega) (.int .i64 o7)).setOther (c' := c5) (i := 2) (by omega) (.int .i64 r7)).setOther (c' := c5) (i := 3) (by omega) (.int .i64 x7))
        have hS6 := (((((gs.only hO4 (by omega)).setOther (c' := c5) (i := 0) (by omega) (.int .i64 k7)).setOther (c' := c5) (i := 1) (by omega) (.int .i64 o7)).setOther (c' := c5) (i := 2) (by omega) (.int .i64 r7)).setOther (c' := c5) (i := 3) (by omega) (.int .i64 x7))
        have hO6 := (((((go.trans hO4).setNew (c := c5) (i := 0) (by omega) (.int .i64 k7)).setNew (c := c5) (i := 1) (by omega) (.int .i64 o7)).setNew (c := c5) (i := 2) (by omega) (.int .i64 r7)).setNew (c := c5) (i := 3) (by omega) (.int .i64 x7))
        have hRd6 := ((((hRd4.setOther (c := c5) (i := 0) (by omega) (.int .i64 k7)).setOther (c := c5) (i := 1) (by omega) (.int .i64 o7)).setOther (c := c5) (i := 2) (by omega) (.int .i64 r7)).setOther (c := c5) (i := 3) (by omega) (.int .i64 x7))
        go_wp2_with fail
        clear d0 d1 d2 d3 f6 hv6 hRd4
        generalize (((W4.setCell ⟨c5, 0, none⟩ (.int .i64 k7)).setCell ⟨c5, 1, none⟩ (.int .i64 o7)).setCell ⟨c5, 2, none⟩ (.int .i64 r7)).setCell ⟨c5, 3, none⟩ (.int .i64 x7) = W6 at *
        have hwR : w.heap.size ≤ R := by have := HRR.out; omega
        obtain ⟨c0, c1, c2, c3⟩ := hA6.cells
        obtain ⟨d0, d1, d2, d3⟩ := hB6.cells
        obtain ⟨r0, r1, r2, r3⟩ := hR6.cells
        obtain ⟨z0, z1, z2, z3⟩ := hS6.cells
        have fr := hR6.free
        have fz := hS6.free
        have n1 : R ≠ c5 := by omega
        have n2 : R ≠ c := by omega
        have n3 : R + 1 ≠ c5 := by omega
        have n4 : R + 1 ≠ c := by omega
        go_region_held3 (fun w' => w'.cell? ⟨c5, 0, none⟩ = some (.int .i64 k7) ∧ w'.cell? ⟨c5, 1, none⟩ = some (.int .i64 o7) ∧ w'.cell? ⟨c5, 2, none⟩ = some (.int .i64 r7) ∧ w'.cell? ⟨c5, 3, none⟩ = some (.int .i64 x7) ∧ w'.cell? ⟨c, 0, none⟩ = some (.int .i64 k) ∧ w'.cell? ⟨c, 1, none⟩ = some (.int .i64 o) ∧ w'.cell? ⟨c, 2, none⟩ = some (.int .i64 r) ∧ w'.cell? ⟨c, 3, none⟩ = some (.int .i64 x)) (go_keep) (fail)
        all_goals
          go_wp2_with fail
          refine bodyPost_ret (v := .tuple #[.agg #[.int .i64 k7, .int .i64 o7, .int .i64 r7, .int .i64 x7], .agg #[.int .i64 k, .int .i64 o, .int .i64 r, .int .i64 x]]) (by simp [results, Try.results49, go_sem, r0, r1, r2, r3, z0, z1, z2, z3]) rfl ⟨_, _, _, _, _, _, _, _, rfl, ?_, ?_⟩
          · refine Rd.more (m := m + 70) ?_ (by omega)
            have hRd7 : Rd W6 b (m + 70) := hRd6.more (by omega)
            repeat (with_reducible first | refine Rd.setOther ?_ (by omega) _ | refine Rd.drew ?_ | exact hRd7)
          · repeat (with_reducible first | refine Only.setNew ?_ (by omega) _ | refine Only.drew ?_ | exact hO6)

end Go.Proofs.Ytciebhdoafhkbaa
