/- The draw of a piece: whatever the code, three integers; only the reader has turned. No condition on the code. -/
import Derived.Test.YtabjkjbclpokeaaDrawGen
import Derived.Test.YtabjkjbclpokeaaBlocks
namespace Go.Proofs.Ytabjkjbclpokeaa
open Go.RowKit
set_option linter.unusedVariables false

/-- A piece whose number of bits is bb. -/
def PAt (w : World) (c : Nat) (bb : Int) : Prop := ∃ s u : Int, IAt w c 25 [s, bb, u]
theorem PAt.var {w : World} {c : Nat} {bb : Int} (h : PAt w c bb) : VarAt w c 3 25 := by
  obtain ⟨s, u, h⟩ := h
  exact ⟨_, rfl, h, allInts_of [s, bb, u]⟩
theorem PAt.only {w w' : World} {b c : Nat} {bb : Int} (h : PAt w c bb) (ho : Only b w w') (hc : c ≠ b) : PAt w' c bb := by
  obtain ⟨s, u, h⟩ := h
  exact ⟨s, u, (ho.block c h.lt (fun e => hc (by injection e))).trans h⟩
theorem PAt.set0 {w : World} {c : Nat} {bb : Int} (h : PAt w c bb) (x : Int) : PAt (w.setCell ⟨c, 0, none⟩ (.int .i64 x)) c bb := by
  obtain ⟨s, u, h⟩ := h
  unfold IAt at h
  exact ⟨x, u, by unfold IAt; simp [World.setCell, Array.getElem?_modify, h]⟩
theorem PAt.set2 {w : World} {c : Nat} {bb : Int} (h : PAt w c bb) (x : Int) : PAt (w.setCell ⟨c, 2, none⟩ (.int .i64 x)) c bb := by
  obtain ⟨s, u, h⟩ := h
  unfold IAt at h
  exact ⟨s, x, by unfold IAt; simp [World.setCell, Array.getElem?_modify, h]⟩

theorem VarAt.ofIAt {w : World} {c : Nat} {T : TypeId} {xs : List Int} (h : IAt w c T xs) : VarAt w c xs.length T := ⟨_, by simp, h, allInts_of xs⟩
theorem pick4_ge {k : Int} (h0 : 0 ≤ k) (h1 : k < 7) (i : Nat) (hi : i < [k, 10, 12, 16].length) : 0 ≤ [k, 10, 12, 16][i] := by
  have : [k, 10, 12, 16][i] ∈ [k, 10, 12, 16] := List.getElem_mem hi
  simp only [List.mem_cons, List.not_mem_nil, or_false] at this
  omega
theorem pick4_le {k : Int} (h0 : 0 ≤ k) (h1 : k < 7) (i : Nat) (hi : i < [k, 10, 12, 16].length) : [k, 10, 12, 16][i] ≤ 16 := by
  have : [k, 10, 12, 16][i] ∈ [k, 10, 12, 16] := List.getElem_mem hi
  simp only [List.mem_cons, List.not_mem_nil, or_false] at this
  omega

/-- The invariant of a drawn region that draws a piece in block c. -/
def DP (S b m N : Nat) (w0 W : World) (c : Nat) (bb : Int) (f : Nat) (w : World) : Prop := (DG S b m N w0 W f w ∧ c ≠ b) ∧ PAt w c bb
section
variable {S b m N f m' c : Nat} {bb : Int} {w0 W w w' : World}
theorem DP.rd (h : DP S b m N w0 W c bb f w) : Rd w b (m + 100 * (N - f)) := h.1.1.1
theorem DP.le (h : DP S b m N w0 W c bb f w) : Le W w := h.1.1.le
theorem DP.only (h : DP S b m N w0 W c bb f w) : Only b w0 w := h.1.1.only
theorem DP.src (h : DP S b m N w0 W c bb f w) : Src S w b := h.1.1.src
theorem DP.keep (h : DP S b m N w0 W c bb (f + 1) w) : DP S b m N w0 W c bb f w := ⟨⟨h.1.1.keep, h.1.2⟩, h.2⟩
theorem DP.step (h : DP S b m N w0 W c bb (f + 1) w) (hr : Rd w' b m') (hm : m' ≤ m + 100 * (N - f)) (ho : Only b w w') : DP S b m N w0 W c bb f w' := ⟨⟨h.1.1.step hr hm ho, h.1.2⟩, h.2.only ho h.1.2⟩
theorem DP.alloc (h : DP S b m N w0 W c bb (f + 1) w) (o : Obj) : DP S b m N w0 W c bb f (w.alloc o) := ⟨⟨h.1.1.alloc o, h.1.2⟩, h.2.only ((Only.refl _ _).alloc o) h.1.2⟩
theorem DP.set0 (h : DP S b m N w0 W c bb f w) (h0 : w0.heap.size ≤ c) (hS : S ≤ c) (hc : b ≠ c) (x : Int) : DP S b m N w0 W c bb f (w.setCell ⟨c, 0, none⟩ (.int .i64 x)) := ⟨⟨h.1.1.set h0 hS hc h.2.var (by decide) x, h.1.2⟩, h.2.set0 x⟩
theorem DP.set2 (h : DP S b m N w0 W c bb f w) (h0 : w0.heap.size ≤ c) (hS : S ≤ c) (hc : b ≠ c) (x : Int) : DP S b m N w0 W c bb f (w.setCell ⟨c, 2, none⟩ (.int .i64 x)) := ⟨⟨h.1.1.set h0 hS hc h.2.var (by decide) x, h.1.2⟩, h.2.set2 x⟩
theorem DP.leSet (h : DP S b m N w0 W c bb f w) (j : Nat) (x : Int) : Le w (w.setCell ⟨c, j, none⟩ (.int .i64 x)) := h.2.var.leSet (by decide) x
end

def pieceAV (b : Nat) (c : Nat) (bb : Int) : Nat → Value → World → Prop
  | 0, v, w => v = .pointer (some ⟨b, 0, none⟩)
  | 1, v, w => v = .pointer (some ⟨c, 1, none⟩)
  | 2, v, w => v = .int .i64 bb
  | 3, v, w => ∃ i : Int, v = .int .i64 i
  | 4, v, w => ∃ i : Int, v = .int .i64 i ∧ 0 ≤ i
  | 5, v, w => v = .pointer (some ⟨c, 1, none⟩)
  | 6, v, w => v = .int .i64 bb
  | 7, v, w => ∃ i : Int, v = .int .i64 i
  | 8, v, w => v = .pointer (some ⟨c, 0, none⟩)
  | _, _, _ => True
theorem pieceAV_le (b : Nat) (c : Nat) (bb : Int) : ∀ j u w w', Le w w' → pieceAV b c bb j u w → pieceAV b c bb j u w' := by
  intro j u w w' hl h
  unfold pieceAV at h ⊢
  split at h <;> first
    | exact h
    | (obtain ⟨g, xs, h1, h2, h3⟩ := h; exact ⟨g, xs, h1, h2.le hl, h3⟩)
    | (obtain ⟨g, i, xs, h1, h2, h3⟩ := h; exact ⟨g, i, xs, h1, h2.le hl, h3⟩)
def pieceBV (b : Nat) (c : Nat) (bb : Int) : Nat → Value → World → Prop
  | 0, v, w => v = .pointer (some ⟨b, 0, none⟩)
  | 1, v, w => v = .pointer (some ⟨c, 1, none⟩)
  | 2, v, w => v = .int .i64 bb
  | 3, v, w => ∃ i : Int, v = .int .i64 i
  | 4, v, w => ∃ i : Int, v = .int .i64 i
  | 5, v, w => ∃ i : Int, v = .int .i64 i
  | 6, v, w => ∃ i : Int, v = .int .i64 i ∧ 0 ≤ i
  | 7, v, w => v = .pointer (some ⟨c, 1, none⟩)
  | 8, v, w => v = .int .i64 bb
  | 9, v, w => ∃ i : Int, v = .int .i64 i
  | 10, v, w => v = .pointer (some ⟨c, 1, none⟩)
  | 11, v, w => v = .int .i64 bb
  | 12, v, w => ∃ i : Int, v = .int .i64 i
  | 13, v, w => ∃ i : Int, v = .int .i64 i
  | 14, v, w => ∃ (g : Nat) (xs : List Int), v = .slice (some ⟨g, 0, none⟩) 4 4 ∧ IntsAt w g xs ∧ xs.length = 4
  | 15, v, w => v = .pointer (some ⟨b, 0, none⟩)
  | 16, v, w => ∃ i : Int, v = .int .i64 i ∧ 0 ≤ i ∧ i < 4
  | 17, v, w => ∃ (g i : Nat) (xs : List Int), v = .pointer (some ⟨g, i, none⟩) ∧ IntsAt w g xs ∧ i < xs.length
  | 18, v, w => ∃ i : Int, v = .int .i64 i
  | 19, v, w => v = .pointer (some ⟨c, 2, none⟩)
  | _, _, _ => True
theorem pieceBV_le (b : Nat) (c : Nat) (bb : Int) : ∀ j u w w', Le w w' → pieceBV b c bb j u w → pieceBV b c bb j u w' := by
  intro j u w w' hl h
  unfold pieceBV at h ⊢
  split at h <;> first
    | exact h
    | (obtain ⟨g, xs, h1, h2, h3⟩ := h; exact ⟨g, xs, h1, h2.le hl, h3⟩)
    | (obtain ⟨g, i, xs, h1, h2, h3⟩ := h; exact ⟨g, i, xs, h1, h2.le hl, h3⟩)
def pieceCV (b : Nat) (c : Nat) (bb : Int) : Nat → Value → World → Prop
  | 0, v, w => v = .pointer (some ⟨c, 1, none⟩)
  | 1, v, w => v = .int .i64 bb
  | 2, v, w => ∃ i : Int, v = .int .i64 i
  | 3, v, w => ∃ i : Int, v = .int .i64 i
  | 4, v, w => ∃ (g : Nat) (xs : List Int), v = .slice (some ⟨g, 0, none⟩) 2 2 ∧ IntsAt w g xs ∧ xs.length = 2
  | 5, v, w => v = .pointer (some ⟨b, 0, none⟩)
  | 6, v, w => ∃ i : Int, v = .int .i64 i ∧ 0 ≤ i ∧ i < 2
  | 7, v, w => ∃ (g i : Nat) (xs : List Int), v = .pointer (some ⟨g, i, none⟩) ∧ IntsAt w g xs ∧ i < xs.length
  | 8, v, w => ∃ i : Int, v = .int .i64 i
  | 9, v, w => v = .pointer (some ⟨c, 2, none⟩)
  | _, _, _ => True
theorem pieceCV_le (b : Nat) (c : Nat) (bb : Int) : ∀ j u w w', Le w w' → pieceCV b c bb j u w → pieceCV b c bb j u w' := by
  intro j u w w' hl h
  unfold pieceCV at h ⊢
  split at h <;> first
    | exact h
    | (obtain ⟨g, xs, h1, h2, h3⟩ := h; exact ⟨g, xs, h1, h2.le hl, h3⟩)
    | (obtain ⟨g, i, xs, h1, h2, h3⟩ := h; exact ⟨g, i, xs, h1, h2.le hl, h3⟩)

/-- What a draw of a piece may give. -/
def DrawnPiece (b m : Nat) (w : World) (e : Ending) (w' : World) : Prop := ∃ s x u : Int, e = .returned (.agg #[.int .i64 s, .int .i64 x, .int .i64 u]) ∧ Rd w' b m ∧ Only b w w' ∧ Src w.heap.size w' b

set_option maxHeartbeats 8000000 in
theorem piece_any (n : Int) (b m : Nat) (w : World) (hm : m ≤ 700000000) (h : Rd w b m) (hsrc : Src w.heap.size w b) (hn : n ≤ 1000000) :
    Calls Try.prog 44 #[.pointer (some ⟨b, 0, none⟩), .int .i64 n] w (DrawnPiece b (m + 10000) w) := by
  have hb := h.lt
  go_enter Try.func44, Try.ntmps44
  go_wp2_with fail
  refine (pick_any _ _ _ _ (by omega) (h.alloc _)).mono ?_
  rintro e w1 ⟨k1, rfl, a1, b1, h1, o1⟩
  have b1' := b1 (by omega)
  have hR1 : VarAt w1 w.heap.size 3 25 := (VarAt.ofIAt (IAt.new w 25 [0, 0, 0])).only o1 (by omega)
  have hO1 : Only b w w1 := ((Only.refl b w).alloc _).trans o1
  clear b1
  go_wp2_with fail
  refine (pick_any _ _ _ _ (by omega) (h1.alloc _)).mono ?_
  rintro e w2 ⟨k2, rfl, a2, b2, h2, o2⟩
  have b2' := b2 (by omega)
  have hlt1 := h1.lt
  have hA := (IntsAt.new w1 [k1, 10, 12, 16]).only o2 (by omega)
  have hc : w2.cell? ⟨w1.heap.size, k2.toNat, none⟩ = some (.int .i64 ([k1, 10, 12, 16][k2.toNat]'(by simp; omega))) := hA.cell (by simp; omega)
  have hv1 : 0 ≤ [k1, 10, 12, 16][k2.toNat]'(by simp; omega) := pick4_ge a1 b1' _ _
  have hv2 : [k1, 10, 12, 16][k2.toNat]'(by simp; omega) ≤ 16 := pick4_le a1 b1' _ _
  have hR2 := (hR1.alloc (.cells #[.int .i64 k1, .int .i64 10, .int .i64 12, .int .i64 16] 3)).only o2 (by omega)
  have hO2 : Only b w w2 := (hO1.alloc _).trans o2
  have hs2 : Src w.heap.size w2 b := hsrc.only hO2
  clear b2 h1 o1 o2 hO1 hR1 hA
  generalize [k1, 10, 12, 16][k2.toNat]'(by simp; omega) = bb at *
  go_wp2_with fail
  have hP0 : PAt (w2.alloc (.cells #[.int .i64 0, .int .i64 bb, .int .i64 0] 25)) w2.heap.size bb := ⟨0, 0, IAt.new w2 25 [0, bb, 0]⟩
  have hR3 := hR2.alloc (.cells #[.int .i64 0, .int .i64 bb, .int .i64 0] 25)
  have hO3 := hO2.alloc (.cells #[.int .i64 0, .int .i64 bb, .int .i64 0] 25)
  have h3 := h2.alloc (.cells #[.int .i64 0, .int .i64 bb, .int .i64 0] 25)
  have hs3 : Src w.heap.size (w2.alloc (.cells #[.int .i64 0, .int .i64 bb, .int .i64 0] 25)) b := hs2.only ((Only.refl _ _).alloc _)
  have hcb : b < w2.heap.size := h2.lt
  have hcw : w.heap.size ≤ w2.heap.size := hO2.size
  have hRc : w.heap.size < w2.heap.size := hR2.lt
  clear hR2 hO2 h2 hs2 hc h hsrc hlt1
  generalize w2.alloc (.cells #[.int .i64 0, .int .i64 bb, .int .i64 0] 25) = W at *
  generalize w2.heap.size = c at *
  generalize hR : w.heap.size = R at *
  have HR := Lib.hid hR
  have hwR : w.heap.size ≤ R := by omega
  clear hR
  have h30 : Rd W b (m + 10) := h3.more (by omega)
  refine wp_region_inv (pieceAV b c bb) (DP R b (m + 10) 10 w W.drew c bb) Le (by kernel_rfl) (by kernel_rfl) (by kernel_rfl) (pieceAV_le _ _ _) (⟨⟨⟨Rd.more h30 (by omega), Only.drew hO3, Le.refl _, hs3⟩, by omega⟩, hP0⟩) ⟨?o0, ?o1, ?o2, ?o3, ?o4, ?o5, ?o6, ?o7, ?o8, ?o9, trivial⟩ ?hfin
  case o0 =>
    intro f a w K hF hA hsz hG hK
    rw [if_pos (by rfl)]
    have hsz : f + 1 ≤ 10 := hsz
    have hsz2 := hsz
    have e0 : a.tmps[0]?.getD undef = .pointer (some ⟨b, 0, none⟩) := slot_of (hF 0 (by kernel_rfl)) rfl
    clear hF hA
    unfold Oper.wp execOp
    go_simp
    exact hK _ _ (fun _ => rfl) (hG.keep) (Le.refl _)
  case o1 =>
    intro f a w K hF hA hsz hG hK
    rw [if_pos (by rfl)]
    have hsz : f + 1 ≤ 10 := hsz
    have hsz2 := hsz
    have e5 : a.tmps[5]?.getD undef = .pointer (some ⟨c, 0, none⟩) := slot_of (hF 5 (by kernel_rfl)) rfl
    clear hF hA
    unfold Oper.wp execOp
    go_simp
    exact hK _ _ (fun _ => rfl) (hG.keep) (Le.refl _)
  case o2 =>
    intro f a w K hF hA hsz hG hK
    rw [if_pos (by rfl)]
    have hsz : f + 1 ≤ 10 := hsz
    have hsz2 := hsz
    have p15 : pieceAV b c bb 1 (a.eval (.tmp 15)) w := hA ⟨1, .data⟩ (by simp) rfl _ rfl (by simp)
    have q15 : a.eval (.tmp 15) = _ := p15
    have e15 := slot_eq q15
    clear q15
    have hp := hG.2
    obtain ⟨s9, u9, hi⟩ := hp
    obtain ⟨c0, c1, c2⟩ := hi.cells3
    clear hF hA
    unfold Oper.wp execOp
    go_simp
    exact hK _ _ (fun _ => rfl) (hG.keep) (Le.refl _)
  case o3 =>
    intro f a w K hF hA hsz hG hK
    rw [if_pos (by rfl)]
    have hsz : f + 1 ≤ 10 := hsz
    have hsz2 := hsz
    have p16 : pieceAV b c bb 2 (a.eval (.tmp 16)) w := hA ⟨2, .data⟩ (by simp) rfl _ rfl (by simp)
    have q16 : a.eval (.tmp 16) = _ := p16
    have e16 := slot_eq q16
    clear q16
    clear hF hA
    unfold Oper.wp execOp
    go_simp
    exact hK _ _ (fun _ => ⟨_, rfl⟩) (hG.keep) (Le.refl _)
  case o4 =>
    intro f a w K hF hA hsz hG hK
    rw [if_pos (by rfl)]
    have hsz : f + 1 ≤ 10 := hsz
    have hsz2 := hsz
    have p14 : pieceAV b c bb 0 (a.eval (.tmp 14)) w := hA ⟨0, .data⟩ (by simp) rfl _ rfl (by simp)
    have q14 : a.eval (.tmp 14) = _ := p14
    have e14 := slot_eq q14
    have p17 : pieceAV b c bb 3 (a.eval (.tmp 17)) w := hA ⟨3, .data⟩ (by simp) rfl _ rfl (by simp)
    obtain ⟨i17, q17⟩ := p17
    have e17 := slot_eq q17
    clear q14 q17
    clear hF hA
    unfold Oper.wp execOp
    go_simp
    refine (pick_any _ _ _ _ (by omega) hG.rd).mono ?_
    rintro e w1 ⟨i, rfl, h0, h1, hR1, hO1⟩
    exact hK _ _ (fun _ => ⟨i, rfl, h0⟩) (hG.step hR1 (by omega) hO1) (Le.only hO1 hG.rd hR1)
  case o5 =>
    intro f a w K hF hA hsz hG hK
    rw [if_pos (by rfl)]
    have hsz : f + 1 ≤ 10 := hsz
    have hsz2 := hsz
    have e5 : a.tmps[5]?.getD undef = .pointer (some ⟨c, 0, none⟩) := slot_of (hF 5 (by kernel_rfl)) rfl
    clear hF hA
    unfold Oper.wp execOp
    go_simp
    exact hK _ _ (fun _ => rfl) (hG.keep) (Le.refl _)
  case o6 =>
    intro f a w K hF hA hsz hG hK
    rw [if_pos (by rfl)]
    have hsz : f + 1 ≤ 10 := hsz
    have hsz2 := hsz
    have p19 : pieceAV b c bb 5 (a.eval (.tmp 19)) w := hA ⟨5, .data⟩ (by simp) rfl _ rfl (by simp)
    have q19 : a.eval (.tmp 19) = _ := p19
    have e19 := slot_eq q19
    clear q19
    have hp := hG.2
    obtain ⟨s9, u9, hi⟩ := hp
    obtain ⟨c0, c1, c2⟩ := hi.cells3
    clear hF hA
    unfold Oper.wp execOp
    go_simp
    exact hK _ _ (fun _ => rfl) (hG.keep) (Le.refl _)
  case o7 =>
    intro f a w K hF hA hsz hG hK
    rw [if_pos (by rfl)]
    have hsz : f + 1 ≤ 10 := hsz
    have hsz2 := hsz
    have p18 : pieceAV b c bb 4 (a.eval (.tmp 18)) w := hA ⟨4, .data⟩ (by simp) rfl _ rfl (by simp)
    obtain ⟨i18, q18, hl18⟩ := p18
    have e18 := slot_eq q18
    have p20 : pieceAV b c bb 6 (a.eval (.tmp 20)) w := hA ⟨6, .data⟩ (by simp) rfl _ rfl (by simp)
    have q20 : a.eval (.tmp 20) = _ := p20
    have e20 := slot_eq q20
    clear q18 q20
    clear hF hA
    unfold Oper.wp execOp
    go_simp
    exact hK _ _ (fun _ => ⟨_, rfl⟩) (hG.keep) (Le.refl _)
  case o8 =>
    intro f a w K hF hA hsz hG hK
    rw [if_pos (by rfl)]
    have hsz : f + 1 ≤ 10 := hsz
    have hsz2 := hsz
    have e5 : a.tmps[5]?.getD undef = .pointer (some ⟨c, 0, none⟩) := slot_of (hF 5 (by kernel_rfl)) rfl
    clear hF hA
    unfold Oper.wp execOp
    go_simp
    exact hK _ _ (fun _ => rfl) (hG.keep) (Le.refl _)
  case o9 =>
    intro f a w K hF hA hsz hG hK
    rw [if_pos (by rfl)]
    have hsz : f + 1 ≤ 10 := hsz
    have hsz2 := hsz
    have p22 : pieceAV b c bb 8 (a.eval (.tmp 22)) w := hA ⟨8, .data⟩ (by simp) rfl _ rfl (by simp)
    have q22 : a.eval (.tmp 22) = _ := p22
    have e22 := slot_eq q22
    have p21 : pieceAV b c bb 7 (a.eval (.tmp 21)) w := hA ⟨7, .data⟩ (by simp) rfl _ rfl (by simp)
    obtain ⟨i21, q21⟩ := p21
    have e21 := slot_eq q21
    clear q22 q21
    have hp := hG.2
    obtain ⟨s9, u9, hi⟩ := hp
    obtain ⟨c0, c1, c2⟩ := hi.cells3
    have f0 := hi.free
    clear hF hA
    unfold Oper.wp execOp
    go_simp
    exact hK undef _ (fun h => (h rfl).elim) (hG.keep.set0 (by omega) (by omega) (by omega) _) (hG.leSet 0 _)
  case hfin =>
    intro f a w' hdef hsize hF hv hG
    have q0 : a.eval (.tmp 0) = .pointer (some ⟨b, 0, none⟩) := (hF 0 (by kernel_rfl)).trans rfl
    have q1 : a.eval (.tmp 1) = .int .i64 n := (hF 1 (by kernel_rfl)).trans rfl
    have q4 : a.eval (.tmp 4) = .pointer (some ⟨R, 0, none⟩) := (hF 4 (by kernel_rfl)).trans rfl
    have q5 : a.eval (.tmp 5) = .pointer (some ⟨c, 0, none⟩) := (hF 5 (by kernel_rfl)).trans rfl
    have ha : a = ⟨#[a.eval (.tmp 0), a.eval (.tmp 1), a.eval (.tmp 2), a.eval (.tmp 3), a.eval (.tmp 4), a.eval (.tmp 5), a.eval (.tmp 6), a.eval (.tmp 7), a.eval (.tmp 8), a.eval (.tmp 9), a.eval (.tmp 10), a.eval (.tmp 11), a.eval (.tmp 12), a.eval (.tmp 13), a.eval (.tmp 14), a.eval (.tmp 15), a.eval (.tmp 16), a.eval (.tmp 17), a.eval (.tmp 18), a.eval (.tmp 19), a.eval (.tmp 20), a.eval (.tmp 21), a.eval (.tmp 22), a.eval (.tmp 23), a.eval (.tmp 24), a.eval (.tmp 25), a.eval (.tmp 26), a.eval (.tmp 27), a.eval (.tmp 28), a.eval (.tmp 29), a.eval (.tmp 30), a.eval (.tmp 31), a.eval (.tmp 32), a.eval (.tmp 33), a.eval (.tmp 34), a.eval (.tmp 35), a.eval (.tmp 36), a.eval (.tmp 37), a.eval (.tmp 38), a.eval (.tmp 39), a.eval (.tmp 40), a.eval (.tmp 41), a.eval (.tmp 42), a.eval (.tmp 43), a.eval (.tmp 44), a.eval (.tmp 45), a.eval (.tmp 46), a.eval (.tmp 47), a.eval (.tmp 48), a.eval (.tmp 49), a.eval (.tmp 50), a.eval (.tmp 51), a.eval (.tmp 52), a.eval (.tmp 53), a.eval (.tmp 54), a.eval (.tmp 55), a.eval (.tmp 56), a.eval (.tmp 57), a.eval (.tmp 58), a.eval (.tmp 59), a.eval (.tmp 60), a.eval (.tmp 61), a.eval (.tmp 62), a.eval (.tmp 63), a.eval (.tmp 64), a.eval (.tmp 65), a.eval (.tmp 66), a.eval (.tmp 67), a.eval (.tmp 68), a.eval (.tmp 69), a.eval (.tmp 70), a.eval (.tmp 71), a.eval (.tmp 72), a.eval (.tmp 73), a.eval (.tmp 74), a.eval (.tmp 75)], []⟩ := (act_lit a (n := 76) hsize).trans (by rw [hdef]; rfl)
    rw [q0, q1, q4, q5] at ha
    generalize a.eval (.tmp 2) = s2 at ha
    generalize a.eval (.tmp 3) = s3 at ha
    generalize a.eval (.tmp 6) = s6 at ha
    generalize a.eval (.tmp 7) = s7 at ha
    generalize a.eval (.tmp 8) = s8 at ha
    generalize a.eval (.tmp 9) = s9 at ha
    generalize a.eval (.tmp 10) = s10 at ha
    generalize a.eval (.tmp 11) = s11 at ha
    generalize a.eval (.tmp 12) = s12 at ha
    generalize a.eval (.tmp 13) = s13 at ha
    generalize a.eval (.tmp 14) = s14 at ha
    generalize a.eval (.tmp 15) = s15 at ha
    generalize a.eval (.tmp 16) = s16 at ha
    generalize a.eval (.tmp 17) = s17 at ha
    generalize a.eval (.tmp 18) = s18 at ha
    generalize a.eval (.tmp 19) = s19 at ha
    generalize a.eval (.tmp 20) = s20 at ha
    generalize a.eval (.tmp 21) = s21 at ha
    generalize a.eval (.tmp 22) = s22 at ha
    generalize a.eval (.tmp 23) = s23 at ha
    generalize a.eval (.tmp 24) = s24 at ha
    generalize a.eval (.tmp 25) = s25 at ha
    generalize a.eval (.tmp 26) = s26 at ha
    generalize a.eval (.tmp 27) = s27 at ha
    generalize a.eval (.tmp 28) = s28 at ha
    generalize a.eval (.tmp 29) = s29 at ha
    generalize a.eval (.tmp 30) = s30 at ha
    generalize a.eval (.tmp 31) = s31 at ha
    generalize a.eval (.tmp 32) = s32 at ha
    generalize a.eval (.tmp 33) = s33 at ha
    generalize a.eval (.tmp 34) = s34 at ha
    generalize a.eval (.tmp 35) = s35 at ha
    generalize a.eval (.tmp 36) = s36 at ha
    generalize a.eval (.tmp 37) = s37 at ha
    generalize a.eval (.tmp 38) = s38 at ha
    generalize a.eval (.tmp 39) = s39 at ha
    generalize a.eval (.tmp 40) = s40 at ha
    generalize a.eval (.tmp 41) = s41 at ha
    generalize a.eval (.tmp 42) = s42 at ha
    generalize a.eval (.tmp 43) = s43 at ha
    generalize a.eval (.tmp 44) = s44 at ha
    generalize a.eval (.tmp 45) = s45 at ha
    generalize a.eval (.tmp 46) = s46 at ha
    generalize a.eval (.tmp 47) = s47 at ha
    generalize a.eval (.tmp 48) = s48 at ha
    generalize a.eval (.tmp 49) = s49 at ha
    generalize a.eval (.tmp 50) = s50 at ha
    generalize a.eval (.tmp 51) = s51 at ha
    generalize a.eval (.tmp 52) = s52 at ha
    generalize a.eval (.tmp 53) = s53 at ha
    generalize a.eval (.tmp 54) = s54 at ha
    generalize a.eval (.tmp 55) = s55 at ha
    generalize a.eval (.tmp 56) = s56 at ha
    generalize a.eval (.tmp 57) = s57 at ha
    generalize a.eval (.tmp 58) = s58 at ha
    generalize a.eval (.tmp 59) = s59 at ha
    generalize a.eval (.tmp 60) = s60 at ha
    generalize a.eval (.tmp 61) = s61 at ha
    generalize a.eval (.tmp 62) = s62 at ha
    generalize a.eval (.tmp 63) = s63 at ha
    generalize a.eval (.tmp 64) = s64 at ha
    generalize a.eval (.tmp 65) = s65 at ha
    generalize a.eval (.tmp 66) = s66 at ha
    generalize a.eval (.tmp 67) = s67 at ha
    generalize a.eval (.tmp 68) = s68 at ha
    generalize a.eval (.tmp 69) = s69 at ha
    generalize a.eval (.tmp 70) = s70 at ha
    generalize a.eval (.tmp 71) = s71 at ha
    generalize a.eval (.tmp 72) = s72 at ha
    generalize a.eval (.tmp 73) = s73 at ha
    generalize a.eval (.tmp 74) = s74 at ha
    generalize a.eval (.tmp 75) = s75 at ha
    clear hdef hsize hF hv q0 q1 q4 q5
    subst ha
    have h40 : Rd w' b (m + 1010) := hG.rd.more (by omega)
    have hO4 := hG.only
    have hs4 := hG.src
    have hP4 := hG.2
    have hR4 := hR3.le hG.le
    clear hG hR3 hO3 h3 h30 hs3 hP0
    go_wp2_with fail
    refine wp_region_inv (pieceBV b c bb) (DP R b (m + 1010) 21 w w'.drew c bb) Le (by kernel_rfl) (by kernel_rfl) (by kernel_rfl) (pieceBV_le _ _ _) (⟨⟨⟨Rd.more h40 (by omega), Only.drew hO4, Le.refl _, hs4⟩, by omega⟩, hP4⟩) ⟨?o0, ?o1, ?o2, ?o3, ?o4, ?o5, ?o6, ?o7, ?o8, ?o9, ?o10, ?o11, ?o12, ?o13, ?o14, ?o15, ?o16, ?o17, ?o18, ?o19, ?o20, trivial⟩ ?hfin
    case o0 =>
      intro f a w K hF hA hsz hG hK
      rw [if_pos (by rfl)]
      have hsz : f + 1 ≤ 21 := hsz
      have hsz2 := hsz
      have e0 : a.tmps[0]?.getD undef = .pointer (some ⟨b, 0, none⟩) := slot_of (hF 0 (by kernel_rfl)) rfl
      clear hF hA
      unfold Oper.wp execOp
      go_simp
      exact hK _ _ (fun _ => rfl) (hG.keep) (Le.refl _)
    case o1 =>
      intro f a w K hF hA hsz hG hK
      rw [if_pos (by rfl)]
      have hsz : f + 1 ≤ 21 := hsz
      have hsz2 := hsz
      have e5 : a.tmps[5]?.getD undef = .pointer (some ⟨c, 0, none⟩) := slot_of (hF 5 (by kernel_rfl)) rfl
      clear hF hA
      unfold Oper.wp execOp
      go_simp
      exact hK _ _ (fun _ => rfl) (hG.keep) (Le.refl _)
    case o2 =>
      intro f a w K hF hA hsz hG hK
      rw [if_pos (by rfl)]
      have hsz : f + 1 ≤ 21 := hsz
      have hsz2 := hsz
      have p24 : pieceBV b c bb 1 (a.eval (.tmp 24)) w := hA ⟨1, .data⟩ (by simp) rfl _ rfl (by simp)
      have q24 : a.eval (.tmp 24) = _ := p24
      have e24 := slot_eq q24
      clear q24
      have hp := hG.2
      obtain ⟨s9, u9, hi⟩ := hp
      obtain ⟨c0, c1, c2⟩ := hi.cells3
      clear hF hA
      unfold Oper.wp execOp
      go_simp
      exact hK _ _ (fun _ => rfl) (hG.keep) (Le.refl _)
    case o3 =>
      intro f a w K hF hA hsz hG hK
      rw [if_pos (by rfl)]
      have hsz : f + 1 ≤ 21 := hsz
      have hsz2 := hsz
      have p25 : pieceBV b c bb 2 (a.eval (.tmp 25)) w := hA ⟨2, .data⟩ (by simp) rfl _ rfl (by simp)
      have q25 : a.eval (.tmp 25) = _ := p25
      have e25 := slot_eq q25
      clear q25
      clear hF hA
      unfold Oper.wp execOp
      go_simp
      exact hK _ _ (fun _ => ⟨_, rfl⟩) (hG.keep) (Le.refl _)
    case o4 =>
      intro f a w K hF hA hsz hG hK
      rw [if_pos (by rfl)]
      have hsz : f + 1 ≤ 21 := hsz
      have hsz2 := hsz
      have p26 : pieceBV b c bb 3 (a.eval (.tmp 26)) w := hA ⟨3, .data⟩ (by simp) rfl _ rfl (by simp)
      obtain ⟨i26, q26⟩ := p26
      have e26 := slot_eq q26
      clear q26
      clear hF hA
      unfold Oper.wp execOp
      go_simp
      exact hK _ _ (fun _ => ⟨_, rfl⟩) (hG.keep) (Le.refl _)
    case o5 =>
      intro f a w K hF hA hsz hG hK
      rw [if_pos (by rfl)]
      have hsz : f + 1 ≤ 21 := hsz
      have hsz2 := hsz
      have p27 : pieceBV b c bb 4 (a.eval (.tmp 27)) w := hA ⟨4, .data⟩ (by simp) rfl _ rfl (by simp)
      obtain ⟨i27, q27⟩ := p27
      have e27 := slot_eq q27
      clear q27
      clear hF hA
      unfold Oper.wp execOp
      go_simp
      exact hK _ _ (fun _ => ⟨_, rfl⟩) (hG.keep) (Le.refl _)
    case o6 =>
      intro f a w K hF hA hsz hG hK
      rw [if_pos (by rfl)]
      have hsz : f + 1 ≤ 21 := hsz
      have hsz2 := hsz
      have p23 : pieceBV b c bb 0 (a.eval (.tmp 23)) w := hA ⟨0, .data⟩ (by simp) rfl _ rfl (by simp)
      have q23 : a.eval (.tmp 23) = _ := p23
      have e23 := slot_eq q23
      have p28 : pieceBV b c bb 5 (a.eval (.tmp 28)) w := hA ⟨5, .data⟩ (by simp) rfl _ rfl (by simp)
      obtain ⟨i28, q28⟩ := p28
      have e28 := slot_eq q28
      clear q23 q28
      clear hF hA
      unfold Oper.wp execOp
      go_simp
      refine (pick_any _ _ _ _ (by omega) hG.rd).mono ?_
      rintro e w1 ⟨i, rfl, h0, h1, hR1, hO1⟩
      exact hK _ _ (fun _ => ⟨i, rfl, h0⟩) (hG.step hR1 (by omega) hO1) (Le.only hO1 hG.rd hR1)
    case o7 =>
      intro f a w K hF hA hsz hG hK
      rw [if_pos (by rfl)]
      have hsz : f + 1 ≤ 21 := hsz
      have hsz2 := hsz
      have e5 : a.tmps[5]?.getD undef = .pointer (some ⟨c, 0, none⟩) := slot_of (hF 5 (by kernel_rfl)) rfl
      clear hF hA
      unfold Oper.wp execOp
      go_simp
      exact hK _ _ (fun _ => rfl) (hG.keep) (Le.refl _)
    case o8 =>
      intro f a w K hF hA hsz hG hK
      rw [if_pos (by rfl)]
      have hsz : f + 1 ≤ 21 := hsz
      have hsz2 := hsz
      have p30 : pieceBV b c bb 7 (a.eval (.tmp 30)) w := hA ⟨7, .data⟩ (by simp) rfl _ rfl (by simp)
      have q30 : a.eval (.tmp 30) = _ := p30
      have e30 := slot_eq q30
      clear q30
      have hp := hG.2
      obtain ⟨s9, u9, hi⟩ := hp
      obtain ⟨c0, c1, c2⟩ := hi.cells3
      clear hF hA
      unfold Oper.wp execOp
      go_simp
      exact hK _ _ (fun _ => rfl) (hG.keep) (Le.refl _)
    case o9 =>
      intro f a w K hF hA hsz hG hK
      rw [if_pos (by rfl)]
      have hsz : f + 1 ≤ 21 := hsz
      have hsz2 := hsz
      have p31 : pieceBV b c bb 8 (a.eval (.tmp 31)) w := hA ⟨8, .data⟩ (by simp) rfl _ rfl (by simp)
      have q31 : a.eval (.tmp 31) = _ := p31
      have e31 := slot_eq q31
      clear q31
      clear hF hA
      unfold Oper.wp execOp
      go_simp
      exact hK _ _ (fun _ => ⟨_, rfl⟩) (hG.keep) (Le.refl _)
    case o10 =>
      intro f a w K hF hA hsz hG hK
      rw [if_pos (by rfl)]
      have hsz : f + 1 ≤ 21 := hsz
      have hsz2 := hsz
      have e5 : a.tmps[5]?.getD undef = .pointer (some ⟨c, 0, none⟩) := slot_of (hF 5 (by kernel_rfl)) rfl
      clear hF hA
      unfold Oper.wp execOp
      go_simp
      exact hK _ _ (fun _ => rfl) (hG.keep) (Le.refl _)
    case o11 =>
      intro f a w K hF hA hsz hG hK
      rw [if_pos (by rfl)]
      have hsz : f + 1 ≤ 21 := hsz
      have hsz2 := hsz
      have p33 : pieceBV b c bb 10 (a.eval (.tmp 33)) w := hA ⟨10, .data⟩ (by simp) rfl _ rfl (by simp)
      have q33 : a.eval (.tmp 33) = _ := p33
      have e33 := slot_eq q33
      clear q33
      have hp := hG.2
      obtain ⟨s9, u9, hi⟩ := hp
      obtain ⟨c0, c1, c2⟩ := hi.cells3
      clear hF hA
      unfold Oper.wp execOp
      go_simp
      exact hK _ _ (fun _ => rfl) (hG.keep) (Le.refl _)
    case o12 =>
      intro f a w K hF hA hsz hG hK
      rw [if_pos (by rfl)]
      have hsz : f + 1 ≤ 21 := hsz
      have hsz2 := hsz
      have p34 : pieceBV b c bb 11 (a.eval (.tmp 34)) w := hA ⟨11, .data⟩ (by simp) rfl _ rfl (by simp)
      have q34 : a.eval (.tmp 34) = _ := p34
      have e34 := slot_eq q34
      clear q34
      clear hF hA
      unfold Oper.wp execOp
      go_simp
      exact hK _ _ (fun _ => ⟨_, rfl⟩) (hG.keep) (Le.refl _)
    case o13 =>
      intro f a w K hF hA hsz hG hK
      rw [if_pos (by rfl)]
      have hsz : f + 1 ≤ 21 := hsz
      have hsz2 := hsz
      have p35 : pieceBV b c bb 12 (a.eval (.tmp 35)) w := hA ⟨12, .data⟩ (by simp) rfl _ rfl (by simp)
      obtain ⟨i35, q35⟩ := p35
      have e35 := slot_eq q35
      clear q35
      clear hF hA
      unfold Oper.wp execOp
      go_simp
      exact hK _ _ (fun _ => ⟨_, rfl⟩) (hG.keep) (Le.refl _)
    case o14 =>
      intro f a w K hF hA hsz hG hK
      rw [if_pos (by rfl)]
      have hsz : f + 1 ≤ 21 := hsz
      have hsz2 := hsz
      have p29 : pieceBV b c bb 6 (a.eval (.tmp 29)) w := hA ⟨6, .data⟩ (by simp) rfl _ rfl (by simp)
      obtain ⟨i29, q29, hl29⟩ := p29
      have e29 := slot_eq q29
      have p32 : pieceBV b c bb 9 (a.eval (.tmp 32)) w := hA ⟨9, .data⟩ (by simp) rfl _ rfl (by simp)
      obtain ⟨i32, q32⟩ := p32
      have e32 := slot_eq q32
      have p36 : pieceBV b c bb 13 (a.eval (.tmp 36)) w := hA ⟨13, .data⟩ (by simp) rfl _ rfl (by simp)
      obtain ⟨i36, q36⟩ := p36
      have e36 := slot_eq q36
      clear q29 q32 q36
      clear hF hA
      unfold Oper.wp execOp
      go_simp
      exact hK _ _ (fun _ => ⟨_, _, rfl, IntsAt.new w [_, _, _, _], rfl⟩) (hG.alloc _) (Le.alloc _ _)
    case o15 =>
      intro f a w K hF hA hsz hG hK
      rw [if_pos (by rfl)]
      have hsz : f + 1 ≤ 21 := hsz
      have hsz2 := hsz
      have e0 : a.tmps[0]?.getD undef = .pointer (some ⟨b, 0, none⟩) := slot_of (hF 0 (by kernel_rfl)) rfl
      clear hF hA
      unfold Oper.wp execOp
      go_simp
      exact hK _ _ (fun _ => rfl) (hG.keep) (Le.refl _)
    case o16 =>
      intro f a w K hF hA hsz hG hK
      rw [if_pos (by rfl)]
      have hsz : f + 1 ≤ 21 := hsz
      have hsz2 := hsz
      have p38 : pieceBV b c bb 15 (a.eval (.tmp 38)) w := hA ⟨15, .data⟩ (by simp) rfl _ rfl (by simp)
      have q38 : a.eval (.tmp 38) = _ := p38
      have e38 := slot_eq q38
      clear q38
      clear hF hA
      unfold Oper.wp execOp
      go_simp
      refine (pick_any _ _ _ _ (by omega) hG.rd).mono ?_
      rintro e w1 ⟨i, rfl, h0, h1, hR1, hO1⟩
      exact hK _ _ (fun _ => ⟨i, rfl, h0, h1 (by omega)⟩) (hG.step hR1 (by omega) hO1) (Le.only hO1 hG.rd hR1)
    case o17 =>
      intro f a w K hF hA hsz hG hK
      rw [if_pos (by rfl)]
      have hsz : f + 1 ≤ 21 := hsz
      have hsz2 := hsz
      have p37 : pieceBV b c bb 14 (a.eval (.tmp 37)) w := hA ⟨14, .data⟩ (by simp) rfl _ rfl (by simp)
      obtain ⟨g37, xs37, q37, hx37, hn37⟩ := p37
      have e37 := slot_eq q37
      have p39 : pieceBV b c bb 16 (a.eval (.tmp 39)) w := hA ⟨16, .data⟩ (by simp) rfl _ rfl (by simp)
      obtain ⟨i39, q39, hl39, hh39⟩ := p39
      have e39 := slot_eq q39
      clear q37 q39
      clear hF hA
      unfold Oper.wp execOp
      go_simp
      exact hK _ _ (fun _ => ⟨g37, (i39).toNat, _, rfl, hx37, by omega⟩) (hG.keep) (Le.refl _)
    case o18 =>
      intro f a w K hF hA hsz hG hK
      rw [if_pos (by rfl)]
      have hsz : f + 1 ≤ 21 := hsz
      have hsz2 := hsz
      have p40 : pieceBV b c bb 17 (a.eval (.tmp 40)) w := hA ⟨17, .data⟩ (by simp) rfl _ rfl (by simp)
      obtain ⟨g40, j40, xs40, q40, hx40, hj40⟩ := p40
      have e40 := slot_eq q40
      clear q40
      have cc := hx40.cell hj40
      clear hF hA
      unfold Oper.wp execOp
      go_simp
      exact hK _ _ (fun _ => ⟨_, rfl⟩) (hG.keep) (Le.refl _)
    case o19 =>
      intro f a w K hF hA hsz hG hK
      rw [if_pos (by rfl)]
      have hsz : f + 1 ≤ 21 := hsz
      have hsz2 := hsz
      have e5 : a.tmps[5]?.getD undef = .pointer (some ⟨c, 0, none⟩) := slot_of (hF 5 (by kernel_rfl)) rfl
      clear hF hA
      unfold Oper.wp execOp
      go_simp
      exact hK _ _ (fun _ => rfl) (hG.keep) (Le.refl _)
    case o20 =>
      intro f a w K hF hA hsz hG hK
      rw [if_pos (by rfl)]
      have hsz : f + 1 ≤ 21 := hsz
      have hsz2 := hsz
      have p42 : pieceBV b c bb 19 (a.eval (.tmp 42)) w := hA ⟨19, .data⟩ (by simp) rfl _ rfl (by simp)
      have q42 : a.eval (.tmp 42) = _ := p42
      have e42 := slot_eq q42
      have p41 : pieceBV b c bb 18 (a.eval (.tmp 41)) w := hA ⟨18, .data⟩ (by simp) rfl _ rfl (by simp)
      obtain ⟨i41, q41⟩ := p41
      have e41 := slot_eq q41
      clear q42 q41
      have hp := hG.2
      obtain ⟨s9, u9, hi⟩ := hp
      obtain ⟨c0, c1, c2⟩ := hi.cells3
      have f0 := hi.free
      clear hF hA
      unfold Oper.wp execOp
      go_simp
      exact hK undef _ (fun h => (h rfl).elim) (hG.keep.set2 (by omega) (by omega) (by omega) _) (hG.leSet 2 _)
    case hfin =>
      intro f a w' hdef hsize hF hv hG
      have q0 : a.eval (.tmp 0) = .pointer (some ⟨b, 0, none⟩) := (hF 0 (by kernel_rfl)).trans rfl
      have q1 : a.eval (.tmp 1) = .int .i64 n := (hF 1 (by kernel_rfl)).trans rfl
      have q4 : a.eval (.tmp 4) = .pointer (some ⟨R, 0, none⟩) := (hF 4 (by kernel_rfl)).trans rfl
      have q5 : a.eval (.tmp 5) = .pointer (some ⟨c, 0, none⟩) := (hF 5 (by kernel_rfl)).trans rfl
      have ha : a = ⟨#[a.eval (.tmp 0), a.eval (.tmp 1), a.eval (.tmp 2), a.eval (.tmp 3), a.eval (.tmp 4), a.eval (.tmp 5), a.eval (.tmp 6), a.eval (.tmp 7), a.eval (.tmp 8), a.eval (.tmp 9), a.eval (.tmp 10), a.eval (.tmp 11), a.eval (.tmp 12), a.eval (.tmp 13), a.eval (.tmp 14), a.eval (.tmp 15), a.eval (.tmp 16), a.eval (.tmp 17), a.eval (.tmp 18), a.eval (.tmp 19), a.eval (.tmp 20), a.eval (.tmp 21), a.eval (.tmp 22), a.eval (.tmp 23), a.eval (.tmp 24), a.eval (.tmp 25), a.eval (.tmp 26), a.eval (.tmp 27), a.eval (.tmp 28), a.eval (.tmp 29), a.eval (.tmp 30), a.eval (.tmp 31), a.eval (.tmp 32), a.eval (.tmp 33), a.eval (.tmp 34), a.eval (.tmp 35), a.eval (.tmp 36), a.eval (.tmp 37), a.eval (.tmp 38), a.eval (.tmp 39), a.eval (.tmp 40), a.eval (.tmp 41), a.eval (.tmp 42), a.eval (.tmp 43), a.eval (.tmp 44), a.eval (.tmp 45), a.eval (.tmp 46), a.eval (.tmp 47), a.eval (.tmp 48), a.eval (.tmp 49), a.eval (.tmp 50), a.eval (.tmp 51), a.eval (.tmp 52), a.eval (.tmp 53), a.eval (.tmp 54), a.eval (.tmp 55), a.eval (.tmp 56), a.eval (.tmp 57), a.eval (.tmp 58), a.eval (.tmp 59), a.eval (.tmp 60), a.eval (.tmp 61), a.eval (.tmp 62), a.eval (.tmp 63), a.eval (.tmp 64), a.eval (.tmp 65), a.eval (.tmp 66), a.eval (.tmp 67), a.eval (.tmp 68), a.eval (.tmp 69), a.eval (.tmp 70), a.eval (.tmp 71), a.eval (.tmp 72), a.eval (.tmp 73), a.eval (.tmp 74), a.eval (.tmp 75)], []⟩ := (act_lit a (n := 76) hsize).trans (by rw [hdef]; rfl)
      rw [q0, q1, q4, q5] at ha
      generalize a.eval (.tmp 2) = s2 at ha
      generalize a.eval (.tmp 3) = s3 at ha
      generalize a.eval (.tmp 6) = s6 at ha
      generalize a.eval (.tmp 7) = s7 at ha
      generalize a.eval (.tmp 8) = s8 at ha
      generalize a.eval (.tmp 9) = s9 at ha
      generalize a.eval (.tmp 10) = s10 at ha
      generalize a.eval (.tmp 11) = s11 at ha
      generalize a.eval (.tmp 12) = s12 at ha
      generalize a.eval (.tmp 13) = s13 at ha
      generalize a.eval (.tmp 14) = s14 at ha
      generalize a.eval (.tmp 15) = s15 at ha
      generalize a.eval (.tmp 16) = s16 at ha
      generalize a.eval (.tmp 17) = s17 at ha
      generalize a.eval (.tmp 18) = s18 at ha
      generalize a.eval (.tmp 19) = s19 at ha
      generalize a.eval (.tmp 20) = s20 at ha
      generalize a.eval (.tmp 21) = s21 at ha
      generalize a.eval (.tmp 22) = s22 at ha
      generalize a.eval (.tmp 23) = s23 at ha
      generalize a.eval (.tmp 24) = s24 at ha
      generalize a.eval (.tmp 25) = s25 at ha
      generalize a.eval (.tmp 26) = s26 at ha
      generalize a.eval (.tmp 27) = s27 at ha
      generalize a.eval (.tmp 28) = s28 at ha
      generalize a.eval (.tmp 29) = s29 at ha
      generalize a.eval (.tmp 30) = s30 at ha
      generalize a.eval (.tmp 31) = s31 at ha
      generalize a.eval (.tmp 32) = s32 at ha
      generalize a.eval (.tmp 33) = s33 at ha
      generalize a.eval (.tmp 34) = s34 at ha
      generalize a.eval (.tmp 35) = s35 at ha
      generalize a.eval (.tmp 36) = s36 at ha
      generalize a.eval (.tmp 37) = s37 at ha
      generalize a.eval (.tmp 38) = s38 at ha
      generalize a.eval (.tmp 39) = s39 at ha
      generalize a.eval (.tmp 40) = s40 at ha
      generalize a.eval (.tmp 41) = s41 at ha
      generalize a.eval (.tmp 42) = s42 at ha
      generalize a.eval (.tmp 43) = s43 at ha
      generalize a.eval (.tmp 44) = s44 at ha
      generalize a.eval (.tmp 45) = s45 at ha
      generalize a.eval (.tmp 46) = s46 at ha
      generalize a.eval (.tmp 47) = s47 at ha
      generalize a.eval (.tmp 48) = s48 at ha
      generalize a.eval (.tmp 49) = s49 at ha
      generalize a.eval (.tmp 50) = s50 at ha
      generalize a.eval (.tmp 51) = s51 at ha
      generalize a.eval (.tmp 52) = s52 at ha
      generalize a.eval (.tmp 53) = s53 at ha
      generalize a.eval (.tmp 54) = s54 at ha
      generalize a.eval (.tmp 55) = s55 at ha
      generalize a.eval (.tmp 56) = s56 at ha
      generalize a.eval (.tmp 57) = s57 at ha
      generalize a.eval (.tmp 58) = s58 at ha
      generalize a.eval (.tmp 59) = s59 at ha
      generalize a.eval (.tmp 60) = s60 at ha
      generalize a.eval (.tmp 61) = s61 at ha
      generalize a.eval (.tmp 62) = s62 at ha
      generalize a.eval (.tmp 63) = s63 at ha
      generalize a.eval (.tmp 64) = s64 at ha
      generalize a.eval (.tmp 65) = s65 at ha
      generalize a.eval (.tmp 66) = s66 at ha
      generalize a.eval (.tmp 67) = s67 at ha
      generalize a.eval (.tmp 68) = s68 at ha
      generalize a.eval (.tmp 69) = s69 at ha
      generalize a.eval (.tmp 70) = s70 at ha
      generalize a.eval (.tmp 71) = s71 at ha
      generalize a.eval (.tmp 72) = s72 at ha
      generalize a.eval (.tmp 73) = s73 at ha
      generalize a.eval (.tmp 74) = s74 at ha
      generalize a.eval (.tmp 75) = s75 at ha
      clear hdef hsize hF hv q0 q1 q4 q5
      subst ha
      have h50 : Rd w' b (m + 3110) := hG.rd.more (by omega)
      have hO5 := hG.only
      have hs5 := hG.src
      have hP5 := hG.2
      have hR5 := hR4.le hG.le
      clear hG hR4 hO4 h40 hs4 hP4
      go_wp2_with fail
      refine (odd_any _ _ _ _ (by omega) h50 hn).mono ?_
      rintro e w6 ⟨t, rfl, h6, o6⟩
      have hP6 := hP5.only o6 (by omega)
      have hR6 := hR5.only o6 (by omega)
      have hO6 := hO5.trans o6
      have hs6 := hs5.only o6
      clear h50 o6 hP5 hR5 hO5 hs5
      cases t
      · obtain ⟨s9, u9, hi9⟩ := hP6
        obtain ⟨c0, c1, c2⟩ := hi9.cells3
        have f0 := hi9.free
        have lc := hi9.lt
        obtain ⟨r0, d0⟩ := hR6.cell (i := 0) (by omega)
        obtain ⟨r1, d1⟩ := hR6.cell (i := 1) (by omega)
        obtain ⟨r2, d2⟩ := hR6.cell (i := 2) (by omega)
        have f1 := fun i => VarAt.free (i := i) hR6
        go_wp2_with fail
        refine bodyPost_ret (v := .agg #[.int .i64 (s9), .int .i64 (bb), .int .i64 (u9)]) (by simp [results, Try.results44, go_sem, d0, d1, d2]) rfl ⟨_, _, _, rfl, ?_, ?_, ?_⟩
        · exact Rd.more (Rd.setFar (Rd.setFar (Rd.setFar h6 hs6 (by omega) (by omega) _) (Src.setOther hs6 (by omega) _) (by omega) (by omega) _) (Src.setOther (Src.setOther hs6 (by omega) _) (by omega) _) (by omega) (by omega) _) (by omega)
        · exact (Only.setNew (Only.setNew (Only.setNew hO6 (by omega) _) (by omega) _) (by omega) _)
        · rw [HR.out]
          exact (Src.setOther (Src.setOther (Src.setOther hs6 (by omega) _) (by omega) _) (by omega) _)
      · go_wp2_with fail
        refine (pick_any _ _ _ _ (by omega) h6).mono ?_
        rintro e w7 ⟨k7, rfl, a7, b7, h7, o7⟩
        have b7' := b7 (by omega)
        have hP7 := hP6.only o7 (by omega)
        have hR7 := hR6.only o7 (by omega)
        have hO7 := hO6.trans o7
        have hs7 := hs6.only o7
        clear b7 h6 o7 hP6 hR6 hO6 hs6
        have hk7 : k7 = 0 ∨ k7 = 1 ∨ k7 = 2 ∨ k7 = 3 := by omega
        clear a7 b7'
        rcases hk7 with rfl | rfl | rfl | rfl
        · go_wp2_with fail
          refine (pick_any _ _ _ _ (by omega) (h7.alloc _)).mono ?_
          rintro e w8 ⟨k8, rfl, a8, b8, h8, o8⟩
          have b8' := b8 (by omega)
          have l7 := h7.lt
          have hA := (IntsAt.new w7 [-1, 17]).only o8 (by omega)
          have hc8 : w8.cell? ⟨w7.heap.size, k8.toNat, none⟩ = some (.int .i64 ([-1, 17][k8.toNat]'(by simp; omega))) := hA.cell (by simp; omega)
          generalize [-1, 17][k8.toNat]'(by simp; omega) = y8 at *
          have hP8 := hP7.only (((Only.refl b w7).alloc (.cells #[.int .i64 (-1), .int .i64 17] 3)).trans o8) (by omega)
          have hR8 := (hR7.alloc (.cells #[.int .i64 (-1), .int .i64 17] 3)).only o8 (by omega)
          have hO8 := (hO7.alloc (.cells #[.int .i64 (-1), .int .i64 17] 3)).trans o8
          have hs8 := hs7.only (((Only.refl b w7).alloc (.cells #[.int .i64 (-1), .int .i64 17] 3)).trans o8)
          clear b8 hA h7 hP7 hR7 hO7 hs7 o8
          obtain ⟨s9, u9, hi9⟩ := hP8
          obtain ⟨c0, c1, c2⟩ := hi9.cells3
          have f0 := hi9.free
          have lc := hi9.lt
          obtain ⟨r0, d0⟩ := hR8.cell (i := 0) (by omega)
          obtain ⟨r1, d1⟩ := hR8.cell (i := 1) (by omega)
          obtain ⟨r2, d2⟩ := hR8.cell (i := 2) (by omega)
          have f1 := fun i => VarAt.free (i := i) hR8
          go_wp2_with fail
          refine bodyPost_ret (v := .agg #[.int .i64 (s9), .int .i64 (y8), .int .i64 (u9)]) (by simp [results, Try.results44, go_sem, d0, d1, d2]) rfl ⟨_, _, _, rfl, ?_, ?_, ?_⟩
          · exact Rd.more (Rd.setFar (Rd.setFar (Rd.setFar (Rd.setFar h8 hs8 (by omega) (by omega) _) (Src.setOther hs8 (by omega) _) (by omega) (by omega) _) (Src.setOther (Src.setOther hs8 (by omega) _) (by omega) _) (by omega) (by omega) _) (Src.setOther (Src.setOther (Src.setOther hs8 (by omega) _) (by omega) _) (by omega) _) (by omega) (by omega) _) (by omega)
          · exact (Only.setNew (Only.setNew (Only.setNew (Only.setNew hO8 (by omega) _) (by omega) _) (by omega) _) (by omega) _)
          · rw [HR.out]
            exact (Src.setOther (Src.setOther (Src.setOther (Src.setOther hs8 (by omega) _) (by omega) _) (by omega) _) (by omega) _)
        · obtain ⟨s9, u9, hi9⟩ := hP7
          obtain ⟨c0, c1, c2⟩ := hi9.cells3
          have f0 := hi9.free
          have lc := hi9.lt
          obtain ⟨r0, d0⟩ := hR7.cell (i := 0) (by omega)
          obtain ⟨r1, d1⟩ := hR7.cell (i := 1) (by omega)
          obtain ⟨r2, d2⟩ := hR7.cell (i := 2) (by omega)
          have f1 := fun i => VarAt.free (i := i) hR7
          go_wp2_with fail
          refine bodyPost_ret (v := .agg #[.int .i64 (wrap64 (s9 + 1)), .int .i64 (bb), .int .i64 (u9)]) (by simp [results, Try.results44, go_sem, d0, d1, d2]) rfl ⟨_, _, _, rfl, ?_, ?_, ?_⟩
          · exact Rd.more (Rd.setFar (Rd.setFar (Rd.setFar (Rd.setFar h7 hs7 (by omega) (by omega) _) (Src.setOther hs7 (by omega) _) (by omega) (by omega) _) (Src.setOther (Src.setOther hs7 (by omega) _) (by omega) _) (by omega) (by omega) _) (Src.setOther (Src.setOther (Src.setOther hs7 (by omega) _) (by omega) _) (by omega) _) (by omega) (by omega) _) (by omega)
          · exact (Only.setNew (Only.setNew (Only.setNew (Only.setNew hO7 (by omega) _) (by omega) _) (by omega) _) (by omega) _)
          · rw [HR.out]
            exact (Src.setOther (Src.setOther (Src.setOther (Src.setOther hs7 (by omega) _) (by omega) _) (by omega) _) (by omega) _)
        · obtain ⟨s9, u9, hi9⟩ := hP7
          obtain ⟨c0, c1, c2⟩ := hi9.cells3
          have f0 := hi9.free
          have lc := hi9.lt
          obtain ⟨r0, d0⟩ := hR7.cell (i := 0) (by omega)
          obtain ⟨r1, d1⟩ := hR7.cell (i := 1) (by omega)
          obtain ⟨r2, d2⟩ := hR7.cell (i := 2) (by omega)
          have f1 := fun i => VarAt.free (i := i) hR7
          go_wp2_with fail
          refine bodyPost_ret (v := .agg #[.int .i64 (65536), .int .i64 (bb), .int .i64 (u9)]) (by simp [results, Try.results44, go_sem, d0, d1, d2]) rfl ⟨_, _, _, rfl, ?_, ?_, ?_⟩
          · exact Rd.more (Rd.setFar (Rd.setFar (Rd.setFar (Rd.setFar h7 hs7 (by omega) (by omega) _) (Src.setOther hs7 (by omega) _) (by omega) (by omega) _) (Src.setOther (Src.setOther hs7 (by omega) _) (by omega) _) (by omega) (by omega) _) (Src.setOther (Src.setOther (Src.setOther hs7 (by omega) _) (by omega) _) (by omega) _) (by omega) (by omega) _) (by omega)
          · exact (Only.setNew (Only.setNew (Only.setNew (Only.setNew hO7 (by omega) _) (by omega) _) (by omega) _) (by omega) _)
          · rw [HR.out]
            exact (Src.setOther (Src.setOther (Src.setOther (Src.setOther hs7 (by omega) _) (by omega) _) (by omega) _) (by omega) _)
        · go_wp2_with fail
          refine wp_region_inv (pieceCV b c bb) (DP R b (m + 3112) 11 w w7.drew c bb) Le (by kernel_rfl) (by kernel_rfl) (by kernel_rfl) (pieceCV_le _ _ _) (⟨⟨⟨Rd.more h7 (by omega), Only.drew hO7, Le.refl _, hs7⟩, by omega⟩, hP7⟩) ⟨?o0, ?o1, ?o2, ?o3, ?o4, ?o5, ?o6, ?o7, ?o8, ?o9, ?o10, trivial⟩ ?hfin
          case o0 =>
            intro f a w K hF hA hsz hG hK
            rw [if_pos (by rfl)]
            have hsz : f + 1 ≤ 11 := hsz
            have hsz2 := hsz
            have e5 : a.tmps[5]?.getD undef = .pointer (some ⟨c, 0, none⟩) := slot_of (hF 5 (by kernel_rfl)) rfl
            clear hF hA
            unfold Oper.wp execOp
            go_simp
            exact hK _ _ (fun _ => rfl) (hG.keep) (Le.refl _)
          case o1 =>
            intro f a w K hF hA hsz hG hK
            rw [if_pos (by rfl)]
            have hsz : f + 1 ≤ 11 := hsz
            have hsz2 := hsz
            have p48 : pieceCV b c bb 0 (a.eval (.tmp 48)) w := hA ⟨0, .data⟩ (by simp) rfl _ rfl (by simp)
            have q48 : a.eval (.tmp 48) = _ := p48
            have e48 := slot_eq q48
            clear q48
            have hp := hG.2
            obtain ⟨s9, u9, hi⟩ := hp
            obtain ⟨c0, c1, c2⟩ := hi.cells3
            clear hF hA
            unfold Oper.wp execOp
            go_simp
            exact hK _ _ (fun _ => rfl) (hG.keep) (Le.refl _)
          case o2 =>
            intro f a w K hF hA hsz hG hK
            rw [if_pos (by rfl)]
            have hsz : f + 1 ≤ 11 := hsz
            have hsz2 := hsz
            have p49 : pieceCV b c bb 1 (a.eval (.tmp 49)) w := hA ⟨1, .data⟩ (by simp) rfl _ rfl (by simp)
            have q49 : a.eval (.tmp 49) = _ := p49
            have e49 := slot_eq q49
            clear q49
            clear hF hA
            unfold Oper.wp execOp
            go_simp
            exact hK _ _ (fun _ => ⟨_, rfl⟩) (hG.keep) (Le.refl _)
          case o3 =>
            intro f a w K hF hA hsz hG hK
            rw [if_pos (by rfl)]
            have hsz : f + 1 ≤ 11 := hsz
            have hsz2 := hsz
            have p50 : pieceCV b c bb 2 (a.eval (.tmp 50)) w := hA ⟨2, .data⟩ (by simp) rfl _ rfl (by simp)
            obtain ⟨i50, q50⟩ := p50
            have e50 := slot_eq q50
            clear q50
            clear hF hA
            unfold Oper.wp execOp
            go_simp
            exact hK _ _ (fun _ => ⟨_, rfl⟩) (hG.keep) (Le.refl _)
          case o4 =>
            intro f a w K hF hA hsz hG hK
            rw [if_pos (by rfl)]
            have hsz : f + 1 ≤ 11 := hsz
            have hsz2 := hsz
            have p51 : pieceCV b c bb 3 (a.eval (.tmp 51)) w := hA ⟨3, .data⟩ (by simp) rfl _ rfl (by simp)
            obtain ⟨i51, q51⟩ := p51
            have e51 := slot_eq q51
            clear q51
            clear hF hA
            unfold Oper.wp execOp
            go_simp
            exact hK _ _ (fun _ => ⟨_, _, rfl, IntsAt.new w [_, _], rfl⟩) (hG.alloc _) (Le.alloc _ _)
          case o5 =>
            intro f a w K hF hA hsz hG hK
            rw [if_pos (by rfl)]
            have hsz : f + 1 ≤ 11 := hsz
            have hsz2 := hsz
            have e0 : a.tmps[0]?.getD undef = .pointer (some ⟨b, 0, none⟩) := slot_of (hF 0 (by kernel_rfl)) rfl
            clear hF hA
            unfold Oper.wp execOp
            go_simp
            exact hK _ _ (fun _ => rfl) (hG.keep) (Le.refl _)
          case o6 =>
            intro f a w K hF hA hsz hG hK
            rw [if_pos (by rfl)]
            have hsz : f + 1 ≤ 11 := hsz
            have hsz2 := hsz
            have p53 : pieceCV b c bb 5 (a.eval (.tmp 53)) w := hA ⟨5, .data⟩ (by simp) rfl _ rfl (by simp)
            have q53 : a.eval (.tmp 53) = _ := p53
            have e53 := slot_eq q53
            clear q53
            clear hF hA
            unfold Oper.wp execOp
            go_simp
            refine (pick_any _ _ _ _ (by omega) hG.rd).mono ?_
            rintro e w1 ⟨i, rfl, h0, h1, hR1, hO1⟩
            exact hK _ _ (fun _ => ⟨i, rfl, h0, h1 (by omega)⟩) (hG.step hR1 (by omega) hO1) (Le.only hO1 hG.rd hR1)
          case o7 =>
            intro f a w K hF hA hsz hG hK
            rw [if_pos (by rfl)]
            have hsz : f + 1 ≤ 11 := hsz
            have hsz2 := hsz
            have p52 : pieceCV b c bb 4 (a.eval (.tmp 52)) w := hA ⟨4, .data⟩ (by simp) rfl _ rfl (by simp)
            obtain ⟨g52, xs52, q52, hx52, hn52⟩ := p52
            have e52 := slot_eq q52
            have p54 : pieceCV b c bb 6 (a.eval (.tmp 54)) w := hA ⟨6, .data⟩ (by simp) rfl _ rfl (by simp)
            obtain ⟨i54, q54, hl54, hh54⟩ := p54
            have e54 := slot_eq q54
            clear q52 q54
            clear hF hA
            unfold Oper.wp execOp
            go_simp
            exact hK _ _ (fun _ => ⟨g52, (i54).toNat, _, rfl, hx52, by omega⟩) (hG.keep) (Le.refl _)
          case o8 =>
            intro f a w K hF hA hsz hG hK
            rw [if_pos (by rfl)]
            have hsz : f + 1 ≤ 11 := hsz
            have hsz2 := hsz
            have p55 : pieceCV b c bb 7 (a.eval (.tmp 55)) w := hA ⟨7, .data⟩ (by simp) rfl _ rfl (by simp)
            obtain ⟨g55, j55, xs55, q55, hx55, hj55⟩ := p55
            have e55 := slot_eq q55
            clear q55
            have cc := hx55.cell hj55
            clear hF hA
            unfold Oper.wp execOp
            go_simp
            exact hK _ _ (fun _ => ⟨_, rfl⟩) (hG.keep) (Le.refl _)
          case o9 =>
            intro f a w K hF hA hsz hG hK
            rw [if_pos (by rfl)]
            have hsz : f + 1 ≤ 11 := hsz
            have hsz2 := hsz
            have e5 : a.tmps[5]?.getD undef = .pointer (some ⟨c, 0, none⟩) := slot_of (hF 5 (by kernel_rfl)) rfl
            clear hF hA
            unfold Oper.wp execOp
            go_simp
            exact hK _ _ (fun _ => rfl) (hG.keep) (Le.refl _)
          case o10 =>
            intro f a w K hF hA hsz hG hK
            rw [if_pos (by rfl)]
            have hsz : f + 1 ≤ 11 := hsz
            have hsz2 := hsz
            have p57 : pieceCV b c bb 9 (a.eval (.tmp 57)) w := hA ⟨9, .data⟩ (by simp) rfl _ rfl (by simp)
            have q57 : a.eval (.tmp 57) = _ := p57
            have e57 := slot_eq q57
            have p56 : pieceCV b c bb 8 (a.eval (.tmp 56)) w := hA ⟨8, .data⟩ (by simp) rfl _ rfl (by simp)
            obtain ⟨i56, q56⟩ := p56
            have e56 := slot_eq q56
            clear q57 q56
            have hp := hG.2
            obtain ⟨s9, u9, hi⟩ := hp
            obtain ⟨c0, c1, c2⟩ := hi.cells3
            have f0 := hi.free
            clear hF hA
            unfold Oper.wp execOp
            go_simp
            exact hK undef _ (fun h => (h rfl).elim) (hG.keep.set2 (by omega) (by omega) (by omega) _) (hG.leSet 2 _)
          case hfin =>
            intro f a w' hdef hsize hF hv hG
            have q0 : a.eval (.tmp 0) = .pointer (some ⟨b, 0, none⟩) := (hF 0 (by kernel_rfl)).trans rfl
            have q1 : a.eval (.tmp 1) = .int .i64 n := (hF 1 (by kernel_rfl)).trans rfl
            have q4 : a.eval (.tmp 4) = .pointer (some ⟨R, 0, none⟩) := (hF 4 (by kernel_rfl)).trans rfl
            have q5 : a.eval (.tmp 5) = .pointer (some ⟨c, 0, none⟩) := (hF 5 (by kernel_rfl)).trans rfl
            have ha : a = ⟨#[a.eval (.tmp 0), a.eval (.tmp 1), a.eval (.tmp 2), a.eval (.tmp 3), a.eval (.tmp 4), a.eval (.tmp 5), a.eval (.tmp 6), a.eval (.tmp 7), a.eval (.tmp 8), a.eval (.tmp 9), a.eval (.tmp 10), a.eval (.tmp 11), a.eval (.tmp 12), a.eval (.tmp 13), a.eval (.tmp 14), a.eval (.tmp 15), a.eval (.tmp 16), a.eval (.tmp 17), a.eval (.tmp 18), a.eval (.tmp 19), a.eval (.tmp 20), a.eval (.tmp 21), a.eval (.tmp 22), a.eval (.tmp 23), a.eval (.tmp 24), a.eval (.tmp 25), a.eval (.tmp 26), a.eval (.tmp 27), a.eval (.tmp 28), a.eval (.tmp 29), a.eval (.tmp 30), a.eval (.tmp 31), a.eval (.tmp 32), a.eval (.tmp 33), a.eval (.tmp 34), a.eval (.tmp 35), a.eval (.tmp 36), a.eval (.tmp 37), a.eval (.tmp 38), a.eval (.tmp 39), a.eval (.tmp 40), a.eval (.tmp 41), a.eval (.tmp 42), a.eval (.tmp 43), a.eval (.tmp 44), a.eval (.tmp 45), a.eval (.tmp 46), a.eval (.tmp 47), a.eval (.tmp 48), a.eval (.tmp 49), a.eval (.tmp 50), a.eval (.tmp 51), a.eval (.tmp 52), a.eval (.tmp 53), a.eval (.tmp 54), a.eval (.tmp 55), a.eval (.tmp 56), a.eval (.tmp 57), a.eval (.tmp 58), a.eval (.tmp 59), a.eval (.tmp 60), a.eval (.tmp 61), a.eval (.tmp 62), a.eval (.tmp 63), a.eval (.tmp 64), a.eval (.tmp 65), a.eval (.tmp 66), a.eval (.tmp 67), a.eval (.tmp 68), a.eval (.tmp 69), a.eval (.tmp 70), a.eval (.tmp 71), a.eval (.tmp 72), a.eval (.tmp 73), a.eval (.tmp 74), a.eval (.tmp 75)], []⟩ := (act_lit a (n := 76) hsize).trans (by rw [hdef]; rfl)
            rw [q0, q1, q4, q5] at ha
            generalize a.eval (.tmp 2) = s2 at ha
            generalize a.eval (.tmp 3) = s3 at ha
            generalize a.eval (.tmp 6) = s6 at ha
            generalize a.eval (.tmp 7) = s7 at ha
            generalize a.eval (.tmp 8) = s8 at ha
            generalize a.eval (.tmp 9) = s9 at ha
            generalize a.eval (.tmp 10) = s10 at ha
            generalize a.eval (.tmp 11) = s11 at ha
            generalize a.eval (.tmp 12) = s12 at ha
            generalize a.eval (.tmp 13) = s13 at ha
            generalize a.eval (.tmp 14) = s14 at ha
            generalize a.eval (.tmp 15) = s15 at ha
            generalize a.eval (.tmp 16) = s16 at ha
            generalize a.eval (.tmp 17) = s17 at ha
            generalize a.eval (.tmp 18) = s18 at ha
            generalize a.eval (.tmp 19) = s19 at ha
            generalize a.eval (.tmp 20) = s20 at ha
            generalize a.eval (.tmp 21) = s21 at ha
            generalize a.eval (.tmp 22) = s22 at ha
            generalize a.eval (.tmp 23) = s23 at ha
            generalize a.eval (.tmp 24) = s24 at ha
            generalize a.eval (.tmp 25) = s25 at ha
            generalize a.eval (.tmp 26) = s26 at ha
            generalize a.eval (.tmp 27) = s27 at ha
            generalize a.eval (.tmp 28) = s28 at ha
            generalize a.eval (.tmp 29) = s29 at ha
            generalize a.eval (.tmp 30) = s30 at ha
            generalize a.eval (.tmp 31) = s31 at ha
            generalize a.eval (.tmp 32) = s32 at ha
            generalize a.eval (.tmp 33) = s33 at ha
            generalize a.eval (.tmp 34) = s34 at ha
            generalize a.eval (.tmp 35) = s35 at ha
            generalize a.eval (.tmp 36) = s36 at ha
            generalize a.eval (.tmp 37) = s37 at ha
            generalize a.eval (.tmp 38) = s38 at ha
            generalize a.eval (.tmp 39) = s39 at ha
            generalize a.eval (.tmp 40) = s40 at ha
            generalize a.eval (.tmp 41) = s41 at ha
            generalize a.eval (.tmp 42) = s42 at ha
            generalize a.eval (.tmp 43) = s43 at ha
            generalize a.eval (.tmp 44) = s44 at ha
            generalize a.eval (.tmp 45) = s45 at ha
            generalize a.eval (.tmp 46) = s46 at ha
            generalize a.eval (.tmp 47) = s47 at ha
            generalize a.eval (.tmp 48) = s48 at ha
            generalize a.eval (.tmp 49) = s49 at ha
            generalize a.eval (.tmp 50) = s50 at ha
            generalize a.eval (.tmp 51) = s51 at ha
            generalize a.eval (.tmp 52) = s52 at ha
            generalize a.eval (.tmp 53) = s53 at ha
            generalize a.eval (.tmp 54) = s54 at ha
            generalize a.eval (.tmp 55) = s55 at ha
            generalize a.eval (.tmp 56) = s56 at ha
            generalize a.eval (.tmp 57) = s57 at ha
            generalize a.eval (.tmp 58) = s58 at ha
            generalize a.eval (.tmp 59) = s59 at ha
            generalize a.eval (.tmp 60) = s60 at ha
            generalize a.eval (.tmp 61) = s61 at ha
            generalize a.eval (.tmp 62) = s62 at ha
            generalize a.eval (.tmp 63) = s63 at ha
            generalize a.eval (.tmp 64) = s64 at ha
            generalize a.eval (.tmp 65) = s65 at ha
            generalize a.eval (.tmp 66) = s66 at ha
            generalize a.eval (.tmp 67) = s67 at ha
            generalize a.eval (.tmp 68) = s68 at ha
            generalize a.eval (.tmp 69) = s69 at ha
            generalize a.eval (.tmp 70) = s70 at ha
            generalize a.eval (.tmp 71) = s71 at ha
            generalize a.eval (.tmp 72) = s72 at ha
            generalize a.eval (.tmp 73) = s73 at ha
            generalize a.eval (.tmp 74) = s74 at ha
            generalize a.eval (.tmp 75) = s75 at ha
            clear hdef hsize hF hv q0 q1 q4 q5
            subst ha
            have h90 : Rd w' b (m + 5000) := hG.rd.more (by omega)
            have hO9 := hG.only
            have hs9 := hG.src
            have hP9 := hG.2
            have hR9 := hR7.le hG.le
            clear hG hR7 hO7 h7 hs7 hP7
            obtain ⟨s9, u9, hi9⟩ := hP9
            obtain ⟨c0, c1, c2⟩ := hi9.cells3
            have f0 := hi9.free
            have lc := hi9.lt
            obtain ⟨r0, d0⟩ := hR9.cell (i := 0) (by omega)
            obtain ⟨r1, d1⟩ := hR9.cell (i := 1) (by omega)
            obtain ⟨r2, d2⟩ := hR9.cell (i := 2) (by omega)
            have f1 := fun i => VarAt.free (i := i) hR9
            go_wp2_with fail
            refine bodyPost_ret (v := .agg #[.int .i64 (s9), .int .i64 (bb), .int .i64 (u9)]) (by simp [results, Try.results44, go_sem, d0, d1, d2]) rfl ⟨_, _, _, rfl, ?_, ?_, ?_⟩
            · exact Rd.more (Rd.setFar (Rd.setFar (Rd.setFar h90 hs9 (by omega) (by omega) _) (Src.setOther hs9 (by omega) _) (by omega) (by omega) _) (Src.setOther (Src.setOther hs9 (by omega) _) (by omega) _) (by omega) (by omega) _) (by omega)
            · exact (Only.setNew (Only.setNew (Only.setNew hO9 (by omega) _) (by omega) _) (by omega) _)
            · rw [HR.out]
              exact (Src.setOther (Src.setOther (Src.setOther hs9 (by omega) _) (by omega) _) (by omega) _)

end Go.Proofs.Ytabjkjbclpokeaa
