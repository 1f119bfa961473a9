/- The draws of the laws on pieces: whatever the code, a piece and numbers; nothing that lay before has turned. No condition. -/
import Derived.Test.YtabjkjbclpokeaaDrawPiece
import Derived.Test.YtabjkjbclpokeaaPiecePlain
namespace Go.Proofs.Ytabjkjbclpokeaa
open Go.RowKit
set_option linter.unusedVariables false

theorem Src.more {S S' b : Nat} {w : World} (h : Src S w b) (hS : S ≤ S') : Src S' w b := by
  obtain ⟨A, len, cap, x, h1, h2⟩ := h
  exact ⟨A, len, cap, x, h1, fun h0 a ha => by have := h2 h0 a ha; omega⟩
def DrawnKind (w : World) (e : Ending) (w' : World) : Prop := ∃ k : Int, e = .returned (.int .i64 k) ∧ -1 ≤ k ∧ k ≤ 9 ∧ Below w.heap.size w w'
def DrawnPieceB (w : World) (e : Ending) (w' : World) : Prop := ∃ s x u : Int, e = .returned (.agg #[.int .i64 s, .int .i64 x, .int .i64 u]) ∧ Below w.heap.size w w'
def DrawnPiece1 (w : World) (e : Ending) (w' : World) : Prop := ∃ s x u i : Int, e = .returned (.tuple #[.agg #[.int .i64 s, .int .i64 x, .int .i64 u], .int .i64 i]) ∧ Below w.heap.size w w'
def DrawnPiece2 (w : World) (e : Ending) (w' : World) : Prop := ∃ s x u i j : Int, e = .returned (.tuple #[.agg #[.int .i64 s, .int .i64 x, .int .i64 u], .int .i64 i, .int .i64 j]) ∧ Below w.heap.size w w'

set_option maxHeartbeats 1000000 in
theorem drawObjectBits (v : Value) (w : World) (h : BytesIn w v) : Calls Try.prog 30 #[v] w (DrawnKind w) := by
  go_enter Try.func30, Try.ntmps30
  go_wp2_with fail
  refine (open_any _ _ h).mono ?_
  rintro e w1 ⟨b, rfl, hb, h1, hb1⟩
  go_wp2_with fail
  refine (pick_any _ _ _ _ (by omega) h1).mono ?_
  rintro e w2 ⟨k, rfl, h0, h9, h2, ho⟩
  have h9' := h9 (by omega)
  clear h9
  go_wp2_with fail
  go_ret
  exact ⟨_, rfl, by omega, by omega, ho.to_below hb1 hb⟩

set_option maxHeartbeats 4000000 in
theorem drawPieceValid (v : Value) (w : World) (h : BytesIn w v) : Calls Try.prog 32 #[v] w (DrawnPieceB w) := by
  go_enter Try.func32, Try.ntmps32
  go_wp2_with fail
  refine (open_src _ w.heap.size _ (h.below ((Below.refl _ _).alloc (Nat.le_refl _) _)) h.from_).mono ?_
  rintro e w1 ⟨b, rfl, hb, h1, hb1, hs1⟩
  have hR : VarAt w1 w.heap.size 3 25 := (VarAt.ofIAt (IAt.new w 25 [0, 0, 0])).le (Le.below hb1)
  have hB : Below w.heap.size w w1 := (((Below.refl _ w).alloc (Nat.le_refl _) _).trans (hb1.mono (by simp)))
  have hb' : w.heap.size < b := by simp at hb; omega
  have hsz1 := hB.size
  clear hb1 h
  go_wp2_with fail
  refine (piece_any _ _ _ _ (by omega) h1 (hs1.more hsz1) (by omega)).mono ?_
  rintro e w2 ⟨s, x, u, rfl, h2, ho2, _⟩
  have hR2 := hR.only ho2 (by omega)
  have hs2 := hs1.only ho2
  have hO2 := (Only.of_below (b := b) hB).trans ho2
  obtain ⟨r0, d0⟩ := hR2.cell (i := 0) (by omega)
  obtain ⟨r1, d1⟩ := hR2.cell (i := 1) (by omega)
  obtain ⟨r2, d2⟩ := hR2.cell (i := 2) (by omega)
  have f0 := fun i => VarAt.free (i := i) hR2
  go_wp2_with fail
  refine bodyPost_ret (v := .agg #[.int .i64 s, .int .i64 x, .int .i64 u]) (by simp [results, Try.results32, go_sem, d0, d1, d2]) rfl ⟨_, _, _, rfl, ?_⟩
  repeat (with_reducible first | exact ho2.to_below hB (by omega) | refine below_set ?_ (by simp) _)

set_option maxHeartbeats 4000000 in
theorem drawSplitPiece (v : Value) (w : World) (h : BytesIn w v) : Calls Try.prog 33 #[v] w (DrawnPieceB w) := by
  go_enter Try.func33, Try.ntmps33
  go_wp2_with fail
  refine (open_src _ w.heap.size _ (h.below ((Below.refl _ _).alloc (Nat.le_refl _) _)) h.from_).mono ?_
  rintro e w1 ⟨b, rfl, hb, h1, hb1, hs1⟩
  have hR : VarAt w1 w.heap.size 3 25 := (VarAt.ofIAt (IAt.new w 25 [0, 0, 0])).le (Le.below hb1)
  have hB : Below w.heap.size w w1 := (((Below.refl _ w).alloc (Nat.le_refl _) _).trans (hb1.mono (by simp)))
  have hb' : w.heap.size < b := by simp at hb; omega
  have hsz1 := hB.size
  clear hb1 h
  go_wp2_with fail
  refine (piece_any _ _ _ _ (by omega) h1 (hs1.more hsz1) (by omega)).mono ?_
  rintro e w2 ⟨s, x, u, rfl, h2, ho2, _⟩
  have hR2 := hR.only ho2 (by omega)
  have hs2 := hs1.only ho2
  have hO2 := (Only.of_below (b := b) hB).trans ho2
  have hlt2 := hR2.lt
  have hb2 := h2.lt
  have hC := IAt.new w2 25 [s, x, u]
  have hR3 := hR2.alloc (.cells #[.int .i64 s, .int .i64 x, .int .i64 u] 25)
  have hO3 := hO2.alloc (.cells #[.int .i64 s, .int .i64 x, .int .i64 u] 25)
  clear hR2 hO2
  go_wp2_with fail
  refine (pick_any _ _ _ _ (by omega) (h2.alloc _)).mono ?_
  rintro e w4 ⟨k, rfl, hk0, hk1, h4, ho4⟩
  have hC4 : IAt w4 w2.heap.size 25 [s, x, u] := (ho4.block _ hC.lt (fun e => by injection e; omega)).trans hC
  have hR4 := hR3.only ho4 (by omega)
  have hO4 := hO3.trans ho4
  obtain ⟨r0, d0⟩ := hR4.cell (i := 0) (by omega)
  obtain ⟨r1, d1⟩ := hR4.cell (i := 1) (by omega)
  obtain ⟨r2, d2⟩ := hR4.cell (i := 2) (by omega)
  have f0 := fun i => VarAt.free (i := i) hR4
  obtain ⟨c0, c1, c2⟩ := hC4.cells3
  have f1 := hC4.free
  have hsz := hO4.size
  clear hC hR3 hO3 h2 ho2 ho4 hs1 hs2 h1
  have hB4 : Below w.heap.size w w4 := hO4.to_below (Below.refl _ _) (by omega)
  clear hk1
  cases hk : (k == 0)
  · go_wp2_with fail
    refine bodyPost_ret (v := .agg #[.int .i64 s, .int .i64 x, .int .i64 u]) (by simp [results, Try.results33, go_sem, d0, d1, d2]) rfl ⟨_, _, _, rfl, ?_⟩
    repeat (with_reducible first | exact hB4 | refine below_set ?_ (by first | (simp; done) | (simp; omega)) _)
  · have hne : w.heap.size ≠ w2.heap.size := by omega
    have hne2 : w2.heap.size ≠ w.heap.size := by omega
    have hle : w.heap.size ≤ w2.heap.size := by omega
    go_wp2_with fail
    refine bodyPost_ret (v := .agg #[.int .i64 s, .int .i64 x, .int .i64 0]) (by simp [results, Try.results33, go_sem, d0, d1, d2]) rfl ⟨_, _, _, rfl, ?_⟩
    repeat (with_reducible first | exact hB4 | refine below_set ?_ (by first | (simp; done) | (simp; omega)) _)

def roomDV (b : Nat) : Nat → Value → World → Prop
  | 0, v, w => ∃ y0 y1 y2 : Int, v = .agg #[.int .i64 y0, .int .i64 y1, .int .i64 y2]
  | 1, v, w => v = .pointer (some ⟨b, 0, none⟩)
  | 2, v, w => ∃ i : Int, v = .int .i64 i ∧ 0 ≤ i ∧ i < 10
  | 3, v, w => v = .pointer (some ⟨b, 0, none⟩)
  | 4, v, w => ∃ i : Int, v = .int .i64 i ∧ 0 ≤ i ∧ i < 17
  | 5, v, w => ∃ (g : Nat) (xs : List Int), v = .slice (some ⟨g, 0, none⟩) 4 4 ∧ IntsAt w g xs ∧ xs.length = 4
  | 6, v, w => ∃ (g : Nat) (xs : List Int), v = .slice (some ⟨g, 0, none⟩) 7 7 ∧ IntsAt w g xs ∧ xs.length = 7 ∧ ∀ x ∈ xs, 0 ≤ x ∧ x < 4
  | 7, v, w => v = .pointer (some ⟨b, 0, none⟩)
  | 8, v, w => ∃ i : Int, v = .int .i64 i ∧ 0 ≤ i ∧ i < 7
  | 9, v, w => ∃ (g i : Nat) (xs : List Int), v = .pointer (some ⟨g, i, none⟩) ∧ IntsAt w g xs ∧ i < xs.length ∧ ∀ x ∈ xs, 0 ≤ x ∧ x < 4
  | 10, v, w => ∃ i : Int, v = .int .i64 i ∧ 0 ≤ i ∧ i < 4
  | 11, v, w => ∃ (g i : Nat) (xs : List Int), v = .pointer (some ⟨g, i, none⟩) ∧ IntsAt w g xs ∧ i < xs.length
  | 12, v, w => ∃ i : Int, v = .int .i64 i
  | 14, v, w => ∃ i : Int, v = .int .i64 i
  | _, _, _ => True
theorem roomDV_le (b : Nat) : ∀ j u w w', Le w w' → roomDV b j u w → roomDV b j u w' := by
  intro j u w w' hl h
  unfold roomDV at h ⊢
  split at h <;> first
    | exact h
    | (obtain ⟨g, xs, h1, h2, h3⟩ := h; exact ⟨g, xs, h1, h2.le hl, h3⟩)
    | (obtain ⟨g, i, xs, h1, h2, h3⟩ := h; exact ⟨g, i, xs, h1, h2.le hl, h3⟩)
def retDV (b : Nat) : Nat → Value → World → Prop
  | 0, v, w => ∃ y0 y1 y2 : Int, v = .agg #[.int .i64 y0, .int .i64 y1, .int .i64 y2]
  | 1, v, w => v = .pointer (some ⟨b, 0, none⟩)
  | 2, v, w => ∃ i : Int, v = .int .i64 i ∧ 0 ≤ i ∧ i < 10
  | 3, v, w => ∃ (g : Nat) (xs : List Int), v = .slice (some ⟨g, 0, none⟩) 2 2 ∧ IntsAt w g xs ∧ xs.length = 2
  | 4, v, w => v = .pointer (some ⟨b, 0, none⟩)
  | 5, v, w => ∃ i : Int, v = .int .i64 i ∧ 0 ≤ i ∧ i < 14
  | 6, v, w => ∃ i : Int, v = .int .i64 i ∧ 0 ≤ i ∧ i < 2
  | 7, v, w => ∃ (g i : Nat) (xs : List Int), v = .pointer (some ⟨g, i, none⟩) ∧ IntsAt w g xs ∧ i < xs.length
  | 8, v, w => ∃ i : Int, v = .int .i64 i
  | 9, v, w => v = .pointer (some ⟨b, 0, none⟩)
  | 10, v, w => ∃ i : Int, v = .int .i64 i ∧ 0 ≤ i ∧ i < 4
  | 11, v, w => ∃ i : Int, v = .int .i64 i
  | 12, v, w => ∃ (g : Nat) (xs : List Int), v = .slice (some ⟨g, 0, none⟩) 4 4 ∧ IntsAt w g xs ∧ xs.length = 4
  | 13, v, w => ∃ (g : Nat) (xs : List Int), v = .slice (some ⟨g, 0, none⟩) 7 7 ∧ IntsAt w g xs ∧ xs.length = 7 ∧ ∀ x ∈ xs, 0 ≤ x ∧ x < 4
  | 14, v, w => v = .pointer (some ⟨b, 0, none⟩)
  | 15, v, w => ∃ i : Int, v = .int .i64 i ∧ 0 ≤ i ∧ i < 7
  | 16, v, w => ∃ (g i : Nat) (xs : List Int), v = .pointer (some ⟨g, i, none⟩) ∧ IntsAt w g xs ∧ i < xs.length ∧ ∀ x ∈ xs, 0 ≤ x ∧ x < 4
  | 17, v, w => ∃ i : Int, v = .int .i64 i ∧ 0 ≤ i ∧ i < 4
  | 18, v, w => ∃ (g i : Nat) (xs : List Int), v = .pointer (some ⟨g, i, none⟩) ∧ IntsAt w g xs ∧ i < xs.length
  | 19, v, w => ∃ i : Int, v = .int .i64 i
  | 21, v, w => ∃ i : Int, v = .int .i64 i
  | 22, v, w => ∃ i : Int, v = .int .i64 i
  | _, _, _ => True
theorem retDV_le (b : Nat) : ∀ j u w w', Le w w' → retDV b j u w → retDV b j u w' := by
  intro j u w w' hl h
  unfold retDV at h ⊢
  split at h <;> first
    | exact h
    | (obtain ⟨g, xs, h1, h2, h3⟩ := h; exact ⟨g, xs, h1, h2.le hl, h3⟩)
    | (obtain ⟨g, i, xs, h1, h2, h3⟩ := h; exact ⟨g, i, xs, h1, h2.le hl, h3⟩)

set_option maxHeartbeats 4000000 in
theorem drawPieceRoom (v : Value) (w : World) (h : BytesIn w v) : Calls Try.prog 35 #[v] w (DrawnPiece1 w) := by
  go_enter Try.func35, Try.ntmps35
  go_wp2_with fail
  refine (open_src _ w.heap.size _ (h.below ((Below.refl _ _).alloc (Nat.le_refl _) _)) h.from_).mono ?_
  rintro e w1 ⟨b, rfl, hb, h1, hb1, hs1⟩
  have hR : VarAt w1 w.heap.size 3 25 := (VarAt.ofIAt (IAt.new w 25 [0, 0, 0])).le (Le.below hb1)
  have hB : Below w.heap.size w w1 := (((Below.refl _ w).alloc (Nat.le_refl _) _).trans (hb1.mono (by simp)))
  have hb' : w.heap.size < b := by simp at hb; omega
  have hsz1 := hB.size
  clear hb1 h
  go_wp2_with fail
  refine (piece_any _ _ _ _ (by omega) h1 (hs1.more hsz1) (by omega)).mono ?_
  rintro e w2 ⟨s, x, u, rfl, h2, ho2, _⟩
  have hR2 := hR.only ho2 (by omega)
  have hs2 := hs1.only ho2
  have hO2 := (Only.of_below (b := b) hB).trans ho2
  have hw2 := hO2.size
  have hbc : b < w2.heap.size := h2.lt
  have hC0 := IAt.new w2 25 [s, x, u]
  simp only [List.map_cons, List.map_nil] at hC0
  have hC : VarAt (w2.alloc (.cells #[.int .i64 s, .int .i64 x, .int .i64 u] 25)) w2.heap.size 3 25 := VarAt.ofIAt (xs := [s, x, u]) hC0
  have hR := hR2.alloc (.cells #[.int .i64 s, .int .i64 x, .int .i64 u] 25)
  have h3 := h2.alloc (.cells #[.int .i64 s, .int .i64 x, .int .i64 u] 25)
  have hs3 : Src w.heap.size (w2.alloc (.cells #[.int .i64 s, .int .i64 x, .int .i64 u] 25)) b := hs2.only ((Only.refl _ _).alloc _)
  have hO3 := hO2.alloc (.cells #[.int .i64 s, .int .i64 x, .int .i64 u] 25)
  clear h1 hs1 hB h2 ho2 hC0 hb hR2 hs2 hO2 hsz1
  go_wp2_with fail
  generalize w2.alloc (.cells #[.int .i64 s, .int .i64 x, .int .i64 u] 25) = W at *
  generalize w2.heap.size = c at *
  generalize hRR : w.heap.size = R at *
  have HRR := Lib.hid hRR
  have hwR : w.heap.size ≤ R := by omega
  clear hRR
  have hGB : ∀ {W : World}, Only b w W → Below R w W := fun ho => HRR.out ▸ ho.to_below (Below.refl _ _) (by have := HRR.out; omega)
  refine wp_region_inv (roomDV b) (DG R b (40000) 15 w W.drew) Le (by kernel_rfl) (by kernel_rfl) (by kernel_rfl) (roomDV_le _) (⟨Rd.more h3 (by omega), Only.drew hO3, Le.refl _, hs3⟩) ⟨?o0, ?o1, ?o2, ?o3, ?o4, ?o5, ?o6, ?o7, ?o8, ?o9, ?o10, ?o11, ?o12, ?o13, ?o14, trivial⟩ ?hfin
  case o0 =>
    intro f a w K hF hA hsz hG hK
    rw [if_pos (by rfl)]
    have hsz : f + 1 ≤ 15 := hsz
    have hsz2 := hsz
    have e5 : a.tmps[5]?.getD undef = .pointer (some ⟨c, 0, none⟩) := slot_of (hF 5 (by kernel_rfl)) rfl
    have hv := hC.le hG.le
    obtain ⟨u0, c0⟩ := hv.cell (i := 0) (by omega)
    obtain ⟨u1, c1⟩ := hv.cell (i := 1) (by omega)
    obtain ⟨u2, c2⟩ := hv.cell (i := 2) (by omega)
    clear hF hA
    unfold Oper.wp execOp
    go_simp
    exact hK _ _ (fun _ => ⟨_, _, _, rfl⟩) (hG.keep) (Le.refl _)
  case o1 =>
    intro f a w K hF hA hsz hG hK
    rw [if_pos (by rfl)]
    have hsz : f + 1 ≤ 15 := hsz
    have hsz2 := hsz
    have e4 : a.tmps[4]?.getD undef = .pointer (some ⟨b, 0, none⟩) := slot_of (hF 4 (by kernel_rfl)) rfl
    clear hF hA
    unfold Oper.wp execOp
    go_simp
    exact hK _ _ (fun _ => rfl) (hG.keep) (Le.refl _)
  case o2 =>
    intro f a w K hF hA hsz hG hK
    rw [if_pos (by rfl)]
    have hsz : f + 1 ≤ 15 := hsz
    have hsz2 := hsz
    have p11 : roomDV b 1 (a.eval (.tmp 11)) w := hA ⟨1, .data⟩ (by simp) rfl _ rfl (by simp)
    have q11 : a.eval (.tmp 11) = _ := p11
    have e11 := slot_eq q11
    clear q11
    clear hF hA
    unfold Oper.wp execOp
    go_simp
    refine (pick_any _ _ _ _ (by omega) hG.rd).mono ?_
    rintro e w1 ⟨i, rfl, h0, h1, hR1, hO1⟩
    exact hK _ _ (fun _ => ⟨i, rfl, h0, h1 (by omega)⟩) (hG.step hR1 (by omega) hO1) (Le.only hO1 hG.rd hR1)
  case o3 =>
    intro f a w K hF hA hsz hG hK
    rw [if_pos (by rfl)]
    have hsz : f + 1 ≤ 15 := hsz
    have hsz2 := hsz
    have e4 : a.tmps[4]?.getD undef = .pointer (some ⟨b, 0, none⟩) := slot_of (hF 4 (by kernel_rfl)) rfl
    clear hF hA
    unfold Oper.wp execOp
    go_simp
    exact hK _ _ (fun _ => rfl) (hG.keep) (Le.refl _)
  case o4 =>
    intro f a w K hF hA hsz hG hK
    rw [if_pos (by rfl)]
    have hsz : f + 1 ≤ 15 := hsz
    have hsz2 := hsz
    have p13 : roomDV b 3 (a.eval (.tmp 13)) w := hA ⟨3, .data⟩ (by simp) rfl _ rfl (by simp)
    have q13 : a.eval (.tmp 13) = _ := p13
    have e13 := slot_eq q13
    clear q13
    clear hF hA
    unfold Oper.wp execOp
    go_simp
    refine (pick_any _ _ _ _ (by omega) hG.rd).mono ?_
    rintro e w1 ⟨i, rfl, h0, h1, hR1, hO1⟩
    exact hK _ _ (fun _ => ⟨i, rfl, h0, h1 (by omega)⟩) (hG.step hR1 (by omega) hO1) (Le.only hO1 hG.rd hR1)
  case o5 =>
    intro f a w K hF hA hsz hG hK
    rw [if_pos (by rfl)]
    have hsz : f + 1 ≤ 15 := hsz
    have hsz2 := hsz
    have p12 : roomDV b 2 (a.eval (.tmp 12)) w := hA ⟨2, .data⟩ (by simp) rfl _ rfl (by simp)
    obtain ⟨i12, q12, hl12, hh12⟩ := p12
    have e12 := slot_eq q12
    have p14 : roomDV b 4 (a.eval (.tmp 14)) w := hA ⟨4, .data⟩ (by simp) rfl _ rfl (by simp)
    obtain ⟨i14, q14, hl14, hh14⟩ := p14
    have e14 := slot_eq q14
    clear q12 q14
    clear hF hA
    unfold Oper.wp execOp
    go_simp
    exact hK _ _ (fun _ => ⟨_, _, rfl, IntsAt.new w [_, _, _, _], rfl⟩) (hG.alloc _) (Le.alloc _ _)
  case o6 =>
    intro f a w K hF hA hsz hG hK
    rw [if_pos (by rfl)]
    have hsz : f + 1 ≤ 15 := hsz
    have hsz2 := hsz
    clear hF hA
    unfold Oper.wp execOp
    go_simp
    exact hK _ _ (fun _ => ⟨_, _, rfl, IntsAt.new w [_, _, _, _, _, _, _], rfl, by simp⟩) (hG.alloc _) (Le.alloc _ _)
  case o7 =>
    intro f a w K hF hA hsz hG hK
    rw [if_pos (by rfl)]
    have hsz : f + 1 ≤ 15 := hsz
    have hsz2 := hsz
    have e4 : a.tmps[4]?.getD undef = .pointer (some ⟨b, 0, none⟩) := slot_of (hF 4 (by kernel_rfl)) rfl
    clear hF hA
    unfold Oper.wp execOp
    go_simp
    exact hK _ _ (fun _ => rfl) (hG.keep) (Le.refl _)
  case o8 =>
    intro f a w K hF hA hsz hG hK
    rw [if_pos (by rfl)]
    have hsz : f + 1 ≤ 15 := hsz
    have hsz2 := hsz
    have p17 : roomDV b 7 (a.eval (.tmp 17)) w := hA ⟨7, .data⟩ (by simp) rfl _ rfl (by simp)
    have q17 : a.eval (.tmp 17) = _ := p17
    have e17 := slot_eq q17
    clear q17
    clear hF hA
    unfold Oper.wp execOp
    go_simp
    refine (pick_any _ _ _ _ (by omega) hG.rd).mono ?_
    rintro e w1 ⟨i, rfl, h0, h1, hR1, hO1⟩
    exact hK _ _ (fun _ => ⟨i, rfl, h0, h1 (by omega)⟩) (hG.step hR1 (by omega) hO1) (Le.only hO1 hG.rd hR1)
  case o9 =>
    intro f a w K hF hA hsz hG hK
    rw [if_pos (by rfl)]
    have hsz : f + 1 ≤ 15 := hsz
    have hsz2 := hsz
    have p16 : roomDV b 6 (a.eval (.tmp 16)) w := hA ⟨6, .data⟩ (by simp) rfl _ rfl (by simp)
    obtain ⟨g16, xs16, q16, hx16, hn16, hb16⟩ := p16
    have e16 := slot_eq q16
    have p18 : roomDV b 8 (a.eval (.tmp 18)) w := hA ⟨8, .data⟩ (by simp) rfl _ rfl (by simp)
    obtain ⟨i18, q18, hl18, hh18⟩ := p18
    have e18 := slot_eq q18
    clear q16 q18
    clear hF hA
    unfold Oper.wp execOp
    go_simp
    exact hK _ _ (fun _ => ⟨g16, (i18).toNat, _, rfl, hx16, by omega, hb16⟩) (hG.keep) (Le.refl _)
  case o10 =>
    intro f a w K hF hA hsz hG hK
    rw [if_pos (by rfl)]
    have hsz : f + 1 ≤ 15 := hsz
    have hsz2 := hsz
    have p19 : roomDV b 9 (a.eval (.tmp 19)) w := hA ⟨9, .data⟩ (by simp) rfl _ rfl (by simp)
    obtain ⟨g19, j19, xs19, q19, hx19, hj19, hb19⟩ := p19
    have e19 := slot_eq q19
    clear q19
    have cc := hx19.cell hj19
    clear hF hA
    unfold Oper.wp execOp
    go_simp
    exact hK _ _ (fun _ => ⟨_, rfl, (hb19 _ (List.getElem_mem hj19)).1, (hb19 _ (List.getElem_mem hj19)).2⟩) (hG.keep) (Le.refl _)
  case o11 =>
    intro f a w K hF hA hsz hG hK
    rw [if_pos (by rfl)]
    have hsz : f + 1 ≤ 15 := hsz
    have hsz2 := hsz
    have p15 : roomDV b 5 (a.eval (.tmp 15)) w := hA ⟨5, .data⟩ (by simp) rfl _ rfl (by simp)
    obtain ⟨g15, xs15, q15, hx15, hn15⟩ := p15
    have e15 := slot_eq q15
    have p20 : roomDV b 10 (a.eval (.tmp 20)) w := hA ⟨10, .data⟩ (by simp) rfl _ rfl (by simp)
    obtain ⟨i20, q20, hl20, hh20⟩ := p20
    have e20 := slot_eq q20
    clear q15 q20
    clear hF hA
    unfold Oper.wp execOp
    go_simp
    exact hK _ _ (fun _ => ⟨g15, (i20).toNat, _, rfl, hx15, by omega⟩) (hG.keep) (Le.refl _)
  case o12 =>
    intro f a w K hF hA hsz hG hK
    rw [if_pos (by rfl)]
    have hsz : f + 1 ≤ 15 := hsz
    have hsz2 := hsz
    have p21 : roomDV b 11 (a.eval (.tmp 21)) w := hA ⟨11, .data⟩ (by simp) rfl _ rfl (by simp)
    obtain ⟨g21, j21, xs21, q21, hx21, hj21⟩ := p21
    have e21 := slot_eq q21
    clear q21
    have cc := hx21.cell hj21
    clear hF hA
    unfold Oper.wp execOp
    go_simp
    exact hK _ _ (fun _ => ⟨_, rfl⟩) (hG.keep) (Le.refl _)
  case o13 =>
    intro f a w K hF hA hsz hG hK
    rw [if_pos (by rfl)]
    have hsz : f + 1 ≤ 15 := hsz
    have hsz2 := hsz
    have p10 : roomDV b 0 (a.eval (.tmp 10)) w := hA ⟨0, .data⟩ (by simp) rfl _ rfl (by simp)
    obtain ⟨y10_0, y10_1, y10_2, q10⟩ := p10
    have e10 := slot_eq q10
    have e2 : a.tmps[2]?.getD undef = .pointer (some ⟨R, 0, none⟩) := slot_of (hF 2 (by kernel_rfl)) rfl
    clear q10
    have hv := hR.le hG.le
    obtain ⟨u0, c0⟩ := hv.cell (i := 0) (by omega)
    obtain ⟨u1, c1⟩ := hv.cell (i := 1) (by omega)
    obtain ⟨u2, c2⟩ := hv.cell (i := 2) (by omega)
    have f0 := fun i => VarAt.free (i := i) hv
    clear hF hA
    unfold Oper.wp execOp
    go_simp
    exact hK undef _ (fun h => (h rfl).elim) (DG.set (DG.set (DG.set hG.keep (by omega) (by omega) (by omega) hv (by decide) _) (by omega) (by omega) (by omega) (VarAt.set hv _) (by decide) _) (by omega) (by omega) (by omega) (VarAt.set (VarAt.set hv _) _) (by decide) _) (Le.set3 hv (by decide))
  case o14 =>
    intro f a w K hF hA hsz hG hK
    rw [if_pos (by rfl)]
    have hsz : f + 1 ≤ 15 := hsz
    have hsz2 := hsz
    have p22 : roomDV b 12 (a.eval (.tmp 22)) w := hA ⟨12, .data⟩ (by simp) rfl _ rfl (by simp)
    obtain ⟨i22, q22⟩ := p22
    have e22 := slot_eq q22
    clear q22
    clear hF hA
    unfold Oper.wp execOp
    go_simp
    exact hK _ _ (fun _ => ⟨_, rfl⟩) (hG.keep) (Le.refl _)
  case hfin =>
    intro f a w' hdef hsize hF hv hG
    have p3 : roomDV b 14 (a.eval (.tmp 3)) w' := hv 14 _ rfl (by simp)
    obtain ⟨i3, q3⟩ := p3
    have q2 : a.eval (.tmp 2) = .pointer (some ⟨R, 0, none⟩) := (hF 2 (by kernel_rfl)).trans rfl
    have ha : a = ⟨#[a.eval (.tmp 0), a.eval (.tmp 1), a.eval (.tmp 2), a.eval (.tmp 3), a.eval (.tmp 4), a.eval (.tmp 5), a.eval (.tmp 6), a.eval (.tmp 7), a.eval (.tmp 8), a.eval (.tmp 9), a.eval (.tmp 10), a.eval (.tmp 11), a.eval (.tmp 12), a.eval (.tmp 13), a.eval (.tmp 14), a.eval (.tmp 15), a.eval (.tmp 16), a.eval (.tmp 17), a.eval (.tmp 18), a.eval (.tmp 19), a.eval (.tmp 20), a.eval (.tmp 21), a.eval (.tmp 22)], []⟩ := (act_lit a (n := 23) hsize).trans (by rw [hdef]; rfl)
    rw [q3, q2] at ha
    generalize a.eval (.tmp 0) = s0 at ha
    generalize a.eval (.tmp 1) = s1 at ha
    generalize a.eval (.tmp 4) = s4 at ha
    generalize a.eval (.tmp 5) = s5 at ha
    generalize a.eval (.tmp 6) = s6 at ha
    generalize a.eval (.tmp 7) = s7 at ha
    generalize a.eval (.tmp 8) = s8 at ha
    generalize a.eval (.tmp 9) = s9 at ha
    generalize a.eval (.tmp 10) = s10 at ha
    generalize a.eval (.tmp 11) = s11 at ha
    generalize a.eval (.tmp 12) = s12 at ha
    generalize a.eval (.tmp 13) = s13 at ha
    generalize a.eval (.tmp 14) = s14 at ha
    generalize a.eval (.tmp 15) = s15 at ha
    generalize a.eval (.tmp 16) = s16 at ha
    generalize a.eval (.tmp 17) = s17 at ha
    generalize a.eval (.tmp 18) = s18 at ha
    generalize a.eval (.tmp 19) = s19 at ha
    generalize a.eval (.tmp 20) = s20 at ha
    generalize a.eval (.tmp 21) = s21 at ha
    generalize a.eval (.tmp 22) = s22 at ha
    clear hdef hsize hF hv q3 q2
    subst ha
    have hR2 := hR.le hG.le
    obtain ⟨y0, d0⟩ := hR2.cell (i := 0) (by omega)
    obtain ⟨y1, d1⟩ := hR2.cell (i := 1) (by omega)
    obtain ⟨y2, d2⟩ := hR2.cell (i := 2) (by omega)
    have ho := hG.only
    clear hG
    go_wp2_with fail
    refine bodyPost_ret (v := .tuple #[.agg #[.int .i64 y0, .int .i64 y1, .int .i64 y2], .int .i64 i3]) (by simp [results, Try.results35, go_sem, d0, d1, d2]) rfl ⟨_, _, _, _, rfl, ?_⟩
    exact HRR.out ▸ hGB ho

set_option maxHeartbeats 4000000 in
theorem drawRetypePiece (v : Value) (w : World) (h : BytesIn w v) : Calls Try.prog 36 #[v] w (DrawnPiece2 w) := by
  go_enter Try.func36, Try.ntmps36
  go_wp2_with fail
  refine (open_src _ w.heap.size _ (h.below ((Below.refl _ _).alloc (Nat.le_refl _) _)) h.from_).mono ?_
  rintro e w1 ⟨b, rfl, hb, h1, hb1, hs1⟩
  have hR : VarAt w1 w.heap.size 3 25 := (VarAt.ofIAt (IAt.new w 25 [0, 0, 0])).le (Le.below hb1)
  have hB : Below w.heap.size w w1 := (((Below.refl _ w).alloc (Nat.le_refl _) _).trans (hb1.mono (by simp)))
  have hb' : w.heap.size < b := by simp at hb; omega
  have hsz1 := hB.size
  clear hb1 h
  go_wp2_with fail
  refine (piece_any _ _ _ _ (by omega) h1 (hs1.more hsz1) (by omega)).mono ?_
  rintro e w2 ⟨s, x, u, rfl, h2, ho2, _⟩
  have hR2 := hR.only ho2 (by omega)
  have hs2 := hs1.only ho2
  have hO2 := (Only.of_below (b := b) hB).trans ho2
  have hw2 := hO2.size
  have hbc : b < w2.heap.size := h2.lt
  have hC0 := IAt.new w2 25 [s, x, u]
  simp only [List.map_cons, List.map_nil] at hC0
  have hC : VarAt (w2.alloc (.cells #[.int .i64 s, .int .i64 x, .int .i64 u] 25)) w2.heap.size 3 25 := VarAt.ofIAt (xs := [s, x, u]) hC0
  have hR := hR2.alloc (.cells #[.int .i64 s, .int .i64 x, .int .i64 u] 25)
  have h3 := h2.alloc (.cells #[.int .i64 s, .int .i64 x, .int .i64 u] 25)
  have hs3 : Src w.heap.size (w2.alloc (.cells #[.int .i64 s, .int .i64 x, .int .i64 u] 25)) b := hs2.only ((Only.refl _ _).alloc _)
  have hO3 := hO2.alloc (.cells #[.int .i64 s, .int .i64 x, .int .i64 u] 25)
  clear h1 hs1 hB h2 ho2 hC0 hb hR2 hs2 hO2 hsz1
  go_wp2_with fail
  generalize w2.alloc (.cells #[.int .i64 s, .int .i64 x, .int .i64 u] 25) = W at *
  generalize w2.heap.size = c at *
  generalize hRR : w.heap.size = R at *
  have HRR := Lib.hid hRR
  have hwR : w.heap.size ≤ R := by omega
  clear hRR
  have hGB : ∀ {W : World}, Only b w W → Below R w W := fun ho => HRR.out ▸ ho.to_below (Below.refl _ _) (by have := HRR.out; omega)
  refine wp_region_inv (retDV b) (DG R b (40000) 23 w W.drew) Le (by kernel_rfl) (by kernel_rfl) (by kernel_rfl) (retDV_le _) (⟨Rd.more h3 (by omega), Only.drew hO3, Le.refl _, hs3⟩) ⟨?o0, ?o1, ?o2, ?o3, ?o4, ?o5, ?o6, ?o7, ?o8, ?o9, ?o10, ?o11, ?o12, ?o13, ?o14, ?o15, ?o16, ?o17, ?o18, ?o19, ?o20, ?o21, ?o22, trivial⟩ ?hfin
  case o0 =>
    intro f a w K hF hA hsz hG hK
    rw [if_pos (by rfl)]
    have hsz : f + 1 ≤ 23 := hsz
    have hsz2 := hsz
    have e6 : a.tmps[6]?.getD undef = .pointer (some ⟨c, 0, none⟩) := slot_of (hF 6 (by kernel_rfl)) rfl
    have hv := hC.le hG.le
    obtain ⟨u0, c0⟩ := hv.cell (i := 0) (by omega)
    obtain ⟨u1, c1⟩ := hv.cell (i := 1) (by omega)
    obtain ⟨u2, c2⟩ := hv.cell (i := 2) (by omega)
    clear hF hA
    unfold Oper.wp execOp
    go_simp
    exact hK _ _ (fun _ => ⟨_, _, _, rfl⟩) (hG.keep) (Le.refl _)
  case o1 =>
    intro f a w K hF hA hsz hG hK
    rw [if_pos (by rfl)]
    have hsz : f + 1 ≤ 23 := hsz
    have hsz2 := hsz
    have e5 : a.tmps[5]?.getD undef = .pointer (some ⟨b, 0, none⟩) := slot_of (hF 5 (by kernel_rfl)) rfl
    clear hF hA
    unfold Oper.wp execOp
    go_simp
    exact hK _ _ (fun _ => rfl) (hG.keep) (Le.refl _)
  case o2 =>
    intro f a w K hF hA hsz hG hK
    rw [if_pos (by rfl)]
    have hsz : f + 1 ≤ 23 := hsz
    have hsz2 := hsz
    have p12 : retDV b 1 (a.eval (.tmp 12)) w := hA ⟨1, .data⟩ (by simp) rfl _ rfl (by simp)
    have q12 : a.eval (.tmp 12) = _ := p12
    have e12 := slot_eq q12
    clear q12
    clear hF hA
    unfold Oper.wp execOp
    go_simp
    refine (pick_any _ _ _ _ (by omega) hG.rd).mono ?_
    rintro e w1 ⟨i, rfl, h0, h1, hR1, hO1⟩
    exact hK _ _ (fun _ => ⟨i, rfl, h0, h1 (by omega)⟩) (hG.step hR1 (by omega) hO1) (Le.only hO1 hG.rd hR1)
  case o3 =>
    intro f a w K hF hA hsz hG hK
    rw [if_pos (by rfl)]
    have hsz : f + 1 ≤ 23 := hsz
    have hsz2 := hsz
    have p13 : retDV b 2 (a.eval (.tmp 13)) w := hA ⟨2, .data⟩ (by simp) rfl _ rfl (by simp)
    obtain ⟨i13, q13, hl13, hh13⟩ := p13
    have e13 := slot_eq q13
    clear q13
    clear hF hA
    unfold Oper.wp execOp
    go_simp
    exact hK _ _ (fun _ => ⟨_, _, rfl, IntsAt.new w [_, _], rfl⟩) (hG.alloc _) (Le.alloc _ _)
  case o4 =>
    intro f a w K hF hA hsz hG hK
    rw [if_pos (by rfl)]
    have hsz : f + 1 ≤ 23 := hsz
    have hsz2 := hsz
    have e5 : a.tmps[5]?.getD undef = .pointer (some ⟨b, 0, none⟩) := slot_of (hF 5 (by kernel_rfl)) rfl
    clear hF hA
    unfold Oper.wp execOp
    go_simp
    exact hK _ _ (fun _ => rfl) (hG.keep) (Le.refl _)
  case o5 =>
    intro f a w K hF hA hsz hG hK
    rw [if_pos (by rfl)]
    have hsz : f + 1 ≤ 23 := hsz
    have hsz2 := hsz
    have p15 : retDV b 4 (a.eval (.tmp 15)) w := hA ⟨4, .data⟩ (by simp) rfl _ rfl (by simp)
    have q15 : a.eval (.tmp 15) = _ := p15
    have e15 := slot_eq q15
    clear q15
    clear hF hA
    unfold Oper.wp execOp
    go_simp
    refine (pick_any _ _ _ _ (by omega) hG.rd).mono ?_
    rintro e w1 ⟨i, rfl, h0, h1, hR1, hO1⟩
    exact hK _ _ (fun _ => ⟨i, rfl, h0, h1 (by omega)⟩) (hG.step hR1 (by omega) hO1) (Le.only hO1 hG.rd hR1)
  case o6 =>
    intro f a w K hF hA hsz hG hK
    rw [if_pos (by rfl)]
    have hsz : f + 1 ≤ 23 := hsz
    have hsz2 := hsz
    have p16 : retDV b 5 (a.eval (.tmp 16)) w := hA ⟨5, .data⟩ (by simp) rfl _ rfl (by simp)
    obtain ⟨i16, q16, hl16, hh16⟩ := p16
    have e16 := slot_eq q16
    clear q16
    have hd := Int.tdiv_eq_ediv_of_nonneg (b := 13) hl16
    have hw : IntKind.i64.wrap (i16 / 13) = i16 / 13 := i64_id (by omega) (by omega)
    clear hF hA
    unfold Oper.wp execOp
    go_simp
    exact hK _ _ (fun _ => ⟨_, rfl, by omega, by omega⟩) (hG.keep) (Le.refl _)
  case o7 =>
    intro f a w K hF hA hsz hG hK
    rw [if_pos (by rfl)]
    have hsz : f + 1 ≤ 23 := hsz
    have hsz2 := hsz
    have p14 : retDV b 3 (a.eval (.tmp 14)) w := hA ⟨3, .data⟩ (by simp) rfl _ rfl (by simp)
    obtain ⟨g14, xs14, q14, hx14, hn14⟩ := p14
    have e14 := slot_eq q14
    have p17 : retDV b 6 (a.eval (.tmp 17)) w := hA ⟨6, .data⟩ (by simp) rfl _ rfl (by simp)
    obtain ⟨i17, q17, hl17, hh17⟩ := p17
    have e17 := slot_eq q17
    clear q14 q17
    clear hF hA
    unfold Oper.wp execOp
    go_simp
    exact hK _ _ (fun _ => ⟨g14, (i17).toNat, _, rfl, hx14, by omega⟩) (hG.keep) (Le.refl _)
  case o8 =>
    intro f a w K hF hA hsz hG hK
    rw [if_pos (by rfl)]
    have hsz : f + 1 ≤ 23 := hsz
    have hsz2 := hsz
    have p18 : retDV b 7 (a.eval (.tmp 18)) w := hA ⟨7, .data⟩ (by simp) rfl _ rfl (by simp)
    obtain ⟨g18, j18, xs18, q18, hx18, hj18⟩ := p18
    have e18 := slot_eq q18
    clear q18
    have cc := hx18.cell hj18
    clear hF hA
    unfold Oper.wp execOp
    go_simp
    exact hK _ _ (fun _ => ⟨_, rfl⟩) (hG.keep) (Le.refl _)
  case o9 =>
    intro f a w K hF hA hsz hG hK
    rw [if_pos (by rfl)]
    have hsz : f + 1 ≤ 23 := hsz
    have hsz2 := hsz
    have e5 : a.tmps[5]?.getD undef = .pointer (some ⟨b, 0, none⟩) := slot_of (hF 5 (by kernel_rfl)) rfl
    clear hF hA
    unfold Oper.wp execOp
    go_simp
    exact hK _ _ (fun _ => rfl) (hG.keep) (Le.refl _)
  case o10 =>
    intro f a w K hF hA hsz hG hK
    rw [if_pos (by rfl)]
    have hsz : f + 1 ≤ 23 := hsz
    have hsz2 := hsz
    have p20 : retDV b 9 (a.eval (.tmp 20)) w := hA ⟨9, .data⟩ (by simp) rfl _ rfl (by simp)
    have q20 : a.eval (.tmp 20) = _ := p20
    have e20 := slot_eq q20
    clear q20
    clear hF hA
    unfold Oper.wp execOp
    go_simp
    refine (pick_any _ _ _ _ (by omega) hG.rd).mono ?_
    rintro e w1 ⟨i, rfl, h0, h1, hR1, hO1⟩
    exact hK _ _ (fun _ => ⟨i, rfl, h0, h1 (by omega)⟩) (hG.step hR1 (by omega) hO1) (Le.only hO1 hG.rd hR1)
  case o11 =>
    intro f a w K hF hA hsz hG hK
    rw [if_pos (by rfl)]
    have hsz : f + 1 ≤ 23 := hsz
    have hsz2 := hsz
    have p21 : retDV b 10 (a.eval (.tmp 21)) w := hA ⟨10, .data⟩ (by simp) rfl _ rfl (by simp)
    obtain ⟨i21, q21, hl21, hh21⟩ := p21
    have e21 := slot_eq q21
    clear q21
    clear hF hA
    unfold Oper.wp execOp
    go_simp
    exact hK _ _ (fun _ => ⟨_, rfl⟩) (hG.keep) (Le.refl _)
  case o12 =>
    intro f a w K hF hA hsz hG hK
    rw [if_pos (by rfl)]
    have hsz : f + 1 ≤ 23 := hsz
    have hsz2 := hsz
    have p22 : retDV b 11 (a.eval (.tmp 22)) w := hA ⟨11, .data⟩ (by simp) rfl _ rfl (by simp)
    obtain ⟨i22, q22⟩ := p22
    have e22 := slot_eq q22
    clear q22
    clear hF hA
    unfold Oper.wp execOp
    go_simp
    exact hK _ _ (fun _ => ⟨_, _, rfl, IntsAt.new w [_, _, _, _], rfl⟩) (hG.alloc _) (Le.alloc _ _)
  case o13 =>
    intro f a w K hF hA hsz hG hK
    rw [if_pos (by rfl)]
    have hsz : f + 1 ≤ 23 := hsz
    have hsz2 := hsz
    clear hF hA
    unfold Oper.wp execOp
    go_simp
    exact hK _ _ (fun _ => ⟨_, _, rfl, IntsAt.new w [_, _, _, _, _, _, _], rfl, by simp⟩) (hG.alloc _) (Le.alloc _ _)
  case o14 =>
    intro f a w K hF hA hsz hG hK
    rw [if_pos (by rfl)]
    have hsz : f + 1 ≤ 23 := hsz
    have hsz2 := hsz
    have e5 : a.tmps[5]?.getD undef = .pointer (some ⟨b, 0, none⟩) := slot_of (hF 5 (by kernel_rfl)) rfl
    clear hF hA
    unfold Oper.wp execOp
    go_simp
    exact hK _ _ (fun _ => rfl) (hG.keep) (Le.refl _)
  case o15 =>
    intro f a w K hF hA hsz hG hK
    rw [if_pos (by rfl)]
    have hsz : f + 1 ≤ 23 := hsz
    have hsz2 := hsz
    have p25 : retDV b 14 (a.eval (.tmp 25)) w := hA ⟨14, .data⟩ (by simp) rfl _ rfl (by simp)
    have q25 : a.eval (.tmp 25) = _ := p25
    have e25 := slot_eq q25
    clear q25
    clear hF hA
    unfold Oper.wp execOp
    go_simp
    refine (pick_any _ _ _ _ (by omega) hG.rd).mono ?_
    rintro e w1 ⟨i, rfl, h0, h1, hR1, hO1⟩
    exact hK _ _ (fun _ => ⟨i, rfl, h0, h1 (by omega)⟩) (hG.step hR1 (by omega) hO1) (Le.only hO1 hG.rd hR1)
  case o16 =>
    intro f a w K hF hA hsz hG hK
    rw [if_pos (by rfl)]
    have hsz : f + 1 ≤ 23 := hsz
    have hsz2 := hsz
    have p24 : retDV b 13 (a.eval (.tmp 24)) w := hA ⟨13, .data⟩ (by simp) rfl _ rfl (by simp)
    obtain ⟨g24, xs24, q24, hx24, hn24, hb24⟩ := p24
    have e24 := slot_eq q24
    have p26 : retDV b 15 (a.eval (.tmp 26)) w := hA ⟨15, .data⟩ (by simp) rfl _ rfl (by simp)
    obtain ⟨i26, q26, hl26, hh26⟩ := p26
    have e26 := slot_eq q26
    clear q24 q26
    clear hF hA
    unfold Oper.wp execOp
    go_simp
    exact hK _ _ (fun _ => ⟨g24, (i26).toNat, _, rfl, hx24, by omega, hb24⟩) (hG.keep) (Le.refl _)
  case o17 =>
    intro f a w K hF hA hsz hG hK
    rw [if_pos (by rfl)]
    have hsz : f + 1 ≤ 23 := hsz
    have hsz2 := hsz
    have p27 : retDV b 16 (a.eval (.tmp 27)) w := hA ⟨16, .data⟩ (by simp) rfl _ rfl (by simp)
    obtain ⟨g27, j27, xs27, q27, hx27, hj27, hb27⟩ := p27
    have e27 := slot_eq q27
    clear q27
    have cc := hx27.cell hj27
    clear hF hA
    unfold Oper.wp execOp
    go_simp
    exact hK _ _ (fun _ => ⟨_, rfl, (hb27 _ (List.getElem_mem hj27)).1, (hb27 _ (List.getElem_mem hj27)).2⟩) (hG.keep) (Le.refl _)
  case o18 =>
    intro f a w K hF hA hsz hG hK
    rw [if_pos (by rfl)]
    have hsz : f + 1 ≤ 23 := hsz
    have hsz2 := hsz
    have p23 : retDV b 12 (a.eval (.tmp 23)) w := hA ⟨12, .data⟩ (by simp) rfl _ rfl (by simp)
    obtain ⟨g23, xs23, q23, hx23, hn23⟩ := p23
    have e23 := slot_eq q23
    have p28 : retDV b 17 (a.eval (.tmp 28)) w := hA ⟨17, .data⟩ (by simp) rfl _ rfl (by simp)
    obtain ⟨i28, q28, hl28, hh28⟩ := p28
    have e28 := slot_eq q28
    clear q23 q28
    clear hF hA
    unfold Oper.wp execOp
    go_simp
    exact hK _ _ (fun _ => ⟨g23, (i28).toNat, _, rfl, hx23, by omega⟩) (hG.keep) (Le.refl _)
  case o19 =>
    intro f a w K hF hA hsz hG hK
    rw [if_pos (by rfl)]
    have hsz : f + 1 ≤ 23 := hsz
    have hsz2 := hsz
    have p29 : retDV b 18 (a.eval (.tmp 29)) w := hA ⟨18, .data⟩ (by simp) rfl _ rfl (by simp)
    obtain ⟨g29, j29, xs29, q29, hx29, hj29⟩ := p29
    have e29 := slot_eq q29
    clear q29
    have cc := hx29.cell hj29
    clear hF hA
    unfold Oper.wp execOp
    go_simp
    exact hK _ _ (fun _ => ⟨_, rfl⟩) (hG.keep) (Le.refl _)
  case o20 =>
    intro f a w K hF hA hsz hG hK
    rw [if_pos (by rfl)]
    have hsz : f + 1 ≤ 23 := hsz
    have hsz2 := hsz
    have p11 : retDV b 0 (a.eval (.tmp 11)) w := hA ⟨0, .data⟩ (by simp) rfl _ rfl (by simp)
    obtain ⟨y11_0, y11_1, y11_2, q11⟩ := p11
    have e11 := slot_eq q11
    have e2 : a.tmps[2]?.getD undef = .pointer (some ⟨R, 0, none⟩) := slot_of (hF 2 (by kernel_rfl)) rfl
    clear q11
    have hv := hR.le hG.le
    obtain ⟨u0, c0⟩ := hv.cell (i := 0) (by omega)
    obtain ⟨u1, c1⟩ := hv.cell (i := 1) (by omega)
    obtain ⟨u2, c2⟩ := hv.cell (i := 2) (by omega)
    have f0 := fun i => VarAt.free (i := i) hv
    clear hF hA
    unfold Oper.wp execOp
    go_simp
    exact hK undef _ (fun h => (h rfl).elim) (DG.set (DG.set (DG.set hG.keep (by omega) (by omega) (by omega) hv (by decide) _) (by omega) (by omega) (by omega) (VarAt.set hv _) (by decide) _) (by omega) (by omega) (by omega) (VarAt.set (VarAt.set hv _) _) (by decide) _) (Le.set3 hv (by decide))
  case o21 =>
    intro f a w K hF hA hsz hG hK
    rw [if_pos (by rfl)]
    have hsz : f + 1 ≤ 23 := hsz
    have hsz2 := hsz
    have p19 : retDV b 8 (a.eval (.tmp 19)) w := hA ⟨8, .data⟩ (by simp) rfl _ rfl (by simp)
    obtain ⟨i19, q19⟩ := p19
    have e19 := slot_eq q19
    clear q19
    clear hF hA
    unfold Oper.wp execOp
    go_simp
    exact hK _ _ (fun _ => ⟨_, rfl⟩) (hG.keep) (Le.refl _)
  case o22 =>
    intro f a w K hF hA hsz hG hK
    rw [if_pos (by rfl)]
    have hsz : f + 1 ≤ 23 := hsz
    have hsz2 := hsz
    have p30 : retDV b 19 (a.eval (.tmp 30)) w := hA ⟨19, .data⟩ (by simp) rfl _ rfl (by simp)
    obtain ⟨i30, q30⟩ := p30
    have e30 := slot_eq q30
    clear q30
    clear hF hA
    unfold Oper.wp execOp
    go_simp
    exact hK _ _ (fun _ => ⟨_, rfl⟩) (hG.keep) (Le.refl _)
  case hfin =>
    intro f a w' hdef hsize hF hv hG
    have p3 : retDV b 21 (a.eval (.tmp 3)) w' := hv 21 _ rfl (by simp)
    obtain ⟨i3, q3⟩ := p3
    have p4 : retDV b 22 (a.eval (.tmp 4)) w' := hv 22 _ rfl (by simp)
    obtain ⟨i4, q4⟩ := p4
    have q2 : a.eval (.tmp 2) = .pointer (some ⟨R, 0, none⟩) := (hF 2 (by kernel_rfl)).trans rfl
    have ha : a = ⟨#[a.eval (.tmp 0), a.eval (.tmp 1), a.eval (.tmp 2), a.eval (.tmp 3), a.eval (.tmp 4), a.eval (.tmp 5), a.eval (.tmp 6), a.eval (.tmp 7), a.eval (.tmp 8), a.eval (.tmp 9), a.eval (.tmp 10), a.eval (.tmp 11), a.eval (.tmp 12), a.eval (.tmp 13), a.eval (.tmp 14), a.eval (.tmp 15), a.eval (.tmp 16), a.eval (.tmp 17), a.eval (.tmp 18), a.eval (.tmp 19), a.eval (.tmp 20), a.eval (.tmp 21), a.eval (.tmp 22), a.eval (.tmp 23), a.eval (.tmp 24), a.eval (.tmp 25), a.eval (.tmp 26), a.eval (.tmp 27), a.eval (.tmp 28), a.eval (.tmp 29), a.eval (.tmp 30)], []⟩ := (act_lit a (n := 31) hsize).trans (by rw [hdef]; rfl)
    rw [q3, q4, q2] at ha
    generalize a.eval (.tmp 0) = s0 at ha
    generalize a.eval (.tmp 1) = s1 at ha
    generalize a.eval (.tmp 5) = s5 at ha
    generalize a.eval (.tmp 6) = s6 at ha
    generalize a.eval (.tmp 7) = s7 at ha
    generalize a.eval (.tmp 8) = s8 at ha
    generalize a.eval (.tmp 9) = s9 at ha
    generalize a.eval (.tmp 10) = s10 at ha
    generalize a.eval (.tmp 11) = s11 at ha
    generalize a.eval (.tmp 12) = s12 at ha
    generalize a.eval (.tmp 13) = s13 at ha
    generalize a.eval (.tmp 14) = s14 at ha
    generalize a.eval (.tmp 15) = s15 at ha
    generalize a.eval (.tmp 16) = s16 at ha
    generalize a.eval (.tmp 17) = s17 at ha
    generalize a.eval (.tmp 18) = s18 at ha
    generalize a.eval (.tmp 19) = s19 at ha
    generalize a.eval (.tmp 20) = s20 at ha
    generalize a.eval (.tmp 21) = s21 at ha
    generalize a.eval (.tmp 22) = s22 at ha
    generalize a.eval (.tmp 23) = s23 at ha
    generalize a.eval (.tmp 24) = s24 at ha
    generalize a.eval (.tmp 25) = s25 at ha
    generalize a.eval (.tmp 26) = s26 at ha
    generalize a.eval (.tmp 27) = s27 at ha
    generalize a.eval (.tmp 28) = s28 at ha
    generalize a.eval (.tmp 29) = s29 at ha
    generalize a.eval (.tmp 30) = s30 at ha
    clear hdef hsize hF hv q3 q4 q2
    subst ha
    have hR2 := hR.le hG.le
    obtain ⟨y0, d0⟩ := hR2.cell (i := 0) (by omega)
    obtain ⟨y1, d1⟩ := hR2.cell (i := 1) (by omega)
    obtain ⟨y2, d2⟩ := hR2.cell (i := 2) (by omega)
    have ho := hG.only
    clear hG
    go_wp2_with fail
    refine bodyPost_ret (v := .tuple #[.agg #[.int .i64 y0, .int .i64 y1, .int .i64 y2], .int .i64 i3, .int .i64 i4]) (by simp [results, Try.results36, go_sem, d0, d1, d2]) rfl ⟨_, _, _, _, _, rfl, ?_⟩
    exact HRR.out ▸ hGB ho

end Go.Proofs.Ytabjkjbclpokeaa
