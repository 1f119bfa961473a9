/- What the reference's PieceRoom, and SplitPiece of the program and of the reference compute. No condition beyond those written. -/
import Derived.Test.YtabjkjbclpokeaaPieceR
import Derived.Test.YtabjkjbclpokeaaRegG
import Derived.RegionTactic
import Derived.BigRegion
namespace Go.Proofs.Ytabjkjbclpokeaa
open Go.RowKit
set_option linter.unusedVariables false

theorem kept_3 {B : Nat} {w0 w : World} {c0 : Nat} {T0 : TypeId} {x0_0 x0_1 x0_2 : Int} (h : Kept B w0 [(c0, T0, [x0_0, x0_1, x0_2])] w) : Kept B w0 [(c0, T0, [x0_0, x0_1, x0_2])] w ∧ w.cell? ⟨c0, 0, none⟩ = some (.int .i64 x0_0) ∧ w.cell? ⟨c0, 1, none⟩ = some (.int .i64 x0_1) ∧ w.cell? ⟨c0, 2, none⟩ = some (.int .i64 x0_2) :=
  ⟨h, h.cell 0 0 rfl rfl, h.cell 0 1 rfl rfl, h.cell 0 2 rfl rfl⟩

set_option maxHeartbeats 2000000 in
theorem spec_PieceRoom (s b u k : Int) (w : World) :
    Calls Try.prog 20 #[.agg #[.int .i64 s, .int .i64 b, .int .i64 u], .int .i64 k] w fun e w' => e = .returned (.int .i64 (roomB s b u k)) ∧ Below w.heap.size w w' := by
  have hV := spec_PieceValid s b u
  rw [roomB_iff]
  cases h1 : pieceOk s b u
  · rw [h1] at hV
    simp only [Bool.false_eq_true, false_and, if_false]
    go_enter Try.func20, Try.ntmps20
    go_wp2_with fail
    refine (hV _).mono ?_
    rintro e w1 ⟨rfl, hb1⟩
    go_wp2_with fail
    go_ret
    exact ⟨rfl, below_next (below_al (Below.refl _ _) _) hb1⟩
  · rw [h1] at hV
    obtain ⟨⟨b0, b1⟩, ⟨s0, s1⟩, -, u0, u1⟩ := pieceOk_iff.1 h1
    have hpw := pw_max b1
    have hpp := pw_pos b
    cases h2 : inB k 0 16
    · simp only [Bool.false_eq_true, and_false, if_false]
      go_enter Try.func20, Try.ntmps20
      go_wp2_with fail
      refine (hV _).mono ?_
      rintro e w1 ⟨rfl, hb1⟩
      go_wp2_with (go_at_call 37; refine (spec_in _ _ _ _).mono ?_; rintro e w' ⟨rfl, rfl⟩)
      go_ret
      exact ⟨rfl, below_next (below_al (Below.refl _ _) _) hb1⟩
    · obtain ⟨k0, k1⟩ := inB_iff.1 h2
      have hR := fun w => spec_l3First s b u k w u0 (by omega) k0 k1
      have hp := pw_pos k
      have hq := pw_max k1
      have g1 := up_ge (u := u) hp
      have g2 := up_lt (u := u) hp
      have hsb := pw_i64 b1
      have h2k : (2 : Int) ^ k.toNat = pw k := rfl
      simp only [and_self, if_true]
      unfold roomOf
      clear h1
      generalize up u (pw k) = F at *
      generalize pw k = K at *
      generalize pw b = B at *
      have hd2 : IntKind.i64.wrap (B - F) = B - F := i64_id (by omega) (by omega)
      have hcase : ∀ M : Int, max 0 ((B - F) / K) = M → ((B - F) / K ≤ 0 ∧ M = 0 ∨ ¬ (B - F) / K ≤ 0 ∧ M = (B - F) / K) := by
        rintro M rfl
        omega
      generalize hM : max 0 ((B - F) / K) = M at *
      have hcase := hcase M rfl
      clear hM
      rcases hcase with ⟨hx, rfl⟩ | ⟨hx, rfl⟩
      all_goals
        go_enter Try.func20, Try.ntmps20
        go_wp2_with fail
        refine (hV _).mono ?_
        rintro e w1 ⟨rfl, hb1⟩
        have hA := (IAt.new w 25 [s, b, u]).belowSelf hb1
        have hB := below_next (below_al (Below.refl _ w) _) hb1
        have hS0 : Kept w.heap.size w [(w.heap.size, 25, [s, b, u])] w1 := Kept.cons hA (Kept.nil hB hB.size)
        go_wp2_with (go_at_call 37; refine (spec_in _ _ _ _).mono ?_; rintro e w' ⟨rfl, rfl⟩)
        clear hA hB hb1
        generalize hP : w.heap.size = p at *
        have HP := Lib.hid hP
        clear hP
        go_region_held3 (fun w' => Kept p w [(p, 25, [s, b, u])] w' ∧ w'.cell? ⟨p, 0, none⟩ = some (.int .i64 s) ∧ w'.cell? ⟨p, 1, none⟩ = some (.int .i64 b) ∧ w'.cell? ⟨p, 2, none⟩ = some (.int .i64 u))
          (first | exact kept_3 (Kept.drew hS0) | exact kept_3 (Kept.step (by assumption) (by assumption)) | exact kept_3 (Kept.same (by assumption)))
          (first | (go_at_call 39; refine (hR _).mono ?_; rintro e w9 ⟨rfl, hb9⟩))
        have hS1 : Kept p w [(p, 25, [s, b, u])] w9 := And.left (by assumption)
        go_wp2_with fail
        go_ret
        exact ⟨rfl, HP.out ▸ hS1.2.1⟩

def splitOk (s b u : Int) : Bool := pieceOk s b u && !(b == 0) && (u == 0)

set_option maxHeartbeats 4000000 in
theorem spec_SplitPiece_no (s b u : Int) (w : World) (h : splitOk s b u = false) :
    Calls Try.prog 22 #[.agg #[.int .i64 s, .int .i64 b, .int .i64 u]] w fun e w' => e = .returned (.tuple #[.agg #[.int .i64 0, .int .i64 0, .int .i64 0], .agg #[.int .i64 0, .int .i64 0, .int .i64 0], .bool false]) ∧ Below w.heap.size w w' := by
  have hV := spec_PieceValid s b u
  have H := Lib.hid h
  clear h
  cases h1 : pieceOk s b u
  · rw [h1] at hV
    go_enter Try.func22, Try.ntmps22
    go_wp2_with fail
    refine (hV _).mono ?_
    rintro e w1 ⟨rfl, hb1⟩
    obtain ⟨hc1, hf1⟩ := bcell hb1
    have hz := hb1.size
    simp at hz
    have hB := below_next (below_al (below_al (below_al (Below.refl _ w) _) _) _) hb1
    go_wp2_with fail
    refine bodyPost_ret (v := .tuple #[.agg #[.int .i64 0, .int .i64 0, .int .i64 0], .agg #[.int .i64 0, .int .i64 0, .int .i64 0], .bool false]) (by simp [results, Try.results22, go_sem, hc1]) rfl ⟨rfl, ?_⟩
    exact (by repeat (with_reducible first | exact hB | refine below_al ?_ _ | refine below_set ?_ (by first | (simp; done) | (simp; omega)) _))
  · rw [h1] at hV
    obtain ⟨⟨b0, b1⟩, ⟨s0, s1⟩, -, u0, u1⟩ := pieceOk_iff.1 h1
    by_cases h2 : b = 0
    · subst h2
      go_enter Try.func22, Try.ntmps22
      go_wp2_with fail
      refine (hV _).mono ?_
      rintro e w1 ⟨rfl, hb1⟩
      obtain ⟨hc1, hf1⟩ := bcell hb1
      have hz := hb1.size
      simp at hz
      have hB := below_next (below_al (below_al (below_al (Below.refl _ w) _) _) _) hb1
      go_wp2_with fail
      refine bodyPost_ret (v := .tuple #[.agg #[.int .i64 0, .int .i64 0, .int .i64 0], .agg #[.int .i64 0, .int .i64 0, .int .i64 0], .bool false]) (by simp [results, Try.results22, go_sem, hc1]) rfl ⟨rfl, ?_⟩
      exact (by repeat (with_reducible first | exact hB | refine below_al ?_ _ | refine below_set ?_ (by first | (simp; done) | (simp; omega)) _))
    · have h2' : (b == 0) = false := by rw [beq_eq_false_iff_ne]; exact h2
      have h2l : 1 ≤ b := by omega
      have h3 : 0 < u := by
        by_cases hu : u = 0
        · have := H.out
          rw [hu] at h1 this
          simp [splitOk, h1, h2] at this
        · omega
      have h3' : (u != 0) = true := by rw [bne_iff_ne]; omega
      clear h2
      go_enter Try.func22, Try.ntmps22
      go_wp2_with fail
      refine (hV _).mono ?_
      rintro e w1 ⟨rfl, hb1⟩
      obtain ⟨hc1, hf1⟩ := bcell hb1
      have hz := hb1.size
      simp at hz
      have hB := below_next (below_al (below_al (below_al (Below.refl _ w) _) _) _) hb1
      go_wp2_with fail
      refine bodyPost_ret (v := .tuple #[.agg #[.int .i64 0, .int .i64 0, .int .i64 0], .agg #[.int .i64 0, .int .i64 0, .int .i64 0], .bool false]) (by simp [results, Try.results22, go_sem, hc1]) rfl ⟨rfl, ?_⟩
      exact (by repeat (with_reducible first | exact hB | refine below_al ?_ _ | refine below_set ?_ (by first | (simp; done) | (simp; omega)) _))

set_option maxHeartbeats 4000000 in
theorem impl_SplitPiece_no (s b u : Int) (w : World) (h : splitOk s b u = false) :
    Calls Try.prog 23 #[.agg #[.int .i64 s, .int .i64 b, .int .i64 u]] w fun e w' => e = .returned (.tuple #[.agg #[.int .i64 0, .int .i64 0, .int .i64 0], .agg #[.int .i64 0, .int .i64 0, .int .i64 0], .bool false]) ∧ Below w.heap.size w w' := by
  have hV := impl_PieceValid s b u
  have H := Lib.hid h
  clear h
  cases h1 : pieceOk s b u
  · rw [h1] at hV
    go_enter Try.func23, Try.ntmps23
    go_wp2_with fail
    refine (hV _).mono ?_
    rintro e w1 ⟨rfl, hb1⟩
    obtain ⟨hc1, hf1⟩ := bcell hb1
    have hz := hb1.size
    simp at hz
    have hB := below_next (below_al (below_al (below_al (Below.refl _ w) _) _) _) hb1
    go_wp2_with fail
    refine bodyPost_ret (v := .tuple #[.agg #[.int .i64 0, .int .i64 0, .int .i64 0], .agg #[.int .i64 0, .int .i64 0, .int .i64 0], .bool false]) (by simp [results, Try.results23, go_sem, hc1]) rfl ⟨rfl, ?_⟩
    exact (by repeat (with_reducible first | exact hB | refine below_al ?_ _ | refine below_set ?_ (by first | (simp; done) | (simp; omega)) _))
  · rw [h1] at hV
    obtain ⟨⟨b0, b1⟩, ⟨s0, s1⟩, -, u0, u1⟩ := pieceOk_iff.1 h1
    by_cases h2 : b = 0
    · subst h2
      go_enter Try.func23, Try.ntmps23
      go_wp2_with fail
      refine (hV _).mono ?_
      rintro e w1 ⟨rfl, hb1⟩
      obtain ⟨hc1, hf1⟩ := bcell hb1
      have hz := hb1.size
      simp at hz
      have hB := below_next (below_al (below_al (below_al (Below.refl _ w) _) _) _) hb1
      go_wp2_with fail
      refine bodyPost_ret (v := .tuple #[.agg #[.int .i64 0, .int .i64 0, .int .i64 0], .agg #[.int .i64 0, .int .i64 0, .int .i64 0], .bool false]) (by simp [results, Try.results23, go_sem, hc1]) rfl ⟨rfl, ?_⟩
      exact (by repeat (with_reducible first | exact hB | refine below_al ?_ _ | refine below_set ?_ (by first | (simp; done) | (simp; omega)) _))
    · have h2' : (b == 0) = false := by rw [beq_eq_false_iff_ne]; exact h2
      have h2l : 1 ≤ b := by omega
      have h3 : 0 < u := by
        by_cases hu : u = 0
        · have := H.out
          rw [hu] at h1 this
          simp [splitOk, h1, h2] at this
        · omega
      have h3' : (u != 0) = true := by rw [bne_iff_ne]; omega
      clear h2
      go_enter Try.func23, Try.ntmps23
      go_wp2_with fail
      refine (hV _).mono ?_
      rintro e w1 ⟨rfl, hb1⟩
      obtain ⟨hc1, hf1⟩ := bcell hb1
      have hz := hb1.size
      simp at hz
      have hB := below_next (below_al (below_al (below_al (Below.refl _ w) _) _) _) hb1
      go_wp2_with fail
      refine bodyPost_ret (v := .tuple #[.agg #[.int .i64 0, .int .i64 0, .int .i64 0], .agg #[.int .i64 0, .int .i64 0, .int .i64 0], .bool false]) (by simp [results, Try.results23, go_sem, hc1]) rfl ⟨rfl, ?_⟩
      exact (by repeat (with_reducible first | exact hB | refine below_al ?_ _ | refine below_set ?_ (by first | (simp; done) | (simp; omega)) _))

set_option maxHeartbeats 4000000 in
theorem spec_SplitPiece_yes (s b u : Int) (w : World) (h : splitOk s b u = true) :
    Calls Try.prog 22 #[.agg #[.int .i64 s, .int .i64 b, .int .i64 u]] w fun e w' => e = .returned (.tuple #[.agg #[.int .i64 s, .int .i64 (b - 1), .int .i64 0], .agg #[.int .i64 (s + pw (b - 1)), .int .i64 (b - 1), .int .i64 0], .bool true]) ∧ Below w.heap.size w w' := by
  have hV := spec_PieceValid s b u
  simp only [splitOk, Bool.and_eq_true, Bool.not_eq_true', beq_eq_false_iff_ne, beq_iff_eq] at h
  obtain ⟨⟨h1, h2⟩, rfl⟩ := h
  rw [h1] at hV
  obtain ⟨⟨b0, b1⟩, ⟨s0, s1⟩, -, u0, u1⟩ := pieceOk_iff.1 h1
  have h2' : (b == 0) = false := by rw [beq_eq_false_iff_ne]; exact h2
  have h2l : 1 ≤ b := by omega
  have hl := pw_lt (a := b - 1) (b := b) (by omega) (by omega)
  have hsh := pw_wrap (b := b - 1) (by omega)
  have hsh2 := pw_i64 (b := b - 1) (by omega)
  have hp := pw_pos (b - 1)
  have hw1 : IntKind.i64.wrap (b - 1) = b - 1 := i64_id (by omega) (by omega)
  have hb1' : 0 ≤ b - 1 := by omega
  clear h2 h1
  generalize pw b = B at *
  generalize pw (b - 1) = B' at *
  have hn : (b - 1).toNat = b.toNat - 1 := by omega
  rw [hn] at hsh hsh2
  clear hn
  have hsum : IntKind.i64.wrap (s + B') = s + B' := i64_id (by omega) (by omega)
  go_enter Try.func22, Try.ntmps22
  go_wp2_with fail
  refine (hV _).mono ?_
  rintro e w1 ⟨rfl, hb1⟩
  obtain ⟨hc1, hf1⟩ := bcell hb1
  have hz := hb1.size
  simp at hz
  have hz0 : w.heap.size < w1.heap.size := by omega
  have hz1 : w.heap.size + 1 < w1.heap.size := by omega
  have hz2 : w.heap.size + 1 + 1 < w1.heap.size := by omega
  have hB := below_next (below_al (below_al (below_al (Below.refl _ w) _) _) _) hb1
  go_wp2_with fail
  go_region
  go_wp2_with fail
  go_region
  go_wp2_with fail
  refine bodyPost_ret (v := .tuple #[.agg #[.int .i64 s, .int .i64 (b - 1), .int .i64 0], .agg #[.int .i64 (s + B'), .int .i64 (b - 1), .int .i64 0], .bool true]) (by simp [results, Try.results22, go_sem, hc1, hz0, hz1, hz2]) rfl ⟨rfl, ?_⟩
  exact (by repeat (with_reducible first | exact hB | refine below_drew ?_ | refine below_al ?_ _ | refine below_set ?_ (by first | (simp; done) | (simp; omega)) _))

set_option maxHeartbeats 4000000 in
theorem impl_SplitPiece_yes (s b u : Int) (w : World) (h : splitOk s b u = true) :
    Calls Try.prog 23 #[.agg #[.int .i64 s, .int .i64 b, .int .i64 u]] w fun e w' => e = .returned (.tuple #[.agg #[.int .i64 s, .int .i64 (b - 1), .int .i64 0], .agg #[.int .i64 (s + pw (b - 1)), .int .i64 (b - 1), .int .i64 0], .bool true]) ∧ Below w.heap.size w w' := by
  have hV := impl_PieceValid s b u
  simp only [splitOk, Bool.and_eq_true, Bool.not_eq_true', beq_eq_false_iff_ne, beq_iff_eq] at h
  obtain ⟨⟨h1, h2⟩, rfl⟩ := h
  rw [h1] at hV
  obtain ⟨⟨b0, b1⟩, ⟨s0, s1⟩, -, u0, u1⟩ := pieceOk_iff.1 h1
  have h2' : (b == 0) = false := by rw [beq_eq_false_iff_ne]; exact h2
  have h2l : 1 ≤ b := by omega
  have hl := pw_lt (a := b - 1) (b := b) (by omega) (by omega)
  have hsh := pw_wrap (b := b - 1) (by omega)
  have hsh2 := pw_i64 (b := b - 1) (by omega)
  have hp := pw_pos (b - 1)
  have hw1 : IntKind.i64.wrap (b - 1) = b - 1 := i64_id (by omega) (by omega)
  have hb1' : 0 ≤ b - 1 := by omega
  clear h2 h1
  generalize pw b = B at *
  generalize pw (b - 1) = B' at *
  have hn : (b - 1).toNat = b.toNat - 1 := by omega
  rw [hn] at hsh hsh2
  clear hn
  have hsum : IntKind.i64.wrap (s + B') = s + B' := i64_id (by omega) (by omega)
  go_enter Try.func23, Try.ntmps23
  go_wp2_with fail
  refine (hV _).mono ?_
  rintro e w1 ⟨rfl, hb1⟩
  obtain ⟨hc1, hf1⟩ := bcell hb1
  have hz := hb1.size
  simp at hz
  have hz0 : w.heap.size < w1.heap.size := by omega
  have hz1 : w.heap.size + 1 < w1.heap.size := by omega
  have hz2 : w.heap.size + 1 + 1 < w1.heap.size := by omega
  have hB := below_next (below_al (below_al (below_al (Below.refl _ w) _) _) _) hb1
  go_wp2_with fail
  go_region
  go_wp2_with fail
  refine bodyPost_ret (v := .tuple #[.agg #[.int .i64 s, .int .i64 (b - 1), .int .i64 0], .agg #[.int .i64 (s + B'), .int .i64 (b - 1), .int .i64 0], .bool true]) (by simp [results, Try.results23, go_sem, hc1]) rfl ⟨rfl, ?_⟩
  exact (by repeat (with_reducible first | exact hB | refine below_drew ?_ | refine below_al ?_ _ | refine below_set ?_ (by first | (simp; done) | (simp; omega)) _))

/-- What SplitPiece answers. -/
def Split (s b u : Int) (w : World) (e : Ending) (w' : World) : Prop :=
  e = .returned (.tuple #[.agg #[.int .i64 (if splitOk s b u then s else 0), .int .i64 (if splitOk s b u then b - 1 else 0), .int .i64 0], .agg #[.int .i64 (if splitOk s b u then s + pw (b - 1) else 0), .int .i64 (if splitOk s b u then b - 1 else 0), .int .i64 0], .bool (splitOk s b u)]) ∧ Below w.heap.size w w'
theorem spec_SplitPiece_is (s b u : Int) (w : World) : Calls Try.prog 22 #[.agg #[.int .i64 s, .int .i64 b, .int .i64 u]] w (Split s b u w) := by
  unfold Split
  cases h : splitOk s b u
  · exact spec_SplitPiece_no s b u w h
  · exact spec_SplitPiece_yes s b u w h
theorem impl_SplitPiece_is (s b u : Int) (w : World) : Calls Try.prog 23 #[.agg #[.int .i64 s, .int .i64 b, .int .i64 u]] w (Split s b u w) := by
  unfold Split
  cases h : splitOk s b u
  · exact impl_SplitPiece_no s b u w h
  · exact impl_SplitPiece_yes s b u w h

end Go.Proofs.Ytabjkjbclpokeaa
