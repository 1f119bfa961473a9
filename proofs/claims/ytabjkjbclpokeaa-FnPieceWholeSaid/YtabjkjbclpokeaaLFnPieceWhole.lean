/- The law FnPieceWhole: whatever its arguments, the call returns true, and every argument reads afterwards as it read before. No condition. -/
import Derived.Test.YtabjkjbclpokeaaRetype
import Derived.Test.YtabjkjbclpokeaaDrawPieceLaws
import Derived.Test.YtabjkjbclpokeaaTexts
namespace Go.Proofs.Ytabjkjbclpokeaa
open Go.ChangeShapes Go.WideShapes Go.ChangeAt Go.RowKit
open Go.ChangeMaps (open_string shut_string)
set_option linter.unusedVariables false

theorem kept_3_3 {B : Nat} {w0 w : World} {c0 c1 : Nat} {T0 T1 : TypeId} {x0_0 x0_1 x0_2 x1_0 x1_1 x1_2 : Int} (h : Kept B w0 [(c0, T0, [x0_0, x0_1, x0_2]), (c1, T1, [x1_0, x1_1, x1_2])] w) : Kept B w0 [(c0, T0, [x0_0, x0_1, x0_2]), (c1, T1, [x1_0, x1_1, x1_2])] w ∧ w.cell? ⟨c0, 0, none⟩ = some (.int .i64 x0_0) ∧ w.cell? ⟨c0, 1, none⟩ = some (.int .i64 x0_1) ∧ w.cell? ⟨c0, 2, none⟩ = some (.int .i64 x0_2) ∧ w.cell? ⟨c1, 0, none⟩ = some (.int .i64 x1_0) ∧ w.cell? ⟨c1, 1, none⟩ = some (.int .i64 x1_1) ∧ w.cell? ⟨c1, 2, none⟩ = some (.int .i64 x1_2) :=
  ⟨h, h.cell 0 0 rfl rfl, h.cell 0 1 rfl rfl, h.cell 0 2 rfl rfl, h.cell 1 0 rfl rfl, h.cell 1 1 rfl rfl, h.cell 1 2 rfl rfl⟩

/-- Blocks that stay, and a list of one integer. -/
def KI (B : Nat) (w0 : World) (l : List (Nat × TypeId × List Int)) (A : Option Addr) (c : Nat) (s : Int) (w : World) : Prop := Kept B w0 l w ∧ OwnI w B A 1 c [s]
section
variable {B c : Nat} {w0 w w1 : World} {l : List (Nat × TypeId × List Int)} {A : Option Addr} {s : Int} {R : Prop}
theorem KI.drew (h : KI B w0 l A c s w) : KI B w0 l A c s w.drew := ⟨h.1.drew, h.2⟩
theorem KI.step (hb : Below w.heap.size w w1) (h : KI B w0 l A c s w ∧ R) : KI B w0 l A c s w1 := ⟨Kept.step hb ⟨h.1.1, trivial⟩, h.1.2.below hb⟩
theorem KI.alloc (h : KI B w0 l A c s w ∧ R) (o : Obj) : KI B w0 l A c s (w.alloc o) := KI.step (below_al (Below.refl _ _) o) h
theorem same_new {g : Nat} (hc : w.heap[g]? = some (.cells #[.int .i64 s] 3 (0, 0))) (h : KI B w0 l A c s w ∧ R) :
    Calls Try.prog 34 #[.slice A 1 c, .slice (some ⟨g, 0, none⟩) 1 1] w fun e w' => e = .returned (.bool true) ∧ Below w.heap.size w w' :=
  laws_sameInts A _ 1 c 1 _ g [s] _ h.1.2 ⟨rfl, .inr ⟨g, 1, _, rfl, Nat.le_refl _, hc, Nat.le_refl _, by decide, rfl, rfl⟩⟩ (by omega)
end
theorem ki_3_3 {B c : Nat} {w0 w : World} {A : Option Addr} {s b u x : Int} {p q : Nat} {T T' : TypeId} (h : KI B w0 [(p, T, [s, b, u]), (q, T', [s, b, x])] A c s w) :
    KI B w0 [(p, T, [s, b, u]), (q, T', [s, b, x])] A c s w ∧ w.cell? ⟨p, 0, none⟩ = some (.int .i64 s) ∧ w.cell? ⟨p, 1, none⟩ = some (.int .i64 b) ∧ w.cell? ⟨p, 2, none⟩ = some (.int .i64 u) ∧ w.cell? ⟨q, 0, none⟩ = some (.int .i64 s) ∧ w.cell? ⟨q, 1, none⟩ = some (.int .i64 b) ∧ w.cell? ⟨q, 2, none⟩ = some (.int .i64 x) :=
  ⟨h, h.1.cell 0 0 rfl rfl, h.1.cell 0 1 rfl rfl, h.1.cell 0 2 rfl rfl, h.1.cell 1 0 rfl rfl, h.1.cell 1 1 rfl rfl, h.1.cell 1 2 rfl rfl⟩

theorem whole_yes {s b : Int} (h : pieceOk s b 0 = true) : ∀ W, Calls Try.prog 26 #[.agg #[.int .i64 s, .int .i64 b, .int .i64 0], .int .i64 b, .int .i64 1] W (Retyped (.agg #[.int .i64 s, .int .i64 b, .int .i64 (pw b)]) [s] true W) := fun W => by
  obtain ⟨⟨b0, b1⟩, ⟨s0, s1⟩, _, _⟩ := pieceOk_iff.1 h
  have hp := pw_pos b
  have hr : roomOf (pw b) 0 (pw b) = 1 := by
    unfold roomOf
    rw [up_zero hp, Int.sub_zero, Int.ediv_self (by omega)]
    decide
  have := impl_RetypePiece_yes s b 0 b 1 W (by
    simp only [retOk, h, Bool.true_and]
    rw [inB_iff.2 ⟨b0, b1⟩]
    rfl) (by rw [hr]; decide)
  rw [up_zero hp] at this
  have e1 : objs s 0 (pw b) 1 = [s] := by simp [objs]
  rw [e1] at this
  simpa using this
theorem whole_none {s b : Int} (h : pieceOk s b 0 = true) : roomB s b (pw b) 0 = 0 := by
  obtain ⟨hb, hs, hm, _⟩ := pieceOk_iff.1 h
  have hp := pw_pos b
  rw [roomB_iff, if_pos ⟨pieceOk_iff.2 ⟨hb, hs, hm, by omega⟩, by decide⟩]
  unfold roomOf
  have : up (pw b) (pw 0) = pw b := by
    unfold up
    rw [pw_zero]
    simp
  rw [this, Int.sub_self]
  simp

set_option maxHeartbeats 8000000 in
theorem walk_FnPieceWhole (v0 : Value) (w : World) (w0 : BytesIn w v0) :
    Calls Try.prog 12 #[v0] w fun e w' => e = .returned (.bool true) ∧ Below w.heap.size w w' := by
  have hd := drawPieceValid v0 w w0
  obtain ⟨A, n, cap, bs, rfl, hn, hc, _⟩ := w0
  by_cases h20 : (1048576 : Int) < (n : Int)
  · go_enter Try.func12, Try.ntmps12
    go_wp2_with fail
    go_ret
    exact ⟨rfl, Below.refl _ _⟩
  · go_enter Try.func12, Try.ntmps12
    go_wp2_with fail
    refine hd.mono ?_
    rintro e w1 ⟨s, b, u, rfl, hb1⟩
    have hA1 := IAt.new w1 25 [s, b, 0]
    have hB1 := below_al hb1 (.cells #[.int .i64 s, .int .i64 b, .int .i64 0] 25)
    have hS0 : Kept w.heap.size w [(w1.heap.size, 25, [s, b, 0])] _ := Kept.cons hA1 (Kept.nil hB1 hB1.size)
    simp only [List.map_cons, List.map_nil] at hS0
    have hV := spec_PieceValid s b 0
    clear hb1 hd hA1 hB1
    go_wp2_with fail
    generalize w1.alloc (.cells #[.int .i64 s, .int .i64 b, .int .i64 0] 25) = W at *
    generalize w1.heap.size = p at *
    generalize hHB : w.heap.size = Z at *
    have HB := Lib.hid hHB
    clear hHB
    cases hp : pieceOk s b 0
    all_goals
      rw [hp] at hV
      (first
        | (go_region_held3 (fun w' => Kept Z w [(p, 25, [s, b, 0])] w' ∧ w'.cell? ⟨p, 0, none⟩ = some (.int .i64 s) ∧ w'.cell? ⟨p, 1, none⟩ = some (.int .i64 b) ∧ w'.cell? ⟨p, 2, none⟩ = some (.int .i64 0))
            (first | exact kept_3 (Kept.drew hS0) | exact kept_3 (Kept.step (by assumption) (by assumption)) | exact kept_3 (Kept.same (by assumption)))
            (first | (go_at_call 17; refine (impl_PieceValid _ _ _ _).mono ?_; rintro e w9 ⟨rfl, hb9⟩) | (go_at_call 15; refine (hV _).mono ?_; rintro e w9 ⟨rfl, hb9⟩)))
        | fail)
      have hS1 : Kept Z w [(p, 25, [s, b, 0])] w9 := And.left (by assumption)
      have hA2 := hS1.at_ 0 rfl
      have hlt2 := hA2.lt
      obtain ⟨c0, c1, c2⟩ := hA2.cells3
      go_wp2_with fail
      refine (hV _).mono ?_
      rintro e w10 ⟨rfl, hb10⟩
    · go_wp2_with fail
      refine (laws_alive _).mono ?_
      rintro e w11 ⟨rfl, hb11⟩
      go_wp2_with fail
      go_ret
      exact ⟨rfl, below_next (below_next (HB.out ▸ hS1.2.1) hb10) hb11⟩
    · obtain ⟨⟨b0, b1⟩, ⟨s0, s1⟩, -, -⟩ := pieceOk_iff.1 hp
      have hY := whole_yes hp
      have hN := whole_none hp
      have hsh := pw_i64 b1
      have hpp := pw_pos b
      have hpq := pw_max b1
      have hS2 := Kept.step hb10 ⟨hS1, trivial⟩
      have hA3 := hS2.at_ 0 rfl
      have hlt3 := hA3.lt
      clear c0 c1 c2 hp hV hA2 hb10 hS1 hS0 hlt2
      obtain ⟨c0, c1, c2⟩ := hA3.cells3
      generalize pw b = B at *
      go_wp2_with fail
      refine (hY _).mono ?_
      rintro e w11 ⟨A, c, rfl, hO, hb11⟩
      have hS3 := Kept.step hb11 ⟨hS2, trivial⟩
      have hA4 := IAt.alloc (hS3.at_ 0 rfl) (.cells #[.int .i64 s, .int .i64 b, .int .i64 B] 25)
      have hX4 := IAt.new w11 25 [s, b, B]
      simp only [List.map_cons, List.map_nil] at hX4
      have hO4 := OwnI.alloc (OwnI.more hO hS2.2.2) (.cells #[.int .i64 s, .int .i64 b, .int .i64 B] 25)
      have hB4 := hS3.2.1.alloc hS3.2.2 (.cells #[.int .i64 s, .int .i64 b, .int .i64 B] 25)
      have hS4 : KI Z w [(p, 25, [s, b, 0]), (w11.heap.size, 25, [s, b, B])] A c s _ := ⟨Kept.cons hA4 (Kept.cons hX4 (Kept.nil hB4 (by have := hS3.2.2; simp; omega))), hO4⟩
      clear hO hb11 hS3 hA4 hX4 hO4 hB4 hA3 hS2 c0 c1 c2 hY hlt3
      go_wp2_with fail
      generalize w11.alloc (.cells #[.int .i64 s, .int .i64 b, .int .i64 B] 25) = V at *
      generalize w11.heap.size = q at *
      (first
        | (go_region_held3 (fun w' => KI Z w [(p, 25, [s, b, 0]), (q, 25, [s, b, B])] A c s w' ∧ w'.cell? ⟨p, 0, none⟩ = some (.int .i64 s) ∧ w'.cell? ⟨p, 1, none⟩ = some (.int .i64 b) ∧ w'.cell? ⟨p, 2, none⟩ = some (.int .i64 0) ∧ w'.cell? ⟨q, 0, none⟩ = some (.int .i64 s) ∧ w'.cell? ⟨q, 1, none⟩ = some (.int .i64 b) ∧ w'.cell? ⟨q, 2, none⟩ = some (.int .i64 B))
            (first | exact ki_3_3 (KI.drew hS4) | exact ki_3_3 (KI.drew (KI.alloc (And.intro hS4 trivial) _)) | exact ki_3_3 (KI.step (by assumption) (by assumption)))
            (first | (go_at_call 34; refine (same_new (w := (V.alloc (.cells #[.int .i64 s] 3)).drew) (heap_alloc_new V (.cells #[.int .i64 s] 3)) (by assumption)).mono ?_; rintro e w12 ⟨rfl, hb12⟩) | (go_at_call 21; refine (impl_PieceRoom _ _ _ _ _).mono ?_; rintro e w12 ⟨rfl, hb12⟩)))
        | fail)
      have hS5 : KI Z w [(p, 25, [s, b, 0]), (q, 25, [s, b, B])] A c s w12 := And.left (by assumption)
      go_wp2_with fail
      go_ret
      exact ⟨rfl, HB.out ▸ hS5.1.2.1⟩

set_option maxRecDepth 100000 in
theorem lifted_FnPieceWhole (os : Os) (started : os.Started) (H : Type) (enc : TypeId × Value → H) :
    ReturnsInHanded {} Try.checked os 12 .any (Rows.fnPieceWholeSpec.pre6 enc Try.prog Try.f12 Rows.fnPieceWholeRow.domain false) (Rows.fnPieceWholeSpec.post enc Try.prog Try.f12 false true false false) := by
  refine returnsInHanded_of_change (C := Try.checked) row_own started (by kernel_rfl) Try.func12
    (ChangeSpec.witness6 (enc := enc) (C := Try.checked) false ⟨#[], #[.slice none 0 0], []⟩ 8 (by kernel_rfl) (by kernel_rfl) (by kernel_rfl) (by kernel_rfl)) ?_
  intro W base args ds gs before hval0 hW hcnd _
  have hval : ∀ (j : Nat) t v, Try.f12.params[j]? = some t → args[j]? = some v → Value.okWide Try.prog W .any base t v := hval0
  have hW' := hW
  obtain ⟨p, q, hA0, hV, rfl, hfz, hnd⟩ := hW
  have hA : DataW.TrodAll enc Try.prog W 0 (fun _ => true) true Try.f12.params.toList args.toList ds p := hA0
  rw [Try.params12] at hA hval
  obtain ⟨v0, vs0, d0, ds0, p0, q0, hargs, rfl, rfl, h0, r0⟩ := trodAll_cons hA
  obtain ⟨rfl, rfl, rfl⟩ := trodAll_nil r0
  obtain rfl : args = #[v0] := by cases args; simp_all
  obtain ⟨rfl, rfl⟩ := trodVars_none hV
  have k0 := h0
  have lt0 : ∀ x ∈ p0, x.block < W.heap.size := by obtain ⟨m, hm⟩ := k0; exact DataW.trod_lt m _ _ _ hm
  have w0 := open_bytes (hval 0 41 v0 rfl rfl) h0
  clear hA0 hval0
  refine (walk_FnPieceWhole v0 W w0).mono fun e W' ⟨he, bel⟩ => ?_
  subst he
  exact ⟨_, rfl, _, _, _, [], _, [], hW', trodAll_mk1 (shut_bool Try.underlying4 _), (trodAll_cons_mk (Below.trod row_laidOut (by kernel_rfl) (of_decide_eq_true (by kernel_rfl)) k0 bel lt0) trodAll_mk0), rfl, bel.frame _, fun h => by cases h⟩

theorem over_FnPieceWhole : Rows.fnPieceWholeRow.holds Try.pinned (OpenSpec.ofChange Rows.fnPieceWholeSpec) :=
  OpenClaim.holds_of_wide 12 Try.f12 rfl rfl rfl rfl rfl rfl rfl ⟨rfl, rfl, rfl, rfl, rfl⟩ rfl rfl rfl rfl rfl (by kernel_rfl) Try.func12 (by kernel_rfl)
    (of_decide_eq_true (by kernel_rfl)) (by unfold Func.isWrapper; first | (rw [if_pos (by decide +kernel)]; kernel_rfl) | (rw [if_neg (by decide +kernel)]; exact ⟨rfl, rfl⟩))
    (fun os started H enc _ => lifted_FnPieceWhole os started H enc)

theorem FnPieceWhole_holds : Rows.FnPieceWholeSaid := over_FnPieceWhole

end Go.Proofs.Ytabjkjbclpokeaa
