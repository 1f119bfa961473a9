/- The law FnRetypePiece: whatever its arguments, the call returns true, and every argument reads afterwards as it read before. No condition. -/
import Derived.Test.YtabjkjbclpokeaaRetype
import Derived.Test.YtabjkjbclpokeaaDrawPieceLaws
import Derived.Test.YtabjkjbclpokeaaTexts
namespace Go.Proofs.Ytabjkjbclpokeaa
open Go.ChangeShapes Go.WideShapes Go.ChangeAt Go.RowKit
open Go.ChangeMaps (open_string shut_string)
set_option linter.unusedVariables false

theorem kept_3_3 {B : Nat} {w0 w : World} {c0 c1 : Nat} {T0 T1 : TypeId} {x0_0 x0_1 x0_2 x1_0 x1_1 x1_2 : Int} (h : Kept B w0 [(c0, T0, [x0_0, x0_1, x0_2]), (c1, T1, [x1_0, x1_1, x1_2])] w) : Kept B w0 [(c0, T0, [x0_0, x0_1, x0_2]), (c1, T1, [x1_0, x1_1, x1_2])] w ∧ w.cell? ⟨c0, 0, none⟩ = some (.int .i64 x0_0) ∧ w.cell? ⟨c0, 1, none⟩ = some (.int .i64 x0_1) ∧ w.cell? ⟨c0, 2, none⟩ = some (.int .i64 x0_2) ∧ w.cell? ⟨c1, 0, none⟩ = some (.int .i64 x1_0) ∧ w.cell? ⟨c1, 1, none⟩ = some (.int .i64 x1_1) ∧ w.cell? ⟨c1, 2, none⟩ = some (.int .i64 x1_2) :=
  ⟨h, h.cell 0 0 rfl rfl, h.cell 0 1 rfl rfl, h.cell 0 2 rfl rfl, h.cell 1 0 rfl rfl, h.cell 1 1 rfl rfl, h.cell 1 2 rfl rfl⟩

theorem obj_facts {s b u k : Int} {m : Nat} (h : retOk s b u k m = true) (hr : (m : Int) ≤ roomOf (pw b) u (pw k)) :
    (∀ j : Nat, j < m → 0 ≤ s + (up u (pw k) + (j : Int) * pw k) ∧ s + (up u (pw k) + (j : Int) * pw k) + pw k ≤ s + pw b ∧ s + u ≤ s + (up u (pw k) + (j : Int) * pw k) ∧ (s + (up u (pw k) + (j : Int) * pw k)) % pw k = 0) ∧
    pieceOk s b (up u (pw k) + m * pw k) = true ∧ u < up u (pw k) + m * pw k ∧ roomB s b (up u (pw k) + m * pw k) k = roomOf (pw b) u (pw k) - m ∧ roomB s b u k = roomOf (pw b) u (pw k) ∧ roomOf (pw b) u (pw k) ≤ 65536 := by
  simp only [retOk, Bool.and_eq_true] at h
  obtain ⟨⟨h1, h2⟩, h3⟩ := h
  obtain ⟨⟨b0, b1⟩, ⟨s0, s1⟩, hs, u0, u1⟩ := pieceOk_iff.1 h1
  obtain ⟨k0, k1⟩ := inB_iff.1 h2
  obtain ⟨m0, m1⟩ := inB_iff.1 h3
  obtain ⟨r1, r2, r3, r4, r5⟩ := room_case h1 k0 k1 m0 hr
  have hK := pw_pos k
  have hB := pw_pos b
  have hBm := pw_max b1
  have hF := up_mod (u := u) hK
  have hmul := fun (j : Nat) (hj : j ≤ m) => mul_bounds (m := (m : Int)) (j := (j : Int)) hK (by omega) (by omega) (show (m : Int) * pw k ≤ pw b by omega)
  refine ⟨fun j hj => ?_, ?_, ?_, ?_, ?_, ?_⟩
  · have h4 := hmul j (by omega)
    have h5 := hmul (j + 1) (by omega)
    rw [show ((j + 1 : Nat) : Int) = (j : Int) + 1 by omega, Int.add_mul] at h5
    refine ⟨by omega, by omega, by omega, ?_⟩
    rw [← Int.add_assoc, Int.add_mul_emod_self_right, Int.add_emod, r5, hF]
    rfl
  · exact pieceOk_iff.2 ⟨⟨b0, b1⟩, ⟨s0, s1⟩, hs, by have := hmul m (by omega); omega⟩
  · have h5 := mul_bounds (m := (m : Int)) (j := 1) hK (by omega) m0 (show (m : Int) * pw k ≤ pw b by omega)
    omega
  · have hmm := hmul m (by omega)
    rw [roomB_iff, if_pos ⟨pieceOk_iff.2 ⟨⟨b0, b1⟩, ⟨s0, s1⟩, hs, by omega⟩, h2⟩]
    have e1 : up (up u (pw k) + m * pw k) (pw k) = up u (pw k) + m * pw k := by
      have h6 := up_add (s := up u (pw k) + m * pw k) (u := 0) hK (by rw [Int.add_mul_emod_self_right, hF])
      rw [Int.add_zero, up_zero hK, Int.add_zero] at h6
      exact h6
    unfold roomOf at hr ⊢
    rw [e1]
    have e2 : (pw b - (up u (pw k) + (m : Int) * pw k)) / pw k = (pw b - up u (pw k)) / pw k - m := by
      rw [show pw b - (up u (pw k) + (m : Int) * pw k) = (pw b - up u (pw k)) + pw k * (-(m : Int)) by rw [Int.mul_neg, Int.mul_comm (pw k) (m : Int)]; omega, Int.add_mul_ediv_left _ _ (by omega)]
      omega
    rw [e2]
    omega
  · rw [roomB_iff, if_pos ⟨h1, h2⟩]
  · unfold roomOf
    have hmm := hmul m (by omega)
    have := Int.ediv_le_self (pw k) (show 0 ≤ pw b - up u (pw k) by omega)
    omega

set_option maxRecDepth 8000 in
set_option maxHeartbeats 16000000 in
theorem walk_FnRetypePiece (v0 : Value) (w : World) (w0 : BytesIn w v0) :
    Calls Try.prog 14 #[v0] w fun e w' => e = .returned (.bool true) ∧ Below w.heap.size w w' := by
  have hd := drawRetypePiece v0 w w0
  obtain ⟨A, n0, cap, bs, rfl, hn, hc, _⟩ := w0
  by_cases h20 : (1048576 : Int) < (n0 : Int)
  · go_enter Try.func14, Try.ntmps14
    go_wp2_with fail
    go_ret
    exact ⟨rfl, Below.refl _ _⟩
  · go_enter Try.func14, Try.ntmps14
    go_wp2_with fail
    refine hd.mono ?_
    rintro e w1 ⟨s, b, u, k, m, rfl, hb1⟩
    have hA1 := IAt.new w1 25 [s, b, u]
    have hB1 := below_al hb1 (.cells #[.int .i64 s, .int .i64 b, .int .i64 u] 25)
    clear hb1 hd
    cases h : retOk s b u k m
    · have hS := fun W => spec_RetypePiece_bad s b u k m W h
      have hI : ∀ W, Calls Try.prog 26 #[.agg #[.int .i64 s, .int .i64 b, .int .i64 u], .int .i64 k, .int .i64 m] W (Retyped (.agg #[.int .i64 0, .int .i64 0, .int .i64 0]) [] false W) := fun W => (impl_RetypePiece_bad s b u k m W h).mono fun e w' ⟨he, hb⟩ => ⟨none, 0, he, OwnI.nil _ _, hb⟩
      obtain ⟨xs, hxs⟩ : ∃ xs : List Int, xs = [] := ⟨_, rfl⟩
      obtain ⟨n, hnn⟩ : ∃ n : Nat, n = 0 := ⟨_, rfl⟩
      have HN : Hid (xs.length = n) := by subst hxs hnn; rfl
      rw [← hxs] at hS hI
      have hn40 : n ≤ 40 := by omega
      have HN0 := Lib.hid hnn
      clear h hxs hnn
      go_wp2_with fail
      refine (hI _).mono ?_
      rintro e w2 ⟨A, d, rfl, hO2, hb2⟩
      rw [HN.out] at hO2 ⊢
      have hA2 := IAt.alloc (hA1.belowSelf hb2) (.cells #[.int .i64 0, .int .i64 0, .int .i64 0] 25)
      have hX2 := IAt.new w2 25 [0, 0, 0]
      have hO3 := hO2.alloc (.cells #[.int .i64 0, .int .i64 0, .int .i64 0] 25)
      have hB2 := below_al (below_next hB1 hb2) (.cells #[.int .i64 0, .int .i64 0, .int .i64 0] 25)
      have hA2' := hA1.belowSelf hb2
      have hlt2 := hA2'.lt
      obtain ⟨c0, c1, c2⟩ := hA2'.cells3
      clear hA1 hB1 hb2 hO2 hA2'
      go_wp2_with fail
      clear c0 c1 c2
      refine (hS _).mono ?_
      rintro e w3 ⟨A', d', rfl, hO4, hb3⟩
      rw [HN.out] at hO4 ⊢
      have hA3 := IAt.alloc (hA2.belowSelf hb3) (.cells #[.int .i64 0, .int .i64 0, .int .i64 0] 25)
      have hX3 := hX2.belowSelf hb3
      have hX4 := hX3.alloc (.cells #[.int .i64 0, .int .i64 0, .int .i64 0] 25)
      have hO5 := OwnI.alloc (hO3.below hb3) (.cells #[.int .i64 0, .int .i64 0, .int .i64 0] 25)
      have hO6 := hO4.alloc (.cells #[.int .i64 0, .int .i64 0, .int .i64 0] 25)
      have hB3 := below_al (below_next hB2 hb3) (.cells #[.int .i64 0, .int .i64 0, .int .i64 0] 25)
      have hlt3 := hX3.lt
      obtain ⟨c0, c1, c2⟩ := hX3.cells3
      clear hA2 hX2 hO3 hB2 hb3 hX3 hO4 hI hS
      go_wp2_with fail
      refine (laws_sameInts A A' n d d' _ _ xs _ hO5 hO6 (by omega)).mono ?_
      rintro e w4 ⟨rfl, hb4⟩
      have hA4 := hA3.belowSelf hb4
      have hX5 := hX4.belowSelf hb4
      have hO7 := hO5.below hb4
      have hB4 := below_next hB3 hb4
      have hlta := hA4.lt
      have hltx := hX5.lt
      clear hA3 hX4 hO5 hO6 hB3 hb4 c0 c1 c2 hlt2 hlt3
      generalize w1.heap.size = p at *
      generalize w2.heap.size = q at *
      have hn0 := HN0.out
      subst hn0
      obtain ⟨c0, c1, c2⟩ := hA4.cells3
      obtain ⟨d0, d1, d2⟩ := hX5.cells3
      cases q0 : ((0 : Int) == s) <;> cases q1 : ((0 : Int) == b) <;> cases q2 : ((0 : Int) == u)
      all_goals
        go_wp2_with fail
        refine (laws_alive _).mono ?_
        rintro e w5 ⟨rfl, hb5⟩
        go_wp2_with fail
        go_ret
        exact ⟨rfl, below_next hB4 hb5⟩
    · by_cases hr : m ≤ roomOf (pw b) u (pw k)
      · obtain ⟨m, rfl⟩ : ∃ m' : Nat, m = m' := ⟨m.toNat, by
          simp only [retOk, Bool.and_eq_true] at h
          have := (inB_iff.1 h.2).1
          omega⟩
        obtain ⟨hob, hpk, hgt, hr1, hr2, hMle⟩ := obj_facts h hr
        have hS := fun W => spec_RetypePiece_yes s b u k m W h hr
        have hI := fun W => impl_RetypePiece_yes s b u k m W h hr
        have hlen := objs_len s (up u (pw k)) (pw k) m
        have hat := objs_at s (up u (pw k)) (pw k) m
        simp only [retOk, Bool.and_eq_true] at h
        obtain ⟨⟨h1, h2⟩, h3⟩ := h
        obtain ⟨⟨b0, b1⟩, ⟨s0, s1⟩, -, u0, u1⟩ := pieceOk_iff.1 h1
        obtain ⟨k0, k1⟩ := inB_iff.1 h2
        obtain ⟨m0, m1⟩ := inB_iff.1 h3
        have hBm := pw_max b1
        have hKm := pw_max (show k ≤ 16 by omega)
        have hK := pw_pos k
        have hBw := pw_i64 b1
        have hKw := pw_wrap (show k ≤ 16 by omega)
        have hVx : ∀ W, Calls Try.prog 17 #[.agg #[.int .i64 s, .int .i64 b, .int .i64 (up u (pw k) + m * pw k)]] W fun e w' => e = .returned (.bool true) ∧ Below W.heap.size W w' := fun W => hpk ▸ impl_PieceValid s b _ W
        generalize objs s (up u (pw k)) (pw k) m = xs at *
        have HN := Lib.hid hlen
        have HAT := Lib.hid hat
        have HOB := Lib.hid hob
        have hgt' : ¬ up u (pw k) + m * pw k ≤ u := by omega
        clear h1 h2 h3 hlen hat hob hpk
        generalize roomOf (pw b) u (pw k) = M at *
        generalize up u (pw k) + m * pw k = U at *
        generalize up u (pw k) = F at *
        generalize pw k = K at *
        generalize pw b = B at *
        have hM0 : (m : Int) ≤ M := hr
        clear hr
        have HR1 := Lib.hid hr1
        have HR2 := Lib.hid hr2
        have HBW := Lib.hid hBw
        have HKW := Lib.hid hKw
        clear hr1 hr2 hBw hKw
        have hn40 : m ≤ 40 := by omega
        go_wp2_with fail
        refine (hI _).mono ?_
        rintro e w2 ⟨A, d, rfl, hO2, hb2⟩
        rw [HN.out] at hO2 ⊢
        have hA2 := IAt.alloc (hA1.belowSelf hb2) (.cells #[.int .i64 s, .int .i64 b, .int .i64 U] 25)
        have hX2 := IAt.new w2 25 [s, b, U]
        have hO3 := hO2.alloc (.cells #[.int .i64 s, .int .i64 b, .int .i64 U] 25)
        have hB2 := below_al (below_next hB1 hb2) (.cells #[.int .i64 s, .int .i64 b, .int .i64 U] 25)
        have hA2' := hA1.belowSelf hb2
        have hlt2 := hA2'.lt
        obtain ⟨c0, c1, c2⟩ := hA2'.cells3
        clear hA1 hB1 hb2 hO2 hA2'
        go_wp2_with fail
        clear c0 c1 c2
        refine (hS _).mono ?_
        rintro e w3 ⟨A', d', rfl, hO4, hb3⟩
        rw [HN.out] at hO4 ⊢
        have hA3 := IAt.alloc (hA2.belowSelf hb3) (.cells #[.int .i64 s, .int .i64 b, .int .i64 U] 25)
        have hX3 := hX2.belowSelf hb3
        have hX4 := hX3.alloc (.cells #[.int .i64 s, .int .i64 b, .int .i64 U] 25)
        have hO5 := OwnI.alloc (hO3.below hb3) (.cells #[.int .i64 s, .int .i64 b, .int .i64 U] 25)
        have hO6 := hO4.alloc (.cells #[.int .i64 s, .int .i64 b, .int .i64 U] 25)
        have hB3 := below_al (below_next hB2 hb3) (.cells #[.int .i64 s, .int .i64 b, .int .i64 U] 25)
        have hlt3 := hX3.lt
        obtain ⟨c0, c1, c2⟩ := hX3.cells3
        clear hA2 hX2 hO3 hB2 hb3 hX3 hO4 hI hS
        go_wp2_with fail
        refine (laws_sameInts A A' m d d' _ _ xs _ hO5 hO6 (by omega)).mono ?_
        rintro e w4 ⟨rfl, hb4⟩
        have hA4 := hA3.belowSelf hb4
        have hX5 := hX4.belowSelf hb4
        have hO7 := hO5.below hb4
        have hB4 := below_next hB3 hb4
        have hlta := hA4.lt
        have hltx := hX5.lt
        clear hA3 hX4 hO5 hO6 hB3 hb4 c0 c1 c2 hlt2 hlt3
        generalize w1.heap.size = p at *
        generalize w2.heap.size = q at *
        have HO := Lib.hid hO7
        have HA := Lib.hid hA4
        have HX := Lib.hid hX5
        obtain ⟨c0, c1, c2⟩ := hA4.cells3
        obtain ⟨d0, d1, d2⟩ := hX5.cells3
        have HB := Lib.hid hB4
        clear hO7 hA4 hX5 hB4
        go_wp2_with fail
        rw [HKW.out]
        clear HKW
        go_loopw [13] (fun i wr => ∃ j q : Nat, j ≤ m ∧ i = .int .i64 j ∧ wr = w4.drewN q) (fun i _ => m - (intOf i).toNat)
        case atStart => exact ⟨0, 0, Nat.zero_le _, rfl, rfl⟩
        case round =>
          obtain ⟨j, q', hj, rfl, rfl⟩ := hrel
          by_cases hlt : j < m
          · obtain ⟨g, rfl, -, -, hc1, -⟩ := HO.out.at_ (by omega)
            have ex : xs.getD j 0 = s + (F + (j : Int) * K) := by simp [List.getD, HAT.out j hlt]
            have e1 := hc1 j hlt
            rw [ex] at e1
            obtain ⟨y0, y1, y2, y3⟩ := HOB.out j hlt
            have hprev : 0 < j → ∃ y' : Int, w4.cell? ⟨g, j - 1, none⟩ = some (.int .i64 y') ∧ y' + K = s + (F + (j : Int) * K) := fun h0 => by
              have ex : xs.getD (j - 1) 0 = s + (F + ((j - 1 : Nat) : Int) * K) := by simp [List.getD, HAT.out (j - 1) (by omega)]
              refine ⟨_, ex ▸ hc1 (j - 1) (by omega), ?_⟩
              rw [show ((j - 1 : Nat) : Int) = (j : Int) - 1 by omega, Int.sub_mul]
              omega
            clear hc1 ex
            generalize s + (F + (j : Int) * K) = y at *
            have hyt : y.tmod K = 0 := by rw [Int.tmod_eq_emod_of_nonneg y0]; exact y3
            have hK0 : ¬ K = 0 := by omega
            have hw1 : IntKind.i64.wrap (s + u) = s + u := i64_id (by omega) (by omega)
            have hw2 : IntKind.i64.wrap (y + K) = y + K := i64_id (by omega) (by omega)
            have hw3 : IntKind.i64.wrap (s + B) = s + B := i64_id (by omega) (by omega)
            have hd1 : decide (y < s + u) = false := by simp; omega
            have hd2 : decide (s + B < y + K) = false := by simp; omega
            have hlt' : (j : Int) < (m : Int) := by omega
            have hj0 : (0 : Int) ≤ (j : Int) := by omega
            have hmz : (0 : Int) ≤ (m : Int) := by omega
            clear HR1 HR2 hVx HOB HAT HN HO HA HX HB
            by_cases hz : 0 < j
            · obtain ⟨y', e2, hy'⟩ := hprev hz
              have hz' : (0 : Int) < (j : Int) := by omega
              have hw4 : IntKind.i64.wrap (y' + K) = y := by rw [hy']; exact i64_id (by omega) (by omega)
              have hw5 : IntKind.i64.wrap ((j : Int) - 1) = (j : Int) - 1 := i64_id (by omega) (by omega)
              have hj1 : (0 : Int) ≤ (j : Int) - 1 := by omega
              have hj2 : (j : Int) - 1 < (m : Int) := by omega
              clear hprev hy'
              have hBw := HBW.out
              clear HBW
              go_wp2_with fail
              go_quiet (fail)
              go_wp2_with fail
              go_roundw
              case rel => exact ⟨j + 1, _, by omega, by go_num, rfl⟩
              case measure => simp [intOf]; omega
            · have hd3 : decide ((0 : Int) < (j : Int)) = false := by simp; omega
              clear hprev
              have hBw := HBW.out
              clear HBW
              go_wp2_with fail
              go_quiet (fail)
              go_wp2_with fail
              go_roundw
              case rel => exact ⟨j + 1, _, by omega, by go_num, rfl⟩
              case measure => simp [intOf]; omega
          · have hge : ¬ (j : Int) < (m : Int) := by omega
            have hV : Kept w.heap.size w [(p, 25, [s, b, u]), (q, 25, [s, b, U])] (w4.drewN q') := Kept.cons HA.out (Kept.cons HX.out (Kept.nil (below_drewN' HB.out _) HB.out.size))
            have hwM : IntKind.i64.wrap (M - m) = M - m := i64_id (by have := hM0; omega) (by omega)
            have hr1 := HR1.out
            have hr2 := HR2.out
            clear HA HX HB HO HOB HAT HR1 HR2 c0 c1 c2 d0 d1 d2
            go_wp2_with fail
            generalize w4.drewN q' = V at *
            (first
              | (go_region_held3 (fun w' => Kept w.heap.size w [(p, 25, [s, b, u]), (q, 25, [s, b, U])] w' ∧ w'.cell? ⟨p, 0, none⟩ = some (.int .i64 s) ∧ w'.cell? ⟨p, 1, none⟩ = some (.int .i64 b) ∧ w'.cell? ⟨p, 2, none⟩ = some (.int .i64 u) ∧ w'.cell? ⟨q, 0, none⟩ = some (.int .i64 s) ∧ w'.cell? ⟨q, 1, none⟩ = some (.int .i64 b) ∧ w'.cell? ⟨q, 2, none⟩ = some (.int .i64 U))
                  (first | exact kept_3_3 (Kept.drew hV) | exact kept_3_3 (Kept.step (by assumption) (by assumption)) | exact kept_3_3 (Kept.same (by assumption)))
                  (first | (go_at_call 17; refine (hVx _).mono ?_; rintro e w9 ⟨rfl, hb9⟩) | (go_at_call 21; refine (impl_PieceRoom _ _ _ _ _).mono ?_; rintro e w9 ⟨rfl, hb9⟩)))
              | fail)
            have hS5 : Kept w.heap.size w [(p, 25, [s, b, u]), (q, 25, [s, b, U])] w9 := And.left (by assumption)
            go_wp2_with fail
            go_ret
            exact ⟨rfl, hS5.2.1⟩
      · have hr' : roomOf (pw b) u (pw k) < m := by omega
        have hS := fun W => spec_RetypePiece_few s b u k m W h hr'
        have hI : ∀ W, Calls Try.prog 26 #[.agg #[.int .i64 s, .int .i64 b, .int .i64 u], .int .i64 k, .int .i64 m] W (Retyped (.agg #[.int .i64 s, .int .i64 b, .int .i64 u]) [] false W) := fun W => (impl_RetypePiece_few s b u k m W h hr').mono fun e w' ⟨he, hb⟩ => ⟨none, 0, he, OwnI.nil _ _, hb⟩
        obtain ⟨xs, hxs⟩ : ∃ xs : List Int, xs = [] := ⟨_, rfl⟩
        obtain ⟨n, hnn⟩ : ∃ n : Nat, n = 0 := ⟨_, rfl⟩
        have HN : Hid (xs.length = n) := by subst hxs hnn; rfl
        rw [← hxs] at hS hI
        have hn40 : n ≤ 40 := by omega
        have HN0 := Lib.hid hnn
        clear h hxs hnn hr hr'
        go_wp2_with fail
        refine (hI _).mono ?_
        rintro e w2 ⟨A, d, rfl, hO2, hb2⟩
        rw [HN.out] at hO2 ⊢
        have hA2 := IAt.alloc (hA1.belowSelf hb2) (.cells #[.int .i64 s, .int .i64 b, .int .i64 u] 25)
        have hX2 := IAt.new w2 25 [s, b, u]
        have hO3 := hO2.alloc (.cells #[.int .i64 s, .int .i64 b, .int .i64 u] 25)
        have hB2 := below_al (below_next hB1 hb2) (.cells #[.int .i64 s, .int .i64 b, .int .i64 u] 25)
        have hA2' := hA1.belowSelf hb2
        have hlt2 := hA2'.lt
        obtain ⟨c0, c1, c2⟩ := hA2'.cells3
        clear hA1 hB1 hb2 hO2 hA2'
        go_wp2_with fail
        clear c0 c1 c2
        refine (hS _).mono ?_
        rintro e w3 ⟨A', d', rfl, hO4, hb3⟩
        rw [HN.out] at hO4 ⊢
        have hA3 := IAt.alloc (hA2.belowSelf hb3) (.cells #[.int .i64 s, .int .i64 b, .int .i64 u] 25)
        have hX3 := hX2.belowSelf hb3
        have hX4 := hX3.alloc (.cells #[.int .i64 s, .int .i64 b, .int .i64 u] 25)
        have hO5 := OwnI.alloc (hO3.below hb3) (.cells #[.int .i64 s, .int .i64 b, .int .i64 u] 25)
        have hO6 := hO4.alloc (.cells #[.int .i64 s, .int .i64 b, .int .i64 u] 25)
        have hB3 := below_al (below_next hB2 hb3) (.cells #[.int .i64 s, .int .i64 b, .int .i64 u] 25)
        have hlt3 := hX3.lt
        obtain ⟨c0, c1, c2⟩ := hX3.cells3
        clear hA2 hX2 hO3 hB2 hb3 hX3 hO4 hI hS
        go_wp2_with fail
        refine (laws_sameInts A A' n d d' _ _ xs _ hO5 hO6 (by omega)).mono ?_
        rintro e w4 ⟨rfl, hb4⟩
        have hA4 := hA3.belowSelf hb4
        have hX5 := hX4.belowSelf hb4
        have hO7 := hO5.below hb4
        have hB4 := below_next hB3 hb4
        have hlta := hA4.lt
        have hltx := hX5.lt
        clear hA3 hX4 hO5 hO6 hB3 hb4 c0 c1 c2 hlt2 hlt3
        generalize w1.heap.size = p at *
        generalize w2.heap.size = q at *
        have hn0 := HN0.out
        subst hn0
        obtain ⟨c0, c1, c2⟩ := hA4.cells3
        obtain ⟨d0, d1, d2⟩ := hX5.cells3
        go_wp2_with fail
        refine (laws_alive _).mono ?_
        rintro e w5 ⟨rfl, hb5⟩
        go_wp2_with fail
        go_ret
        exact ⟨rfl, below_next hB4 hb5⟩

set_option maxRecDepth 100000 in
theorem lifted_FnRetypePiece (os : Os) (started : os.Started) (H : Type) (enc : TypeId × Value → H) :
    ReturnsInHanded {} Try.checked os 14 .any (Rows.fnRetypePieceSpec.pre6 enc Try.prog Try.f14 Rows.fnRetypePieceRow.domain false) (Rows.fnRetypePieceSpec.post enc Try.prog Try.f14 false true false false) := by
  refine returnsInHanded_of_change (C := Try.checked) row_own started (by kernel_rfl) Try.func14
    (ChangeSpec.witness6 (enc := enc) (C := Try.checked) false ⟨#[], #[.slice none 0 0], []⟩ 8 (by kernel_rfl) (by kernel_rfl) (by kernel_rfl) (by kernel_rfl)) ?_
  intro W base args ds gs before hval0 hW hcnd _
  have hval : ∀ (j : Nat) t v, Try.f14.params[j]? = some t → args[j]? = some v → Value.okWide Try.prog W .any base t v := hval0
  have hW' := hW
  obtain ⟨p, q, hA0, hV, rfl, hfz, hnd⟩ := hW
  have hA : DataW.TrodAll enc Try.prog W 0 (fun _ => true) true Try.f14.params.toList args.toList ds p := hA0
  rw [Try.params14] at hA hval
  obtain ⟨v0, vs0, d0, ds0, p0, q0, hargs, rfl, rfl, h0, r0⟩ := trodAll_cons hA
  obtain ⟨rfl, rfl, rfl⟩ := trodAll_nil r0
  obtain rfl : args = #[v0] := by cases args; simp_all
  obtain ⟨rfl, rfl⟩ := trodVars_none hV
  have k0 := h0
  have lt0 : ∀ x ∈ p0, x.block < W.heap.size := by obtain ⟨m, hm⟩ := k0; exact DataW.trod_lt m _ _ _ hm
  have w0 := open_bytes (hval 0 41 v0 rfl rfl) h0
  clear hA0 hval0
  refine (walk_FnRetypePiece v0 W w0).mono fun e W' ⟨he, bel⟩ => ?_
  subst he
  exact ⟨_, rfl, _, _, _, [], _, [], hW', trodAll_mk1 (shut_bool Try.underlying4 _), (trodAll_cons_mk (Below.trod row_laidOut (by kernel_rfl) (of_decide_eq_true (by kernel_rfl)) k0 bel lt0) trodAll_mk0), rfl, bel.frame _, fun h => by cases h⟩

theorem over_FnRetypePiece : Rows.fnRetypePieceRow.holds Try.pinned (OpenSpec.ofChange Rows.fnRetypePieceSpec) :=
  OpenClaim.holds_of_wide 14 Try.f14 rfl rfl rfl rfl rfl rfl rfl ⟨rfl, rfl, rfl, rfl, rfl⟩ rfl rfl rfl rfl rfl (by kernel_rfl) Try.func14 (by kernel_rfl)
    (of_decide_eq_true (by kernel_rfl)) (by unfold Func.isWrapper; first | (rw [if_pos (by decide +kernel)]; kernel_rfl) | (rw [if_neg (by decide +kernel)]; exact ⟨rfl, rfl⟩))
    (fun os started H enc _ => lifted_FnRetypePiece os started H enc)

theorem FnRetypePiece_holds : Rows.FnRetypePieceSaid := over_FnRetypePiece

end Go.Proofs.Ytabjkjbclpokeaa
