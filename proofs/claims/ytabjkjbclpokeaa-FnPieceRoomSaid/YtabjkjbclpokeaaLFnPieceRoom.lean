/- The law FnPieceRoom: whatever its arguments, the call returns true, and every argument reads afterwards as it read before. No condition. -/
import Derived.Test.YtabjkjbclpokeaaRetype
import Derived.Test.YtabjkjbclpokeaaDrawPieceLaws
import Derived.Test.YtabjkjbclpokeaaTexts
namespace Go.Proofs.Ytabjkjbclpokeaa
open Go.ChangeShapes Go.WideShapes Go.ChangeAt Go.RowKit
open Go.ChangeMaps (open_string shut_string)
set_option linter.unusedVariables false

theorem room_mul {s b u k : Int} (h : pieceOk s b u = true) : roomOf (pw b) u (pw k) * pw k ≤ pw b - u := by
  obtain ⟨_, _, _, u0, u1⟩ := pieceOk_iff.1 h
  have hK := pw_pos k
  have hge := up_ge (u := u) hK
  unfold roomOf
  by_cases hx : 0 ≤ (pw b - up u (pw k)) / pw k
  · rw [Int.max_eq_right hx]
    have := Int.ediv_mul_le (pw b - up u (pw k)) (show pw k ≠ 0 by omega)
    omega
  · rw [Int.max_eq_left (by omega), Int.zero_mul]
    omega
theorem up_half {u K : Int} (hK : 1 ≤ K) : up u K ≤ up u (2 * K) := by
  have h1 := up_lt (u := u) hK
  have h2 := up_ge (u := u) (K := 2 * K) (by omega)
  unfold up at *
  generalize (u + K - 1) / K = q at *
  generalize (u + 2 * K - 1) / (2 * K) = r at *
  have e : r * (2 * K) = (2 * r) * K := by rw [Int.mul_comm 2 r, Int.mul_assoc]
  rw [e] at h2 ⊢
  have h3 : q * K < (2 * r + 1) * K := by rw [Int.add_mul]; omega
  have h4 : q < 2 * r + 1 := Int.lt_of_mul_lt_mul_right h3 (by omega)
  exact Int.mul_le_mul_of_nonneg_right (by omega) (by omega)
theorem room_half {b u k : Int} (hk : 1 ≤ k) : 2 * roomOf (pw b) u (pw k) ≤ roomOf (pw b) u (pw (k - 1)) := by
  have hK := pw_pos (k - 1)
  have e : pw k = 2 * pw (k - 1) := by rw [← pw_succ (b := k - 1) (by omega)]; congr 1; omega
  have h1 := up_half (u := u) hK
  rw [e]
  generalize pw (k - 1) = K at *
  generalize pw b = B at *
  by_cases hx : 0 ≤ (B - up u (2 * K)) / (2 * K)
  · have h2 := Int.ediv_mul_le (B - up u (2 * K)) (show 2 * K ≠ 0 by omega)
    have h3 : roomOf B u (2 * K) = (B - up u (2 * K)) / (2 * K) := Int.max_eq_right hx
    rw [h3]
    generalize (B - up u (2 * K)) / (2 * K) = n at *
    have h4 : 2 * n * K ≤ B - up u K := by
      have e2 : n * (2 * K) = 2 * n * K := by rw [Int.mul_comm 2 n, Int.mul_assoc]
      omega
    have h5 := Int.le_ediv_of_mul_le (show 0 < K by omega) h4
    unfold roomOf
    omega
  · have h3 : roomOf B u (2 * K) = 0 := Int.max_eq_left (by omega)
    rw [h3]
    have := roomOf_nonneg B u K
    omega

set_option maxHeartbeats 8000000 in
theorem walk_FnPieceRoom (v0 : Value) (w : World) (w0 : BytesIn w v0) :
    Calls Try.prog 13 #[v0] w fun e w' => e = .returned (.bool true) ∧ Below w.heap.size w w' := by
  have hd := drawPieceRoom v0 w w0
  obtain ⟨A, n, cap, bs, rfl, hn, hc, _⟩ := w0
  by_cases h20 : (1048576 : Int) < (n : Int)
  · go_enter Try.func13, Try.ntmps13
    go_wp2_with fail
    go_ret
    exact ⟨rfl, Below.refl _ _⟩
  · go_enter Try.func13, Try.ntmps13
    go_wp2_with fail
    refine hd.mono ?_
    rintro e w1 ⟨s, b, u, k, rfl, hb1⟩
    have hA1 := IAt.new w1 25 [s, b, u]
    have hB1 := below_al hb1 (.cells #[.int .i64 s, .int .i64 b, .int .i64 u] 25)
    have hI := impl_PieceRoom s b u k
    have hS := spec_PieceRoom s b u k
    rw [roomB_iff] at hI hS
    clear hb1 hd
    by_cases hx : pieceOk s b u = true ∧ inB k 0 16 = true
    all_goals
      first | rw [if_pos hx] at hI hS | rw [if_neg hx] at hI hS
    · have hM := roomOf_nonneg (pw b) u (pw k)
      have r1 := room_mul (k := k) hx.1
      have r2 := fun hk => room_half (b := b) (u := u) (k := k) hk
      obtain ⟨⟨b0, b1⟩, ⟨s0, s1⟩, -, u0, u1⟩ := pieceOk_iff.1 hx.1
      obtain ⟨k0, k1⟩ := inB_iff.1 hx.2
      have hK := pw_pos k
      have hB := pw_pos b
      have hBm := pw_max b1
      have h2k : (2 : Int) ^ k.toNat = pw k := rfl
      have hsb := pw_i64 b1
      have hmr : roomOf (pw b) u (pw k) ≤ roomOf (pw b) u (pw k) * pw k := by
        have := Int.mul_le_mul_of_nonneg_left hK hM
        omega
      have hFew : roomOf (pw b) u (pw k) < 40 → ∀ W, Calls Try.prog 26 #[.agg #[.int .i64 s, .int .i64 b, .int .i64 u], .int .i64 k, .int .i64 (roomOf (pw b) u (pw k) + 1)] W fun e w' => e = .returned (.tuple #[.agg #[.int .i64 s, .int .i64 b, .int .i64 u], .slice none 0 0, .bool false]) ∧ Below W.heap.size W w' := fun h40 W =>
        impl_RetypePiece_few s b u k _ W (by
          simp only [retOk, hx.1, hx.2, Bool.true_and]
          exact inB_iff.2 (by omega)) (by omega)
      have hHalf : 1 ≤ k → ∀ W, Calls Try.prog 21 #[.agg #[.int .i64 s, .int .i64 b, .int .i64 u], .int .i64 (k - 1)] W fun e w' => e = .returned (.int .i64 (roomOf (pw b) u (pw (k - 1)))) ∧ Below W.heap.size W w' := fun hk W => by
        have := impl_PieceRoom s b u (k - 1) W
        rwa [roomB_iff, if_pos ⟨hx.1, inB_iff.2 (by omega)⟩] at this
      clear hx
      generalize roomOf (pw b) u (pw (k - 1)) = M2 at *
      generalize roomOf (pw b) u (pw k) = M at *
      generalize pw k = K at *
      generalize pw b = B at *
      have hM0 : ¬ M < 0 := by omega
      have hw1 : IntKind.i64.wrap (M * K) = M * K := i64_id (by omega) (by omega)
      have hw2 : IntKind.i64.wrap (B - u) = B - u := i64_id (by omega) (by omega)
      have hw3 : IntKind.i64.wrap (k - 1) = k - 1 := i64_id (by omega) (by omega)
      have hw4 : IntKind.i64.wrap (2 * M) = 2 * M := i64_id (by omega) (by omega)
      have HF := Lib.hid hFew
      have HH := Lib.hid hHalf
      have HR := Lib.hid r2
      clear hFew hHalf r2
      go_wp2_with fail
      refine (hI _).mono ?_
      rintro e w2 ⟨rfl, hb2⟩
      have hA2 := hA1.belowSelf hb2
      have hB2 := below_next hB1 hb2
      have hlt2 := hA2.lt
      clear hA1 hB1 hb2
      generalize w1.heap.size = p at *
      obtain ⟨c0, c1, c2⟩ := hA2.cells3
      go_wp2_with fail
      refine (hS _).mono ?_
      rintro e w3 ⟨rfl, hb3⟩
      have hA3 := hA2.belowSelf hb3
      have hB3 := below_next hB2 hb3
      have hlt3 := hA3.lt
      clear hA2 hB2 hb3 c0 c1 c2 hI hS hlt2
      obtain ⟨c0, c1, c2⟩ := hA3.cells3
      by_cases h40 : M < 40
      · have hF := HF.out h40
        clear HF
        go_wp2_with fail
        refine (hF _).mono ?_
        rintro e w4 ⟨rfl, hb4⟩
        have hA4 := IAt.alloc (hA3.belowSelf hb4) (.cells #[.int .i64 s, .int .i64 b, .int .i64 u] 25)
        have hB4 := below_al (below_next hB3 hb4) (.cells #[.int .i64 s, .int .i64 b, .int .i64 u] 25)
        have hS0 : Kept w.heap.size w [(p, 25, [s, b, u])] _ := Kept.cons hA4 (Kept.nil hB4 hB4.size)
        clear hA3 hB3 hb4 hF hA4 hB4 c0 c1 c2 hlt3
        go_wp2_with fail
        generalize w4.alloc (.cells #[.int .i64 s, .int .i64 b, .int .i64 u] 25) = W at *
        generalize hHB : w.heap.size = Z at *
        have HB := Lib.hid hHB
        clear hHB
        cases hk : (k == 0)
        · have hk1' : 1 ≤ k := by simp at hk; omega
          have hH := HH.out hk1'
          have hge := HR.out hk1'
          clear HH HR hk1'
          (first
            | (go_region_held3 (fun w' => Kept Z w [(p, 25, [s, b, u])] w' ∧ w'.cell? ⟨p, 0, none⟩ = some (.int .i64 s) ∧ w'.cell? ⟨p, 1, none⟩ = some (.int .i64 b) ∧ w'.cell? ⟨p, 2, none⟩ = some (.int .i64 u))
                (first | exact kept_3 (Kept.drew hS0) | exact kept_3 (Kept.step (by assumption) (by assumption)) | exact kept_3 (Kept.same (by assumption)))
                (first | (go_at_call 21; refine (hH _).mono ?_; rintro e w9 ⟨rfl, hb9⟩)))
            | fail)
          have hS2 : Kept Z w [(p, 25, [s, b, u])] w9 := And.left (by assumption)
          go_wp2_with fail
          go_ret
          exact ⟨rfl, HB.out ▸ hS2.2.1⟩
        · have hk0 : k = 0 := by simpa using hk
          subst hk0
          have hMle : M ≤ B - u := by omega
          have hwM : IntKind.i64.wrap M = M := i64_id (by omega) (by omega)
          clear HH HR hk
          obtain ⟨c0, c1, c2⟩ := (hS0.at_ 0 rfl).cells3
          go_quiet (fail)
          go_wp2_with fail
          go_ret
          exact ⟨rfl, below_drewN' (HB.out ▸ hS0.2.1) _⟩
      · clear HF
        have hS0 : Kept w.heap.size w [(p, 25, [s, b, u])] w3 := Kept.cons hA3 (Kept.nil hB3 hB3.size)
        clear hA3 hB3 c0 c1 c2 hlt3
        go_wp2_with fail
        generalize hHB : w.heap.size = Z at *
        have HB := Lib.hid hHB
        clear hHB
        cases hk : (k == 0)
        · have hk1' : 1 ≤ k := by simp at hk; omega
          have hH := HH.out hk1'
          have hge := HR.out hk1'
          clear HH HR hk1'
          (first
            | (go_region_held3 (fun w' => Kept Z w [(p, 25, [s, b, u])] w' ∧ w'.cell? ⟨p, 0, none⟩ = some (.int .i64 s) ∧ w'.cell? ⟨p, 1, none⟩ = some (.int .i64 b) ∧ w'.cell? ⟨p, 2, none⟩ = some (.int .i64 u))
                (first | exact kept_3 (Kept.drew hS0) | exact kept_3 (Kept.step (by assumption) (by assumption)) | exact kept_3 (Kept.same (by assumption)))
                (first | (go_at_call 21; refine (hH _).mono ?_; rintro e w9 ⟨rfl, hb9⟩)))
            | fail)
          have hS2 : Kept Z w [(p, 25, [s, b, u])] w9 := And.left (by assumption)
          go_wp2_with fail
          go_ret
          exact ⟨rfl, HB.out ▸ hS2.2.1⟩
        · have hk0 : k = 0 := by simpa using hk
          subst hk0
          have hMle : M ≤ B - u := by omega
          have hwM : IntKind.i64.wrap M = M := i64_id (by omega) (by omega)
          clear HH HR hk
          obtain ⟨c0, c1, c2⟩ := (hS0.at_ 0 rfl).cells3
          go_quiet (fail)
          go_wp2_with fail
          go_ret
          exact ⟨rfl, below_drewN' (HB.out ▸ hS0.2.1) _⟩
    · go_wp2_with fail
      refine (hI _).mono ?_
      rintro e w2 ⟨rfl, hb2⟩
      have hA2 := hA1.belowSelf hb2
      have hB2 := below_next hB1 hb2
      have hlt2 := hA2.lt
      clear hA1 hB1 hb2
      obtain ⟨c0, c1, c2⟩ := hA2.cells3
      go_wp2_with fail
      refine (hS _).mono ?_
      rintro e w3 ⟨rfl, hb3⟩
      go_wp2_with fail
      refine (laws_alive _).mono ?_
      rintro e w4 ⟨rfl, hb4⟩
      go_wp2_with fail
      go_ret
      exact ⟨rfl, below_next (below_next hB2 hb3) hb4⟩

set_option maxRecDepth 100000 in
theorem lifted_FnPieceRoom (os : Os) (started : os.Started) (H : Type) (enc : TypeId × Value → H) :
    ReturnsInHanded {} Try.checked os 13 .any (Rows.fnPieceRoomSpec.pre6 enc Try.prog Try.f13 Rows.fnPieceRoomRow.domain false) (Rows.fnPieceRoomSpec.post enc Try.prog Try.f13 false true false false) := by
  refine returnsInHanded_of_change (C := Try.checked) row_own started (by kernel_rfl) Try.func13
    (ChangeSpec.witness6 (enc := enc) (C := Try.checked) false ⟨#[], #[.slice none 0 0], []⟩ 8 (by kernel_rfl) (by kernel_rfl) (by kernel_rfl) (by kernel_rfl)) ?_
  intro W base args ds gs before hval0 hW hcnd _
  have hval : ∀ (j : Nat) t v, Try.f13.params[j]? = some t → args[j]? = some v → Value.okWide Try.prog W .any base t v := hval0
  have hW' := hW
  obtain ⟨p, q, hA0, hV, rfl, hfz, hnd⟩ := hW
  have hA : DataW.TrodAll enc Try.prog W 0 (fun _ => true) true Try.f13.params.toList args.toList ds p := hA0
  rw [Try.params13] at hA hval
  obtain ⟨v0, vs0, d0, ds0, p0, q0, hargs, rfl, rfl, h0, r0⟩ := trodAll_cons hA
  obtain ⟨rfl, rfl, rfl⟩ := trodAll_nil r0
  obtain rfl : args = #[v0] := by cases args; simp_all
  obtain ⟨rfl, rfl⟩ := trodVars_none hV
  have k0 := h0
  have lt0 : ∀ x ∈ p0, x.block < W.heap.size := by obtain ⟨m, hm⟩ := k0; exact DataW.trod_lt m _ _ _ hm
  have w0 := open_bytes (hval 0 41 v0 rfl rfl) h0
  clear hA0 hval0
  refine (walk_FnPieceRoom v0 W w0).mono fun e W' ⟨he, bel⟩ => ?_
  subst he
  exact ⟨_, rfl, _, _, _, [], _, [], hW', trodAll_mk1 (shut_bool Try.underlying4 _), (trodAll_cons_mk (Below.trod row_laidOut (by kernel_rfl) (of_decide_eq_true (by kernel_rfl)) k0 bel lt0) trodAll_mk0), rfl, bel.frame _, fun h => by cases h⟩

theorem over_FnPieceRoom : Rows.fnPieceRoomRow.holds Try.pinned (OpenSpec.ofChange Rows.fnPieceRoomSpec) :=
  OpenClaim.holds_of_wide 13 Try.f13 rfl rfl rfl rfl rfl rfl rfl ⟨rfl, rfl, rfl, rfl, rfl⟩ rfl rfl rfl rfl rfl (by kernel_rfl) Try.func13 (by kernel_rfl)
    (of_decide_eq_true (by kernel_rfl)) (by unfold Func.isWrapper; first | (rw [if_pos (by decide +kernel)]; kernel_rfl) | (rw [if_neg (by decide +kernel)]; exact ⟨rfl, rfl⟩))
    (fun os started H enc _ => lifted_FnPieceRoom os started H enc)

theorem FnPieceRoom_holds : Rows.FnPieceRoomSaid := over_FnPieceRoom

end Go.Proofs.Ytabjkjbclpokeaa
