/- What ObjectBits, toPiece, eqPiece, the first place, the room and PieceRoom compute. No condition beyond those written. -/
import Derived.Test.YtabjkjbclpokeaaPieceV
import Derived.Test.YtabjkjbclpokeaaPieceW
import Derived.Test.YtabjkjbclpokeaaHeld
namespace Go.Proofs.Ytabjkjbclpokeaa
open Go.RowKit
set_option linter.unusedVariables false

def objBits (k : Int) : Int := if k = 2 then 6 else if k = 3 then 9 else if k = 4 ∨ k = 5 ∨ k = 7 then 4 else if k = 6 then 8 else -1

set_option maxHeartbeats 1000000 in
theorem spec_ObjectBits (k : Int) (w : World) : Calls Try.prog 18 #[.int .i64 k] w fun e w' => e = .returned (.int .i64 (objBits k)) ∧ w = w' := by
  by_cases hk : k = 2 ∨ k = 3 ∨ k = 4 ∨ k = 5 ∨ k = 6 ∨ k = 7
  · rcases hk with rfl | rfl | rfl | rfl | rfl | rfl
    all_goals
      go_enter Try.func18, Try.ntmps18
      go_wp2_with fail
      go_ret
      exact ⟨rfl, rfl⟩
  · have h2 : (k == 2) = false := by rw [beq_eq_false_iff_ne]; omega
    have h3 : (k == 3) = false := by rw [beq_eq_false_iff_ne]; omega
    have h4 : (k == 4) = false := by rw [beq_eq_false_iff_ne]; omega
    have h5 : (k == 5) = false := by rw [beq_eq_false_iff_ne]; omega
    have h6 : (k == 6) = false := by rw [beq_eq_false_iff_ne]; omega
    have h7 : (k == 7) = false := by rw [beq_eq_false_iff_ne]; omega
    have H : objBits k = -1 := by unfold objBits; rw [if_neg (by omega), if_neg (by omega), if_neg (by omega), if_neg (by omega)]
    rw [H]
    clear H hk
    go_enter Try.func18, Try.ntmps18
    go_wp2_with fail
    go_ret
    exact ⟨rfl, rfl⟩

set_option maxHeartbeats 1000000 in
theorem impl_ObjectBits (k : Int) (w : World) : Calls Try.prog 19 #[.int .i64 k] w fun e w' => e = .returned (.int .i64 (objBits k)) ∧ w = w' := by
  by_cases hk : k = 2 ∨ k = 3 ∨ k = 4 ∨ k = 5 ∨ k = 6 ∨ k = 7
  · rcases hk with rfl | rfl | rfl | rfl | rfl | rfl
    all_goals
      go_enter Try.func19, Try.ntmps19
      go_wp2_with fail
      go_ret
      exact ⟨rfl, rfl⟩
  · have h2 : (k == 2) = false := by rw [beq_eq_false_iff_ne]; omega
    have h3 : (k == 3) = false := by rw [beq_eq_false_iff_ne]; omega
    have h4 : (k == 4) = false := by rw [beq_eq_false_iff_ne]; omega
    have h5 : (k == 5) = false := by rw [beq_eq_false_iff_ne]; omega
    have h6 : (k == 6) = false := by rw [beq_eq_false_iff_ne]; omega
    have h7 : (k == 7) = false := by rw [beq_eq_false_iff_ne]; omega
    have H : objBits k = -1 := by unfold objBits; rw [if_neg (by omega), if_neg (by omega), if_neg (by omega), if_neg (by omega)]
    rw [H]
    clear H hk
    go_enter Try.func19, Try.ntmps19
    go_wp2_with fail
    go_ret
    exact ⟨rfl, rfl⟩

set_option maxHeartbeats 1000000 in
theorem laws_toPiece (s b u : Int) (w : World) :
    Calls Try.prog 16 #[.agg #[.int .i64 s, .int .i64 b, .int .i64 u]] w fun e w' => e = .returned (.agg #[.int .i64 s, .int .i64 b, .int .i64 u]) ∧ Below w.heap.size w w' := by
  go_enter Try.func16, Try.ntmps16
  go_wp2_with fail
  refine bodyPost_ret (v := .agg #[.int .i64 s, .int .i64 b, .int .i64 u]) (by simp [results, Try.results16, go_sem]) rfl ⟨rfl, ?_⟩
  repeat (first | exact Below.refl _ _ | refine below_al ?_ _ | refine below_set ?_ (by simp) _)

def pieceEq (s b u s' b' u' : Int) : Bool := (s == s') && (b == b') && (u == u')
theorem pieceEq_refl (s b u : Int) : pieceEq s b u s b u = true := by simp [pieceEq]
set_option maxHeartbeats 1000000 in
theorem laws_eqPiece (s b u s' b' u' : Int) (w : World) :
    Calls Try.prog 24 #[.agg #[.int .i64 s, .int .i64 b, .int .i64 u], .agg #[.int .i64 s', .int .i64 b', .int .i64 u']] w fun e w' => e = .returned (.bool (pieceEq s b u s' b' u')) ∧ Below w.heap.size w w' := by
  unfold pieceEq
  cases h1 : (s == s') <;> cases h2 : (b == b') <;> cases h3 : (u == u')
  all_goals
    go_enter Try.func24, Try.ntmps24
    go_wp2_with fail
    go_ret
    exact ⟨ret_bool (by simp), by repeat (first | exact Below.refl _ _ | refine below_al ?_ _)⟩

set_option maxHeartbeats 1000000 in
theorem spec_l3First (s b u k : Int) (w : World) (hu : 0 ≤ u) (hu2 : u ≤ 65536) (hk : 0 ≤ k) (hk2 : k ≤ 16) :
    Calls Try.prog 39 #[.agg #[.int .i64 s, .int .i64 b, .int .i64 u], .int .i64 k] w fun e w' => e = .returned (.int .i64 (up u (pw k))) ∧ Below w.heap.size w w' := by
  have hsh := pw_wrap hk2
  have hp := pw_pos k
  have hq := pw_max hk2
  have h1 := up_ge (u := u) hp
  have h2 := up_lt (u := u) hp
  unfold up at *
  generalize pw k = K at *
  have hK0 : ¬ K = 0 := by omega
  go_enter Try.func39, Try.ntmps39
  go_wp2_with fail
  go_ret
  exact ⟨rfl, below_al (Below.refl _ _) _⟩

set_option maxHeartbeats 2000000 in
theorem impl_room (s b u k : Int) (w : World) (hs : 0 ≤ s) (hs2 : s ≤ 65536) (hb : 0 ≤ b) (hb2 : b ≤ 16) (hu : 0 ≤ u) (hu2 : u ≤ 65536) (hk : 0 ≤ k) (hk2 : k ≤ 16) :
    Calls Try.prog 40 #[.agg #[.int .i64 s, .int .i64 b, .int .i64 u], .int .i64 k] w
      fun e w' => e = .returned (.tuple #[.int .i64 (up (s + u) (pw k)), .int .i64 (max 0 (s + pw b - up (s + u) (pw k)) / pw k)]) ∧ Below w.heap.size w w' := by
  have hsh := pw_wrap hk2
  have hp := pw_pos k
  have hq := pw_max hk2
  have h1 := up_ge (u := s + u) hp
  have h2 := up_lt (u := s + u) hp
  have hsb := pw_i64 hb2
  have hpb := pw_pos b
  have hqb := pw_max hb2
  have hF : (s + u + pw k - 1) / pw k * pw k = up (s + u) (pw k) := rfl
  generalize up (s + u) (pw k) = F at *
  generalize pw k = K at *
  generalize pw b = B at *
  have hK0 : ¬ K = 0 := by omega
  have hf1 : 0 ≤ (s + u + K - 1) / K * K := by omega
  have hf2 : (s + u + K - 1) / K * K ≤ 1000000 := by omega
  have hd1 : IntKind.i64.wrap (s + B) = s + B := i64_id (by omega) (by omega)
  have hd2 : IntKind.i64.wrap (s + B - F) = s + B - F := i64_id (by omega) (by omega)
  by_cases hx2 : F < s + B
  · have hx : 0 ≤ s + B - F := by omega
    have hx3 : ¬ s + B ≤ F := by omega
    have hm : (s + B - F).tdiv K = (s + B - F) / K := Int.tdiv_eq_ediv_of_nonneg hx
    have hd3 : 0 ≤ (s + B - F) / K := Int.ediv_nonneg (by omega) (by omega)
    have hd4 : (s + B - F) / K ≤ s + B - F := Int.ediv_le_self _ (by omega)
    have hd5 : IntKind.i64.wrap ((s + B - F) / K) = (s + B - F) / K := i64_id (by omega) (by omega)
    have hH : max 0 (s + B - F) / K = (s + B - F) / K := by rw [Int.max_eq_right hx]
    rw [hH]
    clear hH
    go_enter Try.func40, Try.ntmps40
    go_wp2_with fail
    go_quiet (fail)
    go_wp2_with fail
    go_ret2
    exact ⟨rfl, below_drewN (below_al (Below.refl _ _) _) _⟩
  · have hH : max 0 (s + B - F) / K = 0 := by rw [Int.max_eq_left (by omega)]; simp
    rw [hH]
    clear hH
    have hx' : s + B ≤ F := by omega
    clear hx2
    go_enter Try.func40, Try.ntmps40
    go_wp2_with fail
    go_quiet (fail)
    go_wp2_with fail
    go_ret2
    exact ⟨rfl, below_drewN (below_al (Below.refl _ _) _) _⟩

theorem roomB_iff (s b u k : Int) : roomB s b u k = if pieceOk s b u = true ∧ inB k 0 16 = true then roomOf (pw b) u (pw k) else -1 := by simp [roomB]

set_option maxHeartbeats 1000000 in
theorem impl_PieceRoom (s b u k : Int) (w : World) :
    Calls Try.prog 21 #[.agg #[.int .i64 s, .int .i64 b, .int .i64 u], .int .i64 k] w fun e w' => e = .returned (.int .i64 (roomB s b u k)) ∧ Below w.heap.size w w' := by
  have hV := impl_PieceValid s b u
  rw [roomB_iff]
  cases h1 : pieceOk s b u
  · rw [h1] at hV
    simp only [Bool.false_eq_true, false_and, if_false]
    go_enter Try.func21, Try.ntmps21
    go_wp2_with fail
    refine (hV _).mono ?_
    rintro e w1 ⟨rfl, hb1⟩
    go_wp2_with fail
    go_ret
    exact ⟨rfl, below_next (below_al (Below.refl _ _) _) hb1⟩
  · rw [h1] at hV
    obtain ⟨⟨b0, b1⟩, ⟨s0, s1⟩, -, u0, u1⟩ := pieceOk_iff.1 h1
    have hpw := pw_max b1
    have hpp := pw_pos b
    cases h2 : inB k 0 16
    · simp only [Bool.false_eq_true, and_false, if_false]
      go_enter Try.func21, Try.ntmps21
      go_wp2_with fail
      refine (hV _).mono ?_
      rintro e w1 ⟨rfl, hb1⟩
      go_wp2_with (go_at_call 38; refine (impl_in _ _ _ _).mono ?_; rintro e w' ⟨rfl, rfl⟩)
      go_ret
      exact ⟨rfl, below_next (below_al (Below.refl _ _) _) hb1⟩
    · obtain ⟨k0, k1⟩ := inB_iff.1 h2
      have hR := fun w => impl_room s b u k w s0 (by omega) b0 b1 u0 (by omega) k0 k1
      rw [room_same h1 k0 k1] at hR
      simp only [and_self, if_true]
      clear h1
      generalize up (s + u) (pw k) = F at *
      generalize roomOf (pw b) u (pw k) = M at *
      go_enter Try.func21, Try.ntmps21
      go_wp2_with fail
      refine (hV _).mono ?_
      rintro e w1 ⟨rfl, hb1⟩
      have hA := (IAt.new w 25 [s, b, u]).belowSelf hb1
      have hlt := hA.lt
      obtain ⟨c0, c1, c2⟩ := hA.cells3
      go_wp2_with (go_at_call 38; refine (impl_in _ _ _ _).mono ?_; rintro e w' ⟨rfl, rfl⟩)
      refine (hR _).mono ?_
      rintro e w2 ⟨rfl, hb2⟩
      go_wp2_with fail
      go_ret
      exact ⟨rfl, below_next (below_next (below_al (Below.refl _ _) _) hb1) hb2⟩

end Go.Proofs.Ytabjkjbclpokeaa
