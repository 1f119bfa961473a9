/- What UnpackCap computes. No condition but that its number is an int. -/
import Derived.Test.YtciebhdoafhkbaaMint2
namespace Go.Proofs.Ytciebhdoafhkbaa
open Go.RowKit
set_option linter.unusedVariables false

theorem packN_unpack (n : Int) (h : 0 ≤ n) : packN (n % 8) (n / 8 % 100) (n / 800 % 16) (n / 12800) = n := by unfold packN; omega

set_option maxHeartbeats 2000000 in
theorem spec_UnpackCap (n : Int) (w : World) (hn : n ≤ 9223372036854775807) :
    Calls Try.prog 22 #[.int .i64 n] w
      fun e w' => e = .returned (if unpackOk n then .tuple #[.agg #[.int .i64 (n % 8), .int .i64 (n / 8 % 100), .int .i64 (n / 800 % 16), .int .i64 (n / 12800)], .bool true] else .tuple #[.agg #[.int .i64 0, .int .i64 0, .int .i64 0, .int .i64 0], .bool false]) ∧ Below w.heap.size w w' := by
  by_cases h0 : n < 0
  · have H : unpackOk n = false := by simp [unpackOk]; omega
    rw [H]
    clear H
    go_enter Try.func22, Try.ntmps22
    go_wp2_with (go_at_call 15; refine (spec_CapValid _ _ _ _ _).mono ?_; rintro e w' ⟨rfl, rfl⟩)
    refine bodyPost_ret (v := .tuple #[.agg #[.int .i64 0, .int .i64 0, .int .i64 0, .int .i64 0], .bool false]) (by simp [results, Try.results22, go_sem]) rfl ⟨rfl, ?_⟩
    repeat (first | exact Below.refl _ _ | refine below_al ?_ _ | refine below_set ?_ (by simp) _)
  · have h1 : 0 ≤ n := by omega
    have H : unpackOk n = capOk (n % 8) (n / 8 % 100) (n / 800 % 16) (n / 12800) := by simp [unpackOk, h1]
    cases hc : capOk (n % 8) (n / 8 % 100) (n / 800 % 16) (n / 12800)
    all_goals rw [H, hc]
    all_goals clear H
    · go_enter Try.func22, Try.ntmps22
      go_wp2_with (go_at_call 15; refine (spec_CapValid _ _ _ _ _).mono ?_; rintro e w' ⟨rfl, rfl⟩)
      refine bodyPost_ret (v := .tuple #[.agg #[.int .i64 0, .int .i64 0, .int .i64 0, .int .i64 0], .bool false]) (by simp [results, Try.results22, go_sem]) rfl ⟨rfl, ?_⟩
      repeat (first | exact Below.refl _ _ | refine below_al ?_ _ | refine below_set ?_ (by simp) _)
    · go_enter Try.func22, Try.ntmps22
      go_wp2_with (go_at_call 15; refine (spec_CapValid _ _ _ _ _).mono ?_; rintro e w' ⟨rfl, rfl⟩)
      refine bodyPost_ret (v := .tuple #[.agg #[.int .i64 (n % 8), .int .i64 (n / 8 % 100), .int .i64 (n / 800 % 16), .int .i64 (n / 12800)], .bool true]) (by simp [results, Try.results22, go_sem]) rfl ⟨rfl, ?_⟩
      repeat (first | exact Below.refl _ _ | refine below_al ?_ _ | refine below_set ?_ (by simp) _)

set_option maxHeartbeats 2000000 in
theorem impl_UnpackCap (n : Int) (w : World) (hn : n ≤ 9223372036854775807) :
    Calls Try.prog 23 #[.int .i64 n] w
      fun e w' => e = .returned (if unpackOk n then .tuple #[.agg #[.int .i64 (n % 8), .int .i64 (n / 8 % 100), .int .i64 (n / 800 % 16), .int .i64 (n / 12800)], .bool true] else .tuple #[.agg #[.int .i64 0, .int .i64 0, .int .i64 0, .int .i64 0], .bool false]) ∧ Below w.heap.size w w' := by
  by_cases h0 : n < 0
  · have H : unpackOk n = false := by simp [unpackOk]; omega
    rw [H]
    clear H
    go_enter Try.func23, Try.ntmps23
    go_wp2_with fail
    refine bodyPost_ret (v := .tuple #[.agg #[.int .i64 0, .int .i64 0, .int .i64 0, .int .i64 0], .bool false]) (by simp [results, Try.results23, go_sem]) rfl ⟨rfl, ?_⟩
    repeat (first | exact Below.refl _ _ | refine below_al ?_ _ | refine below_set ?_ (by simp) _)
  · have h1 : 0 ≤ n := by omega
    have H : unpackOk n = capOk (n % 8) (n / 8 % 100) (n / 800 % 16) (n / 12800) := by simp [unpackOk, h1]
    have P : capPack (n % 8) (n / 8 % 100) (n / 800 % 16) (n / 12800) = if capOk (n % 8) (n / 8 % 100) (n / 800 % 16) (n / 12800) then n else -1 := by
      unfold capPack
      rw [packN_unpack n h1]
    cases hc : capOk (n % 8) (n / 8 % 100) (n / 800 % 16) (n / 12800)
    all_goals rw [H, hc]
    all_goals rw [hc] at P
    all_goals clear H
    · have hp : (capPack (n % 8) (n / 8 % 100) (n / 800 % 16) (n / 12800) == n) = false := by rw [P, beq_eq_false_iff_ne]; simp; omega
      clear P hc
      go_enter Try.func23, Try.ntmps23
      go_wp2_with fail
      refine (impl_PackCap _ _ _ _ _).mono ?_
      rintro e w1 ⟨rfl, hb1⟩
      obtain ⟨hc1, hf1⟩ := bcell hb1
      have d0 : w1.cell? ⟨w.heap.size, 0, none⟩ = some (.int .i64 0) := by rw [hc1 _ _ (by simp; omega)]; simp
      have d1 : w1.cell? ⟨w.heap.size, 1, none⟩ = some (.int .i64 0) := by rw [hc1 _ _ (by simp; omega)]; simp
      have d2 : w1.cell? ⟨w.heap.size, 2, none⟩ = some (.int .i64 0) := by rw [hc1 _ _ (by simp; omega)]; simp
      have d3 : w1.cell? ⟨w.heap.size, 3, none⟩ = some (.int .i64 0) := by rw [hc1 _ _ (by simp; omega)]; simp
      have hbel : Below w.heap.size w w1 := by
        have h2 := hb1
        simp only [World.size_alloc] at h2
        refine Below.trans ?_ (h2.mono (by omega))
        repeat (first | exact Below.refl _ _ | refine below_al ?_ _ | refine below_set ?_ (by simp) _)
      clear hb1
      go_wp2_with fail
      refine bodyPost_ret (v := .tuple #[.agg #[.int .i64 0, .int .i64 0, .int .i64 0, .int .i64 0], .bool false]) (by simp [results, Try.results23, go_sem, d0, d1, d2, d3]) rfl ⟨rfl, ?_⟩
      repeat (first | exact hbel | refine below_al ?_ _ | refine below_set ?_ (by simp) _)
    · have hp : (capPack (n % 8) (n / 8 % 100) (n / 800 % 16) (n / 12800) == n) = true := by rw [P]; simp
      clear P hc
      go_enter Try.func23, Try.ntmps23
      go_wp2_with fail
      refine (impl_PackCap _ _ _ _ _).mono ?_
      rintro e w1 ⟨rfl, hb1⟩
      obtain ⟨hc1, hf1⟩ := bcell hb1
      have d0 : w1.cell? ⟨w.heap.size, 0, none⟩ = some (.int .i64 0) := by rw [hc1 _ _ (by simp; omega)]; simp
      have d1 : w1.cell? ⟨w.heap.size, 1, none⟩ = some (.int .i64 0) := by rw [hc1 _ _ (by simp; omega)]; simp
      have d2 : w1.cell? ⟨w.heap.size, 2, none⟩ = some (.int .i64 0) := by rw [hc1 _ _ (by simp; omega)]; simp
      have d3 : w1.cell? ⟨w.heap.size, 3, none⟩ = some (.int .i64 0) := by rw [hc1 _ _ (by simp; omega)]; simp
      have hbel : Below w.heap.size w w1 := by
        have h2 := hb1
        simp only [World.size_alloc] at h2
        refine Below.trans ?_ (h2.mono (by omega))
        repeat (first | exact Below.refl _ _ | refine below_al ?_ _ | refine below_set ?_ (by simp) _)
      clear hb1
      go_wp2_with fail
      refine bodyPost_ret (v := .tuple #[.agg #[.int .i64 (n % 8), .int .i64 (n / 8 % 100), .int .i64 (n / 800 % 16), .int .i64 (n / 12800)], .bool true]) (by simp [results, Try.results23, go_sem, d0, d1, d2, d3]) rfl ⟨rfl, ?_⟩
      repeat (first | exact hbel | refine below_al ?_ _ | refine below_set ?_ (by simp) _)

end Go.Proofs.Ytciebhdoafhkbaa
