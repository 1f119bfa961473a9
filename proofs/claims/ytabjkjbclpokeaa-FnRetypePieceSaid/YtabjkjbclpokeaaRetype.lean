/- What RetypePiece of the program and of the reference computes: the objects' places, or nothing. No condition beyond those written. -/
import Derived.Test.YtabjkjbclpokeaaPieceS
import Derived.Test.YtabjkjbclpokeaaInts
import Derived.Laws.AppendOwn
namespace Go.Proofs.Ytabjkjbclpokeaa
open Go.RowKit
set_option linter.unusedVariables false

theorem int_info : (Try.prog.info? 3).map (fun i => (i.zero, i.size, i.bytes)) = some (some (.int .i64 0), 1, 8) := by kernel_rfl
theorem own_form {w : World} {base : Nat} {v : Value} {n : Nat} {vs : List Value} (h : w.ownsRow base 3 1 v n vs) : ∃ A c, v = .slice A n c := by
  rcases h.2 with ⟨rfl, rfl⟩ | ⟨g, cap, cur, rfl, _⟩
  · exact ⟨_, _, rfl⟩
  · exact ⟨_, _, rfl⟩

/-- The places of the first j objects of size K from F on in a piece that begins at s. -/
def objs (s F K : Int) (j : Nat) : List Int := (List.range j).map fun t : Nat => s + (F + (t : Int) * K)
theorem objs_succ (s F K : Int) (j : Nat) : objs s F K (j + 1) = objs s F K j ++ [s + (F + (j : Int) * K)] := by simp [objs, List.range_succ]
theorem objs_len (s F K : Int) (j : Nat) : (objs s F K j).length = j := by simp [objs]
theorem objs_at (s F K : Int) (j t : Nat) (h : t < j) : (objs s F K j)[t]? = some (s + (F + (t : Int) * K)) := by simp [objs, h]

/-- Where there is room for m objects. -/
theorem room_case {s b u k m : Int} (h : pieceOk s b u = true) (k0 : 0 ≤ k) (k1 : k ≤ 16) (m0 : 1 ≤ m) (hr : m ≤ roomOf (pw b) u (pw k)) :
    k ≤ b ∧ u ≤ up u (pw k) ∧ up u (pw k) + m * pw k ≤ pw b ∧ up (s + u) (pw k) = s + up u (pw k) ∧ s % pw k = 0 := by
  obtain ⟨⟨b0, b1⟩, ⟨s0, s1⟩, hs, u0, u1⟩ := pieceOk_iff.1 h
  have hK := pw_pos k
  have hB := pw_pos b
  unfold roomOf at hr
  have hr' : m ≤ (pw b - up u (pw k)) / pw k := by omega
  have hmk : m * pw k ≤ pw b - up u (pw k) := by
    have h1 := Int.mul_le_mul_of_nonneg_right hr' (show 0 ≤ pw k by omega)
    have h2 := Int.ediv_mul_le (pw b - up u (pw k)) (show pw k ≠ 0 by omega)
    omega
  have h1k : pw k ≤ m * pw k := by
    have := Int.mul_le_mul_of_nonneg_right m0 (show 0 ≤ pw k by omega)
    omega
  have hge := up_ge (u := u) hK
  have hkb : k ≤ b := by
    by_cases hkb : k ≤ b
    · exact hkb
    · have h2 := pw_lt b0 (show b < k by omega)
      omega
  have hsk := mod_of_mod hs (pw_dvd k0 hkb)
  exact ⟨hkb, hge, by omega, up_add hK hsk, hsk⟩
theorem mul_bounds {m K B j : Int} (hK : 1 ≤ K) (j0 : 0 ≤ j) (hj : j ≤ m) (h : m * K ≤ B) : 0 ≤ j * K ∧ j * K ≤ m * K := by
  have h1 := Int.mul_le_mul_of_nonneg_right hj (show 0 ≤ K by omega)
  have h2 := Int.mul_nonneg j0 (show 0 ≤ K by omega)
  omega

def retOk (s b u k m : Int) : Bool := pieceOk s b u && inB k 0 16 && inB m 1 40

/-- What RetypePiece answers: the piece p, the list xs, whether it has been done. -/
def Retyped (p : Value) (xs : List Int) (t : Bool) (w : World) (e : Ending) (w' : World) : Prop :=
  ∃ (A : Option Addr) (c : Nat), e = .returned (.tuple #[p, .slice A xs.length c, .bool t]) ∧ OwnI w' w.heap.size A xs.length c xs ∧ Below w.heap.size w w'

theorem make_ints {i0 : TypeInfo} (m : Nat) (hi : Try.prog.info? 3 = some i0) (hz0 : i0.zero = some (.int .i64 0)) (hz1 : i0.size = 1) (hz2 : i0.bytes = 8) (hm : m ≤ 1000000) :
    ∃ cs : Array Value, cs.size = m * 1 ∧ (∀ t, t < m → cs.toList[t]? = some (.int .i64 0)) ∧ ∀ w : World, (Instr.makeSlice 35 (.int .i64 (m : Int)) (.int .i64 (m : Int))).run Try.prog w = .ok (.slice (some ⟨w.heap.size, 0, none⟩) m m) (w.alloc (.cells cs 3)) := by
  refine ⟨madeCells #[.int .i64 0] (m * 1), size_madeCells _ _, fun t ht => ?_, fun w => ?_⟩
  · rw [Nat.mul_one, toList_madeCells_one]
    simp [ht]
  · have hr := run_make (P := Try.prog) w 35 3 i0 (.int .i64 0) Try.underlying35 hi hz0 .i64 .i64 m m (by omega) (by omega) (by rw [hz2]; omega) (by omega)
    simp only [Int.toNat_natCast, hz1] at hr
    exact hr
set_option maxHeartbeats 4000000 in
theorem impl_RetypePiece_bad (s b u k m : Int) (w : World) (h : retOk s b u k m = false) :
    Calls Try.prog 26 #[.agg #[.int .i64 s, .int .i64 b, .int .i64 u], .int .i64 k, .int .i64 m] w fun e w' => e = .returned (.tuple #[.agg #[.int .i64 0, .int .i64 0, .int .i64 0], .slice none 0 0, .bool false]) ∧ Below w.heap.size w w' := by
  have hV := impl_PieceValid s b u
  cases h1 : pieceOk s b u
  · rw [h1] at hV
    clear h
    go_enter Try.func26, Try.ntmps26
    go_wp2_with fail
    refine (hV _).mono ?_
    rintro e w1 ⟨rfl, hb1⟩
    obtain ⟨hc1, hf1⟩ := bcell hb1
    have hz := hb1.size
    simp at hz
    have hB := below_next (below_al (below_al (Below.refl _ w) _) _) hb1
    go_wp2_with (go_at_call 38; refine (impl_in _ _ _ _).mono ?_; rintro e w' ⟨rfl, rfl⟩)
    refine bodyPost_ret (v := .tuple #[.agg #[.int .i64 0, .int .i64 0, .int .i64 0], .slice none 0 0, .bool false]) (by simp [results, Try.results26, go_sem, hc1]) rfl ⟨rfl, ?_⟩
    exact (by repeat (with_reducible first | exact hB | refine below_drew ?_ | refine below_al ?_ _ | refine below_set ?_ (by first | (simp; done) | (simp; omega)) _))
  · rw [h1] at hV
    cases h2 : inB k 0 16
    · clear h
      go_enter Try.func26, Try.ntmps26
      go_wp2_with fail
      refine (hV _).mono ?_
      rintro e w1 ⟨rfl, hb1⟩
      obtain ⟨hc1, hf1⟩ := bcell hb1
      have hz := hb1.size
      simp at hz
      have hB := below_next (below_al (below_al (Below.refl _ w) _) _) hb1
      go_wp2_with (go_at_call 38; refine (impl_in _ _ _ _).mono ?_; rintro e w' ⟨rfl, rfl⟩)
      refine bodyPost_ret (v := .tuple #[.agg #[.int .i64 0, .int .i64 0, .int .i64 0], .slice none 0 0, .bool false]) (by simp [results, Try.results26, go_sem, hc1]) rfl ⟨rfl, ?_⟩
      exact (by repeat (with_reducible first | exact hB | refine below_drew ?_ | refine below_al ?_ _ | refine below_set ?_ (by first | (simp; done) | (simp; omega)) _))
    · cases h3 : inB m 1 40
      · clear h
        go_enter Try.func26, Try.ntmps26
        go_wp2_with fail
        refine (hV _).mono ?_
        rintro e w1 ⟨rfl, hb1⟩
        obtain ⟨hc1, hf1⟩ := bcell hb1
        have hz := hb1.size
        simp at hz
        have hB := below_next (below_al (below_al (Below.refl _ w) _) _) hb1
        go_wp2_with (go_at_call 38; refine (impl_in _ _ _ _).mono ?_; rintro e w' ⟨rfl, rfl⟩)
        refine bodyPost_ret (v := .tuple #[.agg #[.int .i64 0, .int .i64 0, .int .i64 0], .slice none 0 0, .bool false]) (by simp [results, Try.results26, go_sem, hc1]) rfl ⟨rfl, ?_⟩
        exact (by repeat (with_reducible first | exact hB | refine below_drew ?_ | refine below_al ?_ _ | refine below_set ?_ (by first | (simp; done) | (simp; omega)) _))
      · exfalso
        simp [retOk, h1, h2, h3] at h

set_option maxHeartbeats 4000000 in
theorem impl_RetypePiece_few (s b u k m : Int) (w : World) (h : retOk s b u k m = true) (hr : roomOf (pw b) u (pw k) < m) :
    Calls Try.prog 26 #[.agg #[.int .i64 s, .int .i64 b, .int .i64 u], .int .i64 k, .int .i64 m] w fun e w' => e = .returned (.tuple #[.agg #[.int .i64 s, .int .i64 b, .int .i64 u], .slice none 0 0, .bool false]) ∧ Below w.heap.size w w' := by
  simp only [retOk, Bool.and_eq_true] at h
  obtain ⟨⟨h1, h2⟩, h3⟩ := h
  obtain ⟨⟨b0, b1⟩, ⟨s0, s1⟩, -, u0, u1⟩ := pieceOk_iff.1 h1
  obtain ⟨k0, k1⟩ := inB_iff.1 h2
  have hp := pw_pos b
  have hV := impl_PieceValid s b u
  rw [h1] at hV
  have hR := fun w => impl_room s b u k w s0 (by omega) b0 b1 u0 (by have := pw_max b1; omega) k0 k1
  rw [room_same h1 k0 k1] at hR
  clear h1
  generalize roomOf (pw b) u (pw k) = M at *
  generalize up (s + u) (pw k) = F at *
  go_enter Try.func26, Try.ntmps26
  go_wp2_with fail
  refine (hV _).mono ?_
  rintro e w1 ⟨rfl, hb1⟩
  have hA1 := IAt.belowSelf (IAt.alloc (IAt.new w 25 [s, b, u]) (.cells #[.int .i64 0, .int .i64 0, .int .i64 0] 25)) hb1
  have hZ1 := IAt.belowSelf (IAt.new (w.alloc (.cells #[.int .i64 s, .int .i64 b, .int .i64 u] 25)) 25 [0, 0, 0]) hb1
  rw [World.size_alloc] at hZ1
  have hB1 := below_next (below_al (below_al (Below.refl _ w) _) _) hb1
  have hlt1 := hZ1.lt
  clear hb1
  obtain ⟨c0, c1, c2⟩ := hA1.cells3
  go_wp2_with (go_at_call 38; refine (impl_in _ _ _ _).mono ?_; rintro e w' ⟨rfl, rfl⟩)
  refine (hR _).mono ?_
  rintro e w2 ⟨rfl, hb2⟩
  have hA2 := hA1.belowSelf hb2
  have hZ2 := hZ1.belowSelf hb2
  have hB := below_next hB1 hb2
  have hlt2 := hZ2.lt
  clear hb2 hA1 hZ1 hB1 hlt1 c0 c1 c2
  obtain ⟨c0, c1, c2⟩ := hA2.cells3
  obtain ⟨d0, d1, d2⟩ := hZ2.cells3
  have f0 := hZ2.free
  go_wp2_with fail
  refine bodyPost_ret (v := .tuple #[.agg #[.int .i64 s, .int .i64 b, .int .i64 u], .slice none 0 0, .bool false]) (by simp [results, Try.results26, go_sem, d0, d1, d2]) rfl ⟨rfl, ?_⟩
  exact (by repeat (with_reducible first | exact hB | refine below_drew ?_ | refine below_al ?_ _ | refine below_set ?_ (by first | (simp; done) | (simp; omega)) _))

set_option maxHeartbeats 8000000 in
theorem impl_RetypePiece_yes (s b u k : Int) (m : Nat) (w : World) (h : retOk s b u k m = true) (hr : (m : Int) ≤ roomOf (pw b) u (pw k)) :
    Calls Try.prog 26 #[.agg #[.int .i64 s, .int .i64 b, .int .i64 u], .int .i64 k, .int .i64 m] w (Retyped (.agg #[.int .i64 s, .int .i64 b, .int .i64 (up u (pw k) + m * pw k)]) (objs s (up u (pw k)) (pw k) m) true w) := by
  simp only [retOk, Bool.and_eq_true] at h
  obtain ⟨⟨h1, h2⟩, h3⟩ := h
  obtain ⟨⟨b0, b1⟩, ⟨s0, s1⟩, -, u0, u1⟩ := pieceOk_iff.1 h1
  obtain ⟨k0, k1⟩ := inB_iff.1 h2
  obtain ⟨m0, m1⟩ := inB_iff.1 h3
  have hp := pw_pos b
  have hq := pw_max b1
  have hV := impl_PieceValid s b u
  rw [h1] at hV
  have hR := fun w => impl_room s b u k w s0 (by omega) b0 b1 u0 (by omega) k0 k1
  rw [room_same h1 k0 k1] at hR
  obtain ⟨r1, r2, r3, r4, -⟩ := room_case h1 k0 k1 m0 hr
  rw [r4] at hR
  clear h1 r4
  have hK := pw_pos k
  have h2k : (2 : Int) ^ k.toNat = pw k := rfl
  generalize roomOf (pw b) u (pw k) = M at *
  generalize up u (pw k) = F at *
  generalize pw k = K at *
  generalize pw b = B at *
  have hF0 : 0 ≤ F := by omega
  have hm40 : m ≤ 40 := by omega
  have hMm : ¬ M < (m : Int) := by omega
  have HMB := Lib.hid (fun j (j0 : 0 ≤ j) (hj : j ≤ (m : Int)) => mul_bounds hK j0 hj (show (m : Int) * K ≤ 65536 by omega))
  have hmK := HMB.out m (by omega) (by omega)
  obtain ⟨i0, hi, hz0, hz1, hz2⟩ := info_parts int_info
  obtain ⟨cs, hcs, hcz, hmk⟩ := make_ints m hi hz0 hz1 hz2 (by omega)
  have HCZ := Lib.hid hcz
  have HCS := Lib.hid hcs
  clear hcz hcs hz0 hz1 hz2 hi i0
  go_enter Try.func26, Try.ntmps26
  go_wp2_with fail
  refine (hV _).mono ?_
  rintro e w1 ⟨rfl, hb1⟩
  have hA1 := IAt.belowSelf (IAt.alloc (IAt.new w 25 [s, b, u]) (.cells #[.int .i64 0, .int .i64 0, .int .i64 0] 25)) hb1
  have hZ1 := IAt.belowSelf (IAt.new (w.alloc (.cells #[.int .i64 s, .int .i64 b, .int .i64 u] 25)) 25 [0, 0, 0]) hb1
  rw [World.size_alloc] at hZ1
  have hB1 := below_next (below_al (below_al (Below.refl _ w) _) _) hb1
  have hlt1 := hZ1.lt
  clear hb1
  obtain ⟨c0, c1, c2⟩ := hA1.cells3
  go_wp2_with (go_at_call 38; refine (impl_in _ _ _ _).mono ?_; rintro e w' ⟨rfl, rfl⟩)
  refine (hR _).mono ?_
  rintro e w2 ⟨rfl, hb2⟩
  have hA2 := hA1.belowSelf hb2
  have hZ2 := hZ1.belowSelf hb2
  have hB2 := below_next hB1 hb2
  have hlt2 := hZ2.lt
  clear hb2 hA1 hZ1 hB1 hlt1 c0 c1 c2
  go_wp2_with fail
  have hA3 := hA2.alloc (.cells cs 3)
  have hZ3 := hZ2.alloc (.cells cs 3)
  have hB3 := below_al hB2 (.cells cs 3)
  have hO3 := World.ownsRow_lit (base := w.heap.size + 2) (e := 3) (size := 1) w2 cs m (by omega) (by simp only [maxLen]; omega) HCS.out
  have HA := Lib.hid hA3
  have HZ := Lib.hid hZ3
  have HB := Lib.hid hB3
  have HO := Lib.hid hO3
  have hG2 : w.heap.size + 2 ≤ w2.heap.size := by omega
  clear hA2 hZ2 hB2 hA3 hZ3 hB3 hO3 hR hV hlt2 hmk
  generalize w2.alloc (.cells cs 3) = W at *
  generalize w2.heap.size = G at *
  go_loopw [41] (fun i wr => ∃ (j : Nat) (vs : List Value), j ≤ m ∧ i = .int .i64 j ∧ wr.ownsRow (w.heap.size + 2) 3 1 (.slice (some ⟨G, 0, none⟩) m m) m vs ∧ (∀ t, t < m → ∃ x : Int, vs[t]? = some (.int .i64 x)) ∧ (∀ t : Nat, t < j → vs[t]? = some (.int .i64 (s + (F + (t : Int) * K)))) ∧
      IAt wr w.heap.size 25 [s, b, u] ∧ IAt wr (w.heap.size + 1) 25 [0, 0, 0] ∧ Below w.heap.size w wr) (fun i _ => m - (intOf i).toNat)
  case atStart => exact ⟨0, _, Nat.zero_le _, rfl, HO.out, fun t ht => ⟨0, HCZ.out t ht⟩, fun t ht => by omega, HA.out, HZ.out, HB.out⟩
  case round =>
    clear HA HZ HB HO HCZ HCS
    obtain ⟨j, vs, hj, rfl, ho, hint, hpre, hA, hZ, hB⟩ := hrel
    by_cases hlt : j < m
    · obtain ⟨g, hg, hbg, hgl, hc1, hf1⟩ := own_at ho (by omega)
      injection hg with hg
      injection hg with hg
      subst hg
      obtain ⟨x, hx⟩ := hint j hlt
      have e1 := (hc1 j hlt).trans hx
      have f1 := hf1 j
      have hvl : vs.length = m := by have := ho.1; omega
      have HS := Lib.hid (ho.stored j (.int .i64 (s + F + (j : Int) * K)))
      have HI := Lib.hid hint
      have HP := Lib.hid hpre
      have HV := Lib.hid hvl
      have HA := Lib.hid hA
      have HZ := Lib.hid hZ
      have HB := Lib.hid hB
      have hjK := HMB.out j (by omega) (by omega)
      have hlt' : (j : Int) < (m : Int) := by omega
      have hj0 : (0 : Int) ≤ (j : Int) := by omega
      clear hc1 hf1 hint hpre ho hx hvl hA hZ hB
      go_wp2_with fail
      go_roundw
      case rel =>
        refine ⟨j + 1, _, by omega, by go_num, HS.out.1, fun t ht => ?_, fun t ht => ?_, ?_, ?_, ?_⟩
        · by_cases e : j = t
          · subst e
            exact ⟨s + F + (j : Int) * K, by simp [HV.out, hlt]⟩
          · obtain ⟨y, hy⟩ := HI.out t ht
            exact ⟨y, by simp [e, hy]⟩
        · by_cases e : j = t
          · subst e
            simp [HV.out, hlt, Int.add_assoc]
          · simp [e, HP.out t (by omega)]
        · exact (Below.heap_setCell _ ⟨G, j, none⟩ _ w.heap.size (by show w.heap.size ≠ G; omega)).trans HA.out
        · exact (Below.heap_setCell _ ⟨G, j, none⟩ _ (w.heap.size + 1) (by show w.heap.size + 1 ≠ G; omega)).trans HZ.out
        · exact HB.out.setCell (show w.heap.size ≤ G by omega) _
      case measure => simp [intOf]; omega
    · have hge : ¬ (j : Int) < (m : Int) := by omega
      have hjn : j = m := by omega
      subst hjn
      have hvs : vs = (objs s F K j).map (Value.int .i64) := by
        have hl := ho.1
        apply List.ext_getElem?
        intro t
        by_cases ht : t < j
        · rw [hpre t ht]; simp [objs, ht]
        · rw [List.getElem?_eq_none (by omega), List.getElem?_eq_none (by simp [objs]; omega)]
      subst hvs
      have HO : Hid (OwnI wr (w.heap.size + 2) (some ⟨G, 0, none⟩) (objs s F K j).length j (objs s F K j)) := by rw [objs_len]; exact ho
      have hlen := objs_len s F K j
      have HB := Lib.hid hB
      obtain ⟨c0, c1, c2⟩ := hA.cells3
      obtain ⟨d0, d1, d2⟩ := hZ.cells3
      have f0 := hA.free
      have f1 := hZ.free
      have hw1 : IntKind.i64.wrap ((j : Int) * K) = (j : Int) * K := i64_id (by omega) (by omega)
      have hw2 : IntKind.i64.wrap (s + F + (j : Int) * K) = s + F + (j : Int) * K := i64_id (by omega) (by omega)
      have hw3 : IntKind.i64.wrap (s + F + (j : Int) * K - s) = F + (j : Int) * K := (i64_id (by omega) (by omega)).trans (by omega)
      clear ho hint hpre hA hZ hB
      generalize objs s F K j = os at *
      have HL := Lib.hid hlen
      clear hlen
      go_wp2_with fail
      go_region
      go_wp2_with fail
      refine bodyPost_ret (v := .tuple #[.agg #[.int .i64 s, .int .i64 b, .int .i64 (F + (j : Int) * K)], .slice (some ⟨G, 0, none⟩) j j, .bool true]) (by simp [results, Try.results26, go_sem, d0, d1, d2]) rfl ?_
      refine ⟨some ⟨G, 0, none⟩, j, by rw [HL.out], ?_, ?_⟩
      · refine OwnI.more (base := w.heap.size + 2) ?_ (by omega)
        repeat (with_reducible first | exact HO.out | refine OwnI.drew ?_ | refine OwnI.setOther ?_ (by omega) _)
      · have hB := HB.out
        exact (by repeat (with_reducible first | exact hB | refine below_drew ?_ | refine below_al ?_ _ | refine below_set ?_ (by first | (simp; done) | (simp; omega)) _))

set_option maxHeartbeats 4000000 in
theorem spec_RetypePiece_bad (s b u k m : Int) (w : World) (h : retOk s b u k m = false) :
    Calls Try.prog 25 #[.agg #[.int .i64 s, .int .i64 b, .int .i64 u], .int .i64 k, .int .i64 m] w (Retyped (.agg #[.int .i64 0, .int .i64 0, .int .i64 0]) [] false w) := by
  have hR := spec_PieceRoom s b u k
  have hA0 : IAt (((w.alloc (.cells #[.int .i64 s, .int .i64 b, .int .i64 u] 25)).alloc (.cells #[.int .i64 0, .int .i64 0, .int .i64 0] 25)).alloc (.cells #[] 3)) w.heap.size 25 [s, b, u] := IAt.alloc (IAt.alloc (IAt.new w 25 [s, b, u]) _) _
  have hZ0 : IAt (((w.alloc (.cells #[.int .i64 s, .int .i64 b, .int .i64 u] 25)).alloc (.cells #[.int .i64 0, .int .i64 0, .int .i64 0] 25)).alloc (.cells #[] 3)) (w.heap.size + 1) 25 [0, 0, 0] := by
    have := IAt.alloc (IAt.new (w.alloc (.cells #[.int .i64 s, .int .i64 b, .int .i64 u] 25)) 25 [0, 0, 0]) (.cells #[] 3)
    rwa [World.size_alloc] at this
  have hO0 : OwnI (((w.alloc (.cells #[.int .i64 s, .int .i64 b, .int .i64 u] 25)).alloc (.cells #[.int .i64 0, .int .i64 0, .int .i64 0] 25)).alloc (.cells #[] 3)) (w.heap.size + 2) (some ⟨w.heap.size + 1 + 1, 0, none⟩) 0 0 [] := by
    have := World.ownsRow_lit (base := w.heap.size + 2) (e := 3) (size := 1) ((w.alloc (.cells #[.int .i64 s, .int .i64 b, .int .i64 u] 25)).alloc (.cells #[.int .i64 0, .int .i64 0, .int .i64 0] 25)) #[] 0 (by simp) (by decide) rfl
    rw [World.size_alloc, World.size_alloc] at this
    exact this
  have hB0 : Below w.heap.size w (((w.alloc (.cells #[.int .i64 s, .int .i64 b, .int .i64 u] 25)).alloc (.cells #[.int .i64 0, .int .i64 0, .int .i64 0] 25)).alloc (.cells #[] 3)) := below_al (below_al (below_al (Below.refl _ w) _) _) _
  by_cases hx : pieceOk s b u = true ∧ inB k 0 16 = true
  · rw [roomB_iff, if_pos hx] at hR
    have hM := roomOf_nonneg (pw b) u (pw k)
    have h3 : inB m 1 40 = false := by
      cases h3 : inB m 1 40
      · rfl
      · simp [retOk, hx.1, hx.2, h3] at h
    clear h hx
    generalize roomOf (pw b) u (pw k) = M at *
    have hM0 : ¬ M < 0 := by omega
    go_enter Try.func25, Try.ntmps25
    go_wp2_with fail
    all_goals
      refine (hR _).mono ?_
      rintro e w1 ⟨rfl, hb1⟩
      have hZ1 := hZ0.belowSelf hb1
      have hO1 := hO0.below hb1
      have hlt1 := hZ1.lt
      obtain ⟨d0, d1, d2⟩ := hZ1.cells3
      have f1 := hZ1.free
      go_wp2_with (go_at_call 37; refine (spec_in _ _ _ _).mono ?_; rintro e w' ⟨rfl, rfl⟩)
      have hB := below_next hB0 hb1
      refine bodyPost_ret (v := .tuple #[.agg #[.int .i64 0, .int .i64 0, .int .i64 0], .slice (some ⟨w.heap.size + 1 + 1, 0, none⟩) 0 0, .bool false]) (by simp [results, Try.results25, go_sem, d0, d1, d2]) rfl ?_
      refine ⟨some ⟨w.heap.size + 1 + 1, 0, none⟩, 0, rfl, ?_, (by repeat (with_reducible first | exact hB | refine below_drew ?_ | refine below_al ?_ _ | refine below_set ?_ (by first | (simp; done) | (simp; omega)) _))⟩
      refine OwnI.more (base := w.heap.size + 2) ?_ (by omega)
      show OwnI _ _ _ 0 _ _
      repeat (with_reducible first | exact hO1 | refine OwnI.setOther ?_ (by omega) _)
  · rw [roomB_iff, if_neg hx] at hR
    clear h hx
    go_enter Try.func25, Try.ntmps25
    go_wp2_with fail
    all_goals
      refine (hR _).mono ?_
      rintro e w1 ⟨rfl, hb1⟩
      have hZ1 := hZ0.belowSelf hb1
      have hO1 := hO0.below hb1
      have hlt1 := hZ1.lt
      obtain ⟨d0, d1, d2⟩ := hZ1.cells3
      have f1 := hZ1.free
      go_wp2_with fail
      have hB := below_next hB0 hb1
      refine bodyPost_ret (v := .tuple #[.agg #[.int .i64 0, .int .i64 0, .int .i64 0], .slice (some ⟨w.heap.size + 1 + 1, 0, none⟩) 0 0, .bool false]) (by simp [results, Try.results25, go_sem, d0, d1, d2]) rfl ?_
      refine ⟨some ⟨w.heap.size + 1 + 1, 0, none⟩, 0, rfl, ?_, (by repeat (with_reducible first | exact hB | refine below_drew ?_ | refine below_al ?_ _ | refine below_set ?_ (by first | (simp; done) | (simp; omega)) _))⟩
      refine OwnI.more (base := w.heap.size + 2) ?_ (by omega)
      show OwnI _ _ _ 0 _ _
      repeat (with_reducible first | exact hO1 | refine OwnI.setOther ?_ (by omega) _)

set_option maxHeartbeats 4000000 in
theorem spec_RetypePiece_few (s b u k m : Int) (w : World) (h : retOk s b u k m = true) (hr : roomOf (pw b) u (pw k) < m) :
    Calls Try.prog 25 #[.agg #[.int .i64 s, .int .i64 b, .int .i64 u], .int .i64 k, .int .i64 m] w (Retyped (.agg #[.int .i64 s, .int .i64 b, .int .i64 u]) [] false w) := by
  simp only [retOk, Bool.and_eq_true] at h
  obtain ⟨⟨h1, h2⟩, h3⟩ := h
  have hR := spec_PieceRoom s b u k
  rw [roomB_iff, if_pos ⟨h1, h2⟩] at hR
  have hM := roomOf_nonneg (pw b) u (pw k)
  have hA0 : IAt (((w.alloc (.cells #[.int .i64 s, .int .i64 b, .int .i64 u] 25)).alloc (.cells #[.int .i64 0, .int .i64 0, .int .i64 0] 25)).alloc (.cells #[] 3)) w.heap.size 25 [s, b, u] := IAt.alloc (IAt.alloc (IAt.new w 25 [s, b, u]) _) _
  have hZ0 : IAt (((w.alloc (.cells #[.int .i64 s, .int .i64 b, .int .i64 u] 25)).alloc (.cells #[.int .i64 0, .int .i64 0, .int .i64 0] 25)).alloc (.cells #[] 3)) (w.heap.size + 1) 25 [0, 0, 0] := by
    have := IAt.alloc (IAt.new (w.alloc (.cells #[.int .i64 s, .int .i64 b, .int .i64 u] 25)) 25 [0, 0, 0]) (.cells #[] 3)
    rwa [World.size_alloc] at this
  have hO0 : OwnI (((w.alloc (.cells #[.int .i64 s, .int .i64 b, .int .i64 u] 25)).alloc (.cells #[.int .i64 0, .int .i64 0, .int .i64 0] 25)).alloc (.cells #[] 3)) (w.heap.size + 2) (some ⟨w.heap.size + 1 + 1, 0, none⟩) 0 0 [] := by
    have := World.ownsRow_lit (base := w.heap.size + 2) (e := 3) (size := 1) ((w.alloc (.cells #[.int .i64 s, .int .i64 b, .int .i64 u] 25)).alloc (.cells #[.int .i64 0, .int .i64 0, .int .i64 0] 25)) #[] 0 (by simp) (by decide) rfl
    rw [World.size_alloc, World.size_alloc] at this
    exact this
  have hB0 : Below w.heap.size w (((w.alloc (.cells #[.int .i64 s, .int .i64 b, .int .i64 u] 25)).alloc (.cells #[.int .i64 0, .int .i64 0, .int .i64 0] 25)).alloc (.cells #[] 3)) := below_al (below_al (below_al (Below.refl _ w) _) _) _
  clear h1 h2
  generalize roomOf (pw b) u (pw k) = M at *
  have hM0 : ¬ M < 0 := by omega
  go_enter Try.func25, Try.ntmps25
  go_wp2_with fail
  all_goals
      refine (hR _).mono ?_
      rintro e w0 ⟨rfl, hb0⟩
      have hA1 := hA0.belowSelf hb0
      have hZ0 := hZ0.belowSelf hb0
      have hO0 := hO0.below hb0
      have hB0 := below_next hB0 hb0
      have hlt0 := hA1.lt
      obtain ⟨c0, c1, c2⟩ := hA1.cells3
      clear hb0 hA0
      go_wp2_with (go_at_call 37; refine (spec_in _ _ _ _).mono ?_; rintro e w' ⟨rfl, rfl⟩)
      refine (hR _).mono ?_
      rintro e w1 ⟨rfl, hb1⟩
      have hA2 := hA1.belowSelf hb1
      have hZ1 := hZ0.belowSelf hb1
      have hO1 := hO0.below hb1
      have hlt1 := hZ1.lt
      clear c0 c1 c2
      obtain ⟨c0, c1, c2⟩ := hA2.cells3
      obtain ⟨d0, d1, d2⟩ := hZ1.cells3
      have f1 := hZ1.free
      go_wp2_with fail
      have hB := below_next hB0 hb1
      refine bodyPost_ret (v := .tuple #[.agg #[.int .i64 s, .int .i64 b, .int .i64 u], .slice (some ⟨w.heap.size + 1 + 1, 0, none⟩) 0 0, .bool false]) (by simp [results, Try.results25, go_sem, d0, d1, d2]) rfl ?_
      refine ⟨some ⟨w.heap.size + 1 + 1, 0, none⟩, 0, rfl, ?_, (by repeat (with_reducible first | exact hB | refine below_drew ?_ | refine below_al ?_ _ | refine below_set ?_ (by first | (simp; done) | (simp; omega)) _))⟩
      refine OwnI.more (base := w.heap.size + 2) ?_ (by omega)
      show OwnI _ _ _ 0 _ _
      repeat (with_reducible first | exact hO1 | refine OwnI.setOther ?_ (by omega) _)

set_option maxHeartbeats 8000000 in
theorem spec_RetypePiece_yes (s b u k : Int) (m : Nat) (w : World) (h : retOk s b u k m = true) (hr : (m : Int) ≤ roomOf (pw b) u (pw k)) :
    Calls Try.prog 25 #[.agg #[.int .i64 s, .int .i64 b, .int .i64 u], .int .i64 k, .int .i64 m] w (Retyped (.agg #[.int .i64 s, .int .i64 b, .int .i64 (up u (pw k) + m * pw k)]) (objs s (up u (pw k)) (pw k) m) true w) := by
  simp only [retOk, Bool.and_eq_true] at h
  obtain ⟨⟨h1, h2⟩, h3⟩ := h
  obtain ⟨⟨b0, b1⟩, ⟨s0, s1⟩, -, u0, u1⟩ := pieceOk_iff.1 h1
  obtain ⟨k0, k1⟩ := inB_iff.1 h2
  obtain ⟨m0, m1⟩ := inB_iff.1 h3
  have hp := pw_pos b
  have hq := pw_max b1
  have hR := spec_PieceRoom s b u k
  rw [roomB_iff, if_pos ⟨h1, h2⟩] at hR
  have hL := fun w => spec_l3First s b u k w u0 (by omega) k0 k1
  obtain ⟨r1, r2, r3, -, -⟩ := room_case h1 k0 k1 m0 hr
  have hK := pw_pos k
  have hKm := pw_max k1
  have h2k : wrap64 (2 ^ k.toNat) = pw k := pw_wrap k1
  have hA0 : IAt (((w.alloc (.cells #[.int .i64 s, .int .i64 b, .int .i64 u] 25)).alloc (.cells #[.int .i64 0, .int .i64 0, .int .i64 0] 25)).alloc (.cells #[] 3)) w.heap.size 25 [s, b, u] := IAt.alloc (IAt.alloc (IAt.new w 25 [s, b, u]) _) _
  have hZ0 : IAt (((w.alloc (.cells #[.int .i64 s, .int .i64 b, .int .i64 u] 25)).alloc (.cells #[.int .i64 0, .int .i64 0, .int .i64 0] 25)).alloc (.cells #[] 3)) (w.heap.size + 1) 25 [0, 0, 0] := by
    have := IAt.alloc (IAt.new (w.alloc (.cells #[.int .i64 s, .int .i64 b, .int .i64 u] 25)) 25 [0, 0, 0]) (.cells #[] 3)
    rwa [World.size_alloc] at this
  have hO0 : OwnI (((w.alloc (.cells #[.int .i64 s, .int .i64 b, .int .i64 u] 25)).alloc (.cells #[.int .i64 0, .int .i64 0, .int .i64 0] 25)).alloc (.cells #[] 3)) (w.heap.size + 2) (some ⟨w.heap.size + 1 + 1, 0, none⟩) 0 0 [] := by
    have := World.ownsRow_lit (base := w.heap.size + 2) (e := 3) (size := 1) ((w.alloc (.cells #[.int .i64 s, .int .i64 b, .int .i64 u] 25)).alloc (.cells #[.int .i64 0, .int .i64 0, .int .i64 0] 25)) #[] 0 (by simp) (by decide) rfl
    rw [World.size_alloc, World.size_alloc] at this
    exact this
  have hB0 : Below w.heap.size w (((w.alloc (.cells #[.int .i64 s, .int .i64 b, .int .i64 u] 25)).alloc (.cells #[.int .i64 0, .int .i64 0, .int .i64 0] 25)).alloc (.cells #[] 3)) := below_al (below_al (below_al (Below.refl _ w) _) _) _
  clear h1 h2
  generalize roomOf (pw b) u (pw k) = M at *
  generalize up u (pw k) = F at *
  generalize pw k = K at *
  generalize pw b = B at *
  have hF0 : 0 ≤ F := by omega
  have hm40 : m ≤ 40 := by omega
  have hM0 : ¬ M < 0 := by omega
  have hMm : ¬ M < (m : Int) := by omega
  have HMB := Lib.hid (fun j (j0 : 0 ≤ j) (hj : j ≤ (m : Int)) => mul_bounds hK j0 hj (show (m : Int) * K ≤ 65536 by omega))
  obtain ⟨i0, hi, hz0, hz1, hz2⟩ := info_parts int_info
  have HI0 := Lib.hid (And.intro hi (And.intro hz0 (And.intro hz1 hz2)))
  clear hi hz0 hz1 hz2
  go_enter Try.func25, Try.ntmps25
  go_wp2_with fail
  refine (hR _).mono ?_
  rintro e w1 ⟨rfl, hb1⟩
  have hA1 := hA0.belowSelf hb1
  have hZ1 := hZ0.belowSelf hb1
  have hO1 := hO0.below hb1
  have hB1 := below_next hB0 hb1
  have hlt1 := hZ1.lt
  clear hb1 hA0 hZ0 hO0 hB0
  obtain ⟨c0, c1, c2⟩ := hA1.cells3
  go_wp2_with (go_at_call 37; refine (spec_in _ _ _ _).mono ?_; rintro e w' ⟨rfl, rfl⟩)
  refine (hR _).mono ?_
  rintro e w2 ⟨rfl, hb2⟩
  have hA2 := hA1.belowSelf hb2
  have hZ2 := hZ1.belowSelf hb2
  have hO2 := hO1.below hb2
  have hB2 := below_next hB1 hb2
  have hlt2 := hZ2.lt
  clear hb2 hA1 hZ1 hO1 hB1 c0 c1 c2 hlt1
  obtain ⟨c0, c1, c2⟩ := hA2.cells3
  go_wp2_with fail
  refine (hL _).mono ?_
  rintro e w3 ⟨rfl, hb3⟩
  have HA := Lib.hid (hA2.belowSelf hb3)
  have HZ := Lib.hid (hZ2.belowSelf hb3)
  have HO := Lib.hid (hO2.below hb3)
  have HB := Lib.hid (below_next hB2 hb3)
  clear hb3 hA2 hZ2 hO2 hB2 c0 c1 c2 hlt2 hR hL
  go_wp2_with fail
  go_loopw [9, 10, 11] (fun ov av i wr => ∃ (j : Nat) (A : Option Addr) (c : Nat) (x : Int), j ≤ m ∧ i = .int .i64 j ∧ av = .int .i64 x ∧ Hid (x = F + (j : Int) * K) ∧ (0 ≤ x ∧ x ≤ 65536) ∧ ov = .slice A j c ∧ OwnI wr (w.heap.size + 2) A j c (objs s F K j) ∧
      IAt wr w.heap.size 25 [s, b, u] ∧ IAt wr (w.heap.size + 1) 25 [0, 0, 0] ∧ Below w.heap.size w wr) (fun _ _ i _ => m - (intOf i).toNat)
  case atStart => exact ⟨0, _, 0, F, Nat.zero_le _, rfl, rfl, show F = F + ((0 : Nat) : Int) * K by simp, by have := HMB.out m (by omega) (by omega); omega, rfl, HO.out, HA.out, HZ.out, HB.out⟩
  case round =>
    clear HA HZ HB HO
    obtain ⟨j, A, c, x, hj, rfl, rfl, hxe, ⟨hx0, hx1⟩, rfl, ho, hA, hZ, hB⟩ := hrel
    obtain ⟨hi, hz0, hz1, hz2⟩ := HI0.out
    by_cases hlt : j < m
    · obtain ⟨c0, c1, c2⟩ := hA.cells3
      have hA' := hA.alloc (.cells #[.int .i64 (s + x)] 3)
      have hZ' := hZ.alloc (.cells #[.int .i64 (s + x)] 3)
      have hB' := below_al hB (.cells #[.int .i64 (s + x)] 3)
      have hszB := hB.size
      have hlz := hZ.lt
      have hHA := Lib.hid hA'
      have hHZ := Lib.hid hZ'
      have hHB := Lib.hid hB'
      have hlt' : (j : Int) < (m : Int) := by omega
      have hj0 : (0 : Int) ≤ (j : Int) := by omega
      clear hA hZ hB hA' hZ' hB'
      go_wp2_with (at_builtin; refine wpList_append_own _ rfl _ _ 35 rfl (w.heap.size + 2) 3 i0 (.int .i64 0) 1 8 Try.underlying35 hi hz0 hz1 hz2 rfl (by decide) _ _ _ rfl (World.ownsRow.alloc ho _) ⟨wr.heap.size, 0, none⟩ 1 1 [.int .i64 (s + x)] rfl rfl ?c1 ?c2 ?c3 ?c4 ?c5 ?_)
      case c1 =>
        intro t u hj
        match t, hj with
        | 0, hj => simp at hj; subst hj; simp [Addr.add]
      case c2 => intro u hu; simp at hu; subst hu; rfl
      case c3 => simp only [maxLen]; omega
      case c4 => omega
      case c5 => simp; omega
      · intro v' w4 hown' hgrow _
        obtain ⟨A', c', rfl⟩ := own_form hown'
        have hrow := (World.ownsRow.lt ho)
        have hA4 : IAt w4 w.heap.size 25 [s, b, u] := (hgrow.block w.heap.size (by simp; omega) (fun e => by have := (hrow _ e.symm).1; omega)).trans hHA.out
        have hZ4 : IAt w4 (w.heap.size + 1) 25 [0, 0, 0] := (hgrow.block (w.heap.size + 1) (by simp; omega) (fun e => by have := (hrow _ e.symm).1; omega)).trans hHZ.out
        have hB4 : Below w.heap.size w w4 := hHB.out.grown hgrow (by simp; omega) (fun g e => by have := (hrow g e).1; omega)
        have hO4 : OwnI w4 (w.heap.size + 2) A' (j + 1) c' (objs s F K (j + 1)) := by
          unfold OwnI
          rw [objs_succ, List.map_append, ← show x = F + (j : Int) * K from hxe]
          exact hown'
        have HA := Lib.hid hA4
        have HZ := Lib.hid hZ4
        have HB := Lib.hid hB4
        have HO := Lib.hid hO4
        have hjK := HMB.out (j + 1) (by omega) (by omega)
        have hxe' : x = F + (j : Int) * K := hxe
        have hxn : x + K = F + ((j + 1 : Nat) : Int) * K := by
          rw [hxe', show (((j + 1 : Nat) : Int)) = (j : Int) + 1 by omega, Int.add_mul]
          omega
        have hxb : x + K ≤ 65536 := by
          rw [show (((j + 1 : Nat) : Int)) = (j : Int) + 1 by omega] at hxn
          have hmK := HMB.out m (by omega) (by omega)
          omega
        have HX := Lib.hid hxn
        clear hown' hgrow hrow hA4 hZ4 hB4 hO4 hxn hxe' ho hHA hHZ hHB c0 c1 c2 hjK
        go_wp2_with fail
        go_roundw
        case rel => exact ⟨j + 1, A', c', x + K, by omega, by go_num, rfl, HX.out, by omega, rfl, HO.out, HA.out, HZ.out, HB.out⟩
        case measure => simp [intOf]; omega
    · have hge : ¬ (j : Int) < (m : Int) := by omega
      have hjn : j = m := by omega
      subst hjn
      have hxe' : x = F + (j : Int) * K := hxe
      have HX := Lib.hid hxe'
      have hlen := objs_len s F K j
      have HO : Hid (OwnI wr (w.heap.size + 2) A (objs s F K j).length c (objs s F K j)) := by rw [objs_len]; exact ho
      have HL := Lib.hid hlen
      have HBH := Lib.hid hB
      obtain ⟨c0, c1, c2⟩ := hA.cells3
      obtain ⟨d0, d1, d2⟩ := hZ.cells3
      have f0 := hA.free
      have f1 := hZ.free
      clear hxe' hxe hlen ho hA hZ hB hi hz0 hz1 hz2
      generalize objs s F K j = os at *
      go_wp2_with fail
      refine bodyPost_ret (v := .tuple #[.agg #[.int .i64 s, .int .i64 b, .int .i64 x], .slice A j c, .bool true]) (by simp [results, Try.results25, go_sem, d0, d1, d2]) rfl ?_
      refine ⟨A, c, by rw [HL.out, HX.out], ?_, ?_⟩
      · refine OwnI.more (base := w.heap.size + 2) ?_ (by omega)
        repeat (with_reducible first | exact HO.out | refine OwnI.drew ?_ | refine OwnI.setOther ?_ (by omega) _)
      · have hB := HBH.out
        exact (by repeat (with_reducible first | exact hB | refine below_drew ?_ | refine below_al ?_ _ | refine below_set ?_ (by first | (simp; done) | (simp; omega)) _))

/-- Both answer alike. -/
theorem retype_both (s b u k m : Int) : ∃ (P0 P1 P2 : Int) (xs : List Int) (t : Bool), xs.length ≤ 40 ∧
    (∀ W, Calls Try.prog 25 #[.agg #[.int .i64 s, .int .i64 b, .int .i64 u], .int .i64 k, .int .i64 m] W (Retyped (.agg #[.int .i64 P0, .int .i64 P1, .int .i64 P2]) xs t W)) ∧
    (∀ W, Calls Try.prog 26 #[.agg #[.int .i64 s, .int .i64 b, .int .i64 u], .int .i64 k, .int .i64 m] W (Retyped (.agg #[.int .i64 P0, .int .i64 P1, .int .i64 P2]) xs t W)) := by
  cases h : retOk s b u k m
  · exact ⟨0, 0, 0, [], false, by simp, fun W => spec_RetypePiece_bad s b u k m W h, fun W => (impl_RetypePiece_bad s b u k m W h).mono fun e w' ⟨he, hb⟩ => ⟨none, 0, he, OwnI.nil _ _, hb⟩⟩
  · by_cases hr : m ≤ roomOf (pw b) u (pw k)
    · have h' := h
      simp only [retOk, Bool.and_eq_true] at h'
      have hm := inB_iff.1 h'.2
      obtain ⟨j, rfl⟩ := Int.eq_ofNat_of_zero_le (show 0 ≤ m by omega)
      exact ⟨s, b, _, _, true, by rw [objs_len]; omega, fun W => spec_RetypePiece_yes s b u k j W h hr, fun W => impl_RetypePiece_yes s b u k j W h hr⟩
    · have hr' : roomOf (pw b) u (pw k) < m := by omega
      exact ⟨s, b, u, [], false, by simp, fun W => spec_RetypePiece_few s b u k m W h hr', fun W => (impl_RetypePiece_few s b u k m W h hr').mono fun e w' ⟨he, hb⟩ => ⟨none, 0, he, OwnI.nil _ _, hb⟩⟩

end Go.Proofs.Ytabjkjbclpokeaa
