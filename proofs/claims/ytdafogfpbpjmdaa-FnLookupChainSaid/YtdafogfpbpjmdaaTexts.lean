/- The texts of rights: the builder's bytes, RightsText of the program and of the reference, the fixed answer. No condition. -/
import Derived.Test.YtdafogfpbpjmdaaRights
import Derived.Test.YtdafogfpbpjmdaaShelf
import Derived.Lib.Strings
import Derived.Lib.Slices
import Derived.Lib.Walk
import Derived.Lib.Builder
import Derived.Lib.AppendStr
import Derived.Laws.Externs
namespace Go.Proofs.Ytdafogfpbpjmdaa
open Go.RowKit
set_option linter.unusedVariables false

theorem sizeBuilder : (Try.prog.info? 92).map (·.size) = some 2 := by kernel_rfl
theorem infoByte : (Try.prog.info? 5).map (fun i => (i.zero, i.size, i.bytes)) = some (some (.int .u8 0), 1, 1) := by kernel_rfl

set_option maxHeartbeats 1000000 in
set_option maxRecDepth 100000 in
theorem copyCheck_used (b : Nat) (w : World) (h0 : w.cell? ⟨b, 0, none⟩ = some (.pointer (some ⟨b, 0, none⟩))) :
    Calls Try.prog 83 #[.pointer (some ⟨b, 0, none⟩)] w fun e w' => e = .returned (.tuple #[]) ∧ w' = w := by
  obtain ⟨j, hj, _⟩ := Option.map_eq_some_iff.1 sizeBuilder
  go_enter Try.func83, Try.ntmps83
  go_wp2
  rw [Lib.run_neq_ptr_same w _ Try.underlying90 hj]
  go_wp2
  go_end0
  exact ⟨rfl, rfl⟩

set_option maxHeartbeats 1000000 in
set_option maxRecDepth 100000 in
theorem copyCheck_fresh (b : Nat) (w : World) (h0 : w.cell? ⟨b, 0, none⟩ = some (.pointer none)) (hsh : w.shape? b = some (92, 2)) (hfz : w.frozen? ⟨b, 0, none⟩ = false) :
    Calls Try.prog 83 #[.pointer (some ⟨b, 0, none⟩)] w fun e w' => e = .returned (.tuple #[]) ∧ w' = w.setCell ⟨b, 0, none⟩ (.pointer (some ⟨b, 0, none⟩)) := by
  obtain ⟨j, hj, hjs⟩ := Option.map_eq_some_iff.1 sizeBuilder
  go_enter Try.func83, Try.ntmps83
  go_wp2
  rw [Lib.run_to_unsafe w ⟨b, 0, none⟩ Try.underlying90 Try.underlying100 hj (by rw [hjs]; decide) hsh (Nat.zero_lt_succ 1)]
  simp only [Result.andThen]
  rw [Oper.upon_value]
  go_wp2
  rw [run_callFunc_extern Try.func84 (by kernel_rfl) (by kernel_rfl) (by kernel_rfl) (e := Extern.AbiNoEscape.same) (by kernel_rfl)]
  rw [Lib.run_noEscape]
  simp only [Result.andThen]
  rw [Oper.upon_value]
  go_wp2
  rw [Lib.run_from_unsafe w ⟨b, 0, none⟩ Try.underlying100 Try.underlying90 hj hsh (by kernel_rfl)]
  simp only [Result.andThen]
  rw [Oper.upon_value]
  go_wp2
  go_end0
  exact ⟨rfl, rfl⟩

theorem copyCheck_any (B b : Nat) (bs : List Value) (w : World) (h : Lib.IsBuilder 92 5 B b bs w) :
    Calls Try.prog 83 #[.pointer (some ⟨b, 0, none⟩)] w fun e w' => e = .returned (.tuple #[]) ∧ (Lib.BuilderAt 92 5 B b (.pointer (some ⟨b, 0, none⟩)) bs w' ∧ Below B w w') := by
  rcases h with h | h
  · refine (copyCheck_fresh b w h.cell0 h.shape h.frozen0).mono ?_
    rintro e w' ⟨rfl, rfl⟩
    exact ⟨rfl, h.used _, (Below.refl B w).setCell (p := ⟨b, 0, none⟩) h.1 _⟩
  · refine (copyCheck_used b w h.cell0).mono ?_
    rintro e w' ⟨rfl, rfl⟩
    exact ⟨rfl, h, Below.refl B _⟩

set_option maxHeartbeats 2000000 in
set_option maxRecDepth 100000 in
theorem writeByte_any (B b : Nat) (bs : List Value) (c : Int) (w : World) (h : Lib.IsBuilder 92 5 B b bs w) (hlen : bs.length + 1 ≤ 140737488355328) (hBw : B ≤ w.heap.size) :
    Calls Try.prog 79 #[.pointer (some ⟨b, 0, none⟩), .int .u8 c] w fun e w' => e = .returned .nilIface ∧ (Lib.BuilderAt 92 5 B b (.pointer (some ⟨b, 0, none⟩)) (bs ++ [.int .u8 c]) w' ∧ Below B w w') := by
  obtain ⟨i0, hi, hz0, hz1, hz2⟩ := info_parts infoByte
  go_enter Try.func79, Try.ntmps79
  go_wp2_with (go_at_call 83; refine (copyCheck_any B b bs _ h).mono ?_)
  rintro e w1 ⟨rfl, h1, hb1⟩
  obtain ⟨hB, v, hbk, hown, hne⟩ := h1
  have c0 : w1.cell? ⟨b, 0, none⟩ = some (.pointer (some ⟨b, 0, none⟩)) := by rw [Lib.cell_of_heap hbk]; rfl
  have c1 : w1.cell? ⟨b, 1, none⟩ = some v := by rw [Lib.cell_of_heap hbk]; rfl
  go_wp2_with (at_builtin; refine wpList_append_own _ rfl _ _ 53 rfl B 5 i0 (.int .u8 0) 1 1 Try.underlying53 hi hz0 hz1 hz2 rfl (by decide) _ _ _ rfl (hown.alloc _) ⟨w1.heap.size, 0, none⟩ 1 1 [.int .u8 c] rfl rfl ?c1 ?c2 ?c3 ?c4 ?c5 ?_)
  case c1 =>
    intro j u hj
    match j, hj with
    | 0, hj => simp at hj; subst hj; simp [Addr.add]
  case c2 => intro u hu; simp at hu; subst hu; rfl
  case c3 => unfold maxLen; omega
  case c4 => omega
  case c5 => have := hb1.size; simp; omega
  intro v' w2 hown' hgrow _
  have hlt : b < w1.heap.size := by
    rcases Nat.lt_or_ge b w1.heap.size with h' | h'
    · exact h'
    · simp [Array.getElem?_eq_none h'] at hbk
  have hb2 : w2.heap[b]? = some (.cells #[.pointer (some ⟨b, 0, none⟩), v] 92 (0, 0)) := by
    rw [hgrow.block b (by simp; omega) (fun e => hne e.symm), Lib.alloc_old w1 _ b hlt]
    exact hbk
  have d0 : w2.cell? ⟨b, 0, none⟩ = some (.pointer (some ⟨b, 0, none⟩)) := by rw [Lib.cell_of_heap hb2]; rfl
  have d1 : w2.cell? ⟨b, 1, none⟩ = some v := by rw [Lib.cell_of_heap hb2]; rfl
  have f1 : w2.frozen? ⟨b, 1, none⟩ = false := Lib.frozen_of_heap hb2 1
  obtain ⟨g, cap, rfl⟩ : ∃ g cap, v' = .slice (some ⟨g, 0, none⟩) (bs.length + 1) cap := by
    rcases hown'.2 with ⟨_, h0⟩ | ⟨g, cap, cur, hv, _⟩
    · omega
    · exact ⟨g, cap, hv⟩
  go_wp2
  go_ret
  refine ⟨rfl, ?_, ?_⟩
  · exact Lib.BuilderAt.put (T := 92) (e := 5) hB hb2 (bs' := bs ++ [.int .u8 c]) (by simpa using hown') (by decide)
  · exact ((hb1.alloc (by have := hb1.size; omega) _).grown hgrow (by have := hb1.size; simp; omega) (fun k hk => (hown.lt k hk).1)).setCell (p := ⟨b, 1, none⟩) hB _

theorem ret_string {a b : ByteArray} (h : a = b) : Ending.returned (.string a) = .returned (.string b) := by rw [h]

/-- The letters of the first k rights that are in n. -/
def rPre (n : Int) : Nat → List UInt8
  | 0 => []
  | k + 1 => rPre n k ++ (if (n / 2 ^ k % 2 == 1) = true then [([114, 119, 103, 112] : List UInt8).getD k 0] else [])
def rTextL (n : Int) : List UInt8 := if rValid n then (if n = 0 then [45] else rPre n 4) else []
def rText (n : Int) : ByteArray := ⟨(rTextL n).toArray⟩

theorem rPre_len (n : Int) : ∀ k, (rPre n k).length ≤ k
  | 0 => Nat.le_refl _
  | k + 1 => by have := rPre_len n k; simp only [rPre, List.length_append]; split <;> simp <;> omega

theorem ba_append (l : List UInt8) (c : UInt8) (t : ByteArray) (h : t = ⟨#[c]⟩) : (⟨l.toArray⟩ : ByteArray) ++ t = ⟨(l ++ [c]).toArray⟩ := by
  subst h
  apply ByteArray.ext
  rw [ByteArray.data_append]
  simp

theorem rPre_even (n : Int) (k : Nat) (h : (n / 2 ^ k % 2 == 1) = false) : rPre n (k + 1) = rPre n k := by
  show rPre n k ++ _ = _
  rw [h]
  simp
theorem rPre_odd (n : Int) (k : Nat) (h : (n / 2 ^ k % 2 == 1) = true) : rPre n (k + 1) = rPre n k ++ [([114, 119, 103, 112] : List UInt8).getD k 0] := by
  show rPre n k ++ _ = _
  rw [h]
  simp

theorem rt_odd (n : Int) (k : Nat) (P : List UInt8) (t : ByteArray) (hP : rPre n k = P) (h : (n / 2 ^ k % 2 == 1) = true) (ht : t = ⟨#[([114, 119, 103, 112] : List UInt8).getD k 0]⟩) :
    Value.string ({ data := P.toArray } ++ t) = .string ⟨(rPre n (k + 1)).toArray⟩ := by rw [rPre_odd n k h, hP, ba_append _ _ _ ht]
theorem rt_even (n : Int) (k : Nat) (P : List UInt8) (hP : rPre n k = P) (h : (n / 2 ^ k % 2 == 1) = false) :
    Value.string { data := P.toArray } = .string ⟨(rPre n (k + 1)).toArray⟩ := by rw [rPre_even n k h, hP]
theorem rText_zero (n : Int) (h : n = 0) : rText n = ⟨#[45]⟩ := by subst h; rfl
theorem rText_pos (n : Int) (h : rValid n = true) (h0 : n ≠ 0) : rText n = ⟨(rPre n 4).toArray⟩ := by simp [rText, rTextL, h, h0]
theorem rText_no (n : Int) (h : rValid n = false) : rText n = ⟨#[]⟩ := by simp [rText, rTextL, h]

theorem and_one {x : Int} (h0 : 0 ≤ x) (h1 : x ≤ 15) : (bits .and .i64 x 1 == 1) = (x % 2 == 1) := by
  rcases sixteen (rValid_iff.2 ⟨h0, h1⟩) with rfl | rfl | rfl | rfl | rfl | rfl | rfl | rfl | rfl | rfl | rfl | rfl | rfl | rfl | rfl | rfl <;> decide +kernel
theorem byteCells_snoc (l : List UInt8) (c : UInt8) : Lib.byteCells (l ++ [c]) = Lib.byteCells l ++ [.int .u8 c.toNat] := by simp [Lib.byteCells]

set_option maxHeartbeats 2000000 in
theorem impl_RightsText (n : Int) (w : World) :
    Calls Try.prog 60 #[.int .i64 n] w fun e w' => e = .returned (.string (rText n)) ∧ Below w.heap.size w w' := by
  by_cases h : rValid n = true
  · have hb := rValid_iff.1 h
    by_cases h0 : n = 0
    · subst h0
      go_enter Try.func60, Try.ntmps60
      go_wp2_with (go_at_call 64; refine (impl_RightsValid _ _).mono ?_; rintro e w' ⟨rfl, rfl⟩)
      go_ret
      exact ⟨rfl, Below.refl _ _⟩
    · have h1 : (n == 0) = false := by rw [beq_eq_false_iff_ne]; exact h0
      have hI : Lib.IsBuilder 92 5 w.heap.size w.heap.size [] (w.alloc (.cells #[.pointer none, .slice none 0 0] 92)) :=
        .inl ⟨Nat.le_refl _, .slice none 0 0, heap_alloc_new w _, World.ownsRow_nil _ _ _ _, by simp [Value.ownBlock]⟩
      go_enter Try.func60, Try.ntmps60
      go_wp2_with (go_at_call 64; refine (impl_RightsValid _ _).mono ?_; rintro e w' ⟨rfl, rfl⟩)
      go_loopw [12] (fun k wr => ∃ i : Nat, i ≤ 4 ∧ k = .int .i64 i ∧ Below w.heap.size w wr ∧ Lib.IsBuilder 92 5 w.heap.size w.heap.size (Lib.byteCells (rPre n i)) wr) (fun k _ => 4 - (intOf k).toNat)
      case atStart => exact ⟨0, by omega, rfl, (Below.refl _ _).alloc (Nat.le_refl _) _, hI⟩
      case round =>
        obtain ⟨i, hi, rfl, hbel, hbd⟩ := hrel
        clear hI
        have hc : i = 0 ∨ i = 1 ∨ i = 2 ∨ i = 3 ∨ i = 4 := by omega
        rcases hc with rfl | rfl | rfl | rfl | rfl
        all_goals
          go_wp2_with fail
        · have hx : (bits .and .i64 n 1 == 1) = true := by assumption
          have hy : (n / 2 ^ 0 % 2 == 1) = true := by rw [← and_one (by omega) (by omega)]; simpa using hx
          refine (writeByte_any w.heap.size w.heap.size _ _ _ hbd (by have := rPre_len n 0; simp only [Lib.byteCells, List.length_map]; omega) hbel.size).mono ?_
          rintro e w1 ⟨rfl, h1, hb1⟩
          have hbel1 := hbel.trans hb1
          clear hbel hb1
          go_wp2_with fail
          refine ⟨⟨1, by omega, rfl, hbel1, .inr ?_⟩, by simp [intOf]⟩
          rw [rPre_odd n 0 hy, byteCells_snoc]
          exact h1
        · have hx : (bits .and .i64 n 1 == 1) = false := by assumption
          have hy : (n / 2 ^ 0 % 2 == 1) = false := by rw [← and_one (by omega) (by omega)]; simpa using hx
          exact ⟨⟨1, by omega, rfl, hbel, by rw [rPre_even n 0 hy]; exact hbd⟩, by simp [intOf]⟩
        · have hx : (bits .and .i64 (n / 2) 1 == 1) = true := by assumption
          have hy : (n / 2 ^ 1 % 2 == 1) = true := by rw [← and_one (by omega) (by omega)]; simpa using hx
          refine (writeByte_any w.heap.size w.heap.size _ _ _ hbd (by have := rPre_len n 1; simp only [Lib.byteCells, List.length_map]; omega) hbel.size).mono ?_
          rintro e w1 ⟨rfl, h1, hb1⟩
          have hbel1 := hbel.trans hb1
          clear hbel hb1
          go_wp2_with fail
          refine ⟨⟨2, by omega, rfl, hbel1, .inr ?_⟩, by simp [intOf]⟩
          rw [rPre_odd n 1 hy, byteCells_snoc]
          exact h1
        · have hx : (bits .and .i64 (n / 2) 1 == 1) = false := by assumption
          have hy : (n / 2 ^ 1 % 2 == 1) = false := by rw [← and_one (by omega) (by omega)]; simpa using hx
          exact ⟨⟨2, by omega, rfl, hbel, by rw [rPre_even n 1 hy]; exact hbd⟩, by simp [intOf]⟩
        · have hx : (bits .and .i64 (n / 4) 1 == 1) = true := by assumption
          have hy : (n / 2 ^ 2 % 2 == 1) = true := by rw [← and_one (by omega) (by omega)]; simpa using hx
          refine (writeByte_any w.heap.size w.heap.size _ _ _ hbd (by have := rPre_len n 2; simp only [Lib.byteCells, List.length_map]; omega) hbel.size).mono ?_
          rintro e w1 ⟨rfl, h1, hb1⟩
          have hbel1 := hbel.trans hb1
          clear hbel hb1
          go_wp2_with fail
          refine ⟨⟨3, by omega, rfl, hbel1, .inr ?_⟩, by simp [intOf]⟩
          rw [rPre_odd n 2 hy, byteCells_snoc]
          exact h1
        · have hx : (bits .and .i64 (n / 4) 1 == 1) = false := by assumption
          have hy : (n / 2 ^ 2 % 2 == 1) = false := by rw [← and_one (by omega) (by omega)]; simpa using hx
          exact ⟨⟨3, by omega, rfl, hbel, by rw [rPre_even n 2 hy]; exact hbd⟩, by simp [intOf]⟩
        · have hx : (bits .and .i64 (n / 8) 1 == 1) = true := by assumption
          have hy : (n / 2 ^ 3 % 2 == 1) = true := by rw [← and_one (by omega) (by omega)]; simpa using hx
          refine (writeByte_any w.heap.size w.heap.size _ _ _ hbd (by have := rPre_len n 3; simp only [Lib.byteCells, List.length_map]; omega) hbel.size).mono ?_
          rintro e w1 ⟨rfl, h1, hb1⟩
          have hbel1 := hbel.trans hb1
          clear hbel hb1
          go_wp2_with fail
          refine ⟨⟨4, by omega, rfl, hbel1, .inr ?_⟩, by simp [intOf]⟩
          rw [rPre_odd n 3 hy, byteCells_snoc]
          exact h1
        · have hx : (bits .and .i64 (n / 8) 1 == 1) = false := by assumption
          have hy : (n / 2 ^ 3 % 2 == 1) = false := by rw [← and_one (by omega) (by omega)]; simpa using hx
          exact ⟨⟨4, by omega, rfl, hbel, by rw [rPre_even n 3 hy]; exact hbd⟩, by simp [intOf]⟩
        · refine (Try.Builder_String_any w.heap.size w.heap.size _ _ hbd hbel.size).mono ?_
          rintro e w1 ⟨rfl, hb1⟩
          go_wp2_with fail
          go_ret
          exact ⟨ret_string (rText_pos n h h0).symm, hbel.trans hb1⟩
  · have h' : rValid n = false := by simpa using h
    go_enter Try.func60, Try.ntmps60
    go_wp2_with (go_at_call 64; refine (impl_RightsValid _ _).mono ?_; rintro e w' ⟨rfl, rfl⟩)
    go_ret
    exact ⟨ret_string (rText_no n h').symm, Below.refl _ _⟩

set_option maxHeartbeats 400000 in
theorem laws_alive (w : World) : Calls Try.prog 36 #[] w fun e w' => e = .returned (.bool true) ∧ Below w.heap.size w w' := by
  have h5 : rText 5 = ⟨#[114, 103]⟩ := rfl
  go_enter Try.func36, Try.ntmps36
  go_wp2_with fail
  refine (impl_RightsText _ _).mono ?_
  rintro e w1 ⟨rfl, hb1⟩
  go_wp2_with fail
  go_ret
  exact ⟨ret_bool (by simp), hb1⟩

/-- The set whose text this is, among 0 .. k - 1, the first of them; -1 if none. -/
def rFind (s : ByteArray) : Nat → Nat → Int
  | _, 0 => -1
  | k, f + 1 => if rText k = s then k else rFind s (k + 1) f
def rRead (s : ByteArray) : Int := rFind s 0 16

theorem ba_ne {a b : ByteArray} (h : ¬ a = b) : (a.toList == b.toList) = false := by
  rw [beq_eq_false_iff_ne]
  intro he
  rw [ByteArray.toList_eq, ByteArray.toList_eq] at he
  exact h (ByteArray.ext (Array.toList_inj.1 he))

theorem rFind_hit {s : ByteArray} {i : Nat} (hi : i < 16) (he : rText i = s) {r : Int} (hr : r = rFind s i (16 - i)) : r = i := by
  rw [hr, show 16 - i = (15 - i) + 1 by omega]
  simp [rFind, he]
theorem rFind_miss {s : ByteArray} {i : Nat} (hi : i < 16) (he : ¬ rText i = s) {r : Int} (hr : r = rFind s i (16 - i)) : r = rFind s (i + 1) (16 - (i + 1)) := by
  rw [hr, show 16 - i = (15 - i) + 1 by omega]
  simp only [rFind, he, if_false]
  rw [show 16 - (i + 1) = 15 - i by omega]

end Go.Proofs.Ytdafogfpbpjmdaa
