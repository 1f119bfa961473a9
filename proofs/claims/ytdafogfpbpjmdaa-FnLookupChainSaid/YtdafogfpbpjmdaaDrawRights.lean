/- The draws of rights: whatever the code, a number from -1 to 16, or a text; nothing that lay before has turned. No condition. -/
import Derived.Test.YtdafogfpbpjmdaaReader
namespace Go.Proofs.Ytdafogfpbpjmdaa
open Go.RowKit
set_option linter.unusedVariables false

theorem Reads.take {w : World} {B n k : Nat} {A : Option Addr} {xs : List Value} (h : Reads w B 1 A n xs) (hk : k ≤ n) : Reads w B 1 A k (xs.take k) := by
  refine ⟨by rw [List.length_take, h.1]; omega, fun h0 => ?_⟩
  obtain ⟨b, o, hA, hb, hc⟩ := h.2 (by omega)
  refine ⟨b, o, hA, hb, fun j u hu => hc j u ?_⟩
  rw [List.getElem?_take] at hu
  split at hu
  · exact hu
  · cases hu

/-- The bytes of a slice lie below block S. -/
def FromB (S : Nat) (v : Value) : Prop := ∃ (A : Option Addr) (n cap : Nat), v = .slice A n cap ∧ (0 < n → ∀ a, A = some a → a.block < S)
theorem BytesIn.from_ {w : World} {v : Value} (h : BytesIn w v) : FromB w.heap.size v := by
  obtain ⟨A, n, cap, bs, rfl, hn, hc, hl, hr, hx⟩ := h
  refine ⟨A, n, cap, rfl, fun h0 a ha => ?_⟩
  obtain ⟨c, o, hA, hb, _⟩ := hx.2 h0
  rw [hA] at ha
  injection ha with ha
  subst ha
  exact hb
/-- A new reader, with the place of its bytes. -/
def OpenedS (S : Nat) (w : World) (e : Ending) (w' : World) : Prop := ∃ b : Nat, e = .returned (.pointer (some ⟨b, 0, none⟩)) ∧ w.heap.size ≤ b ∧ Rd w' b 0 ∧ Below w.heap.size w w' ∧ Src S w' b

set_option maxHeartbeats 1000000 in
theorem open_src (v : Value) (S : Nat) (w : World) (h : BytesIn w v) (hS : FromB S v) : Calls Try.prog 59 #[v] w (OpenedS S w) := by
  obtain ⟨A, n, cap, bs, rfl, hn, hc, hl, hr, hx⟩ := h
  obtain ⟨A', n', cap', he, hs⟩ := hS
  injection he with h1 h2 h3
  subst h1 h2 h3
  by_cases h2 : 2000 < n
  · have h2' : (2000 : Int) < (n : Int) := by omega
    go_enter Try.func59, Try.ntmps59
    go_wp2_with fail
    go_ret
    refine ⟨w.heap.size, rfl, Nat.le_refl _, ⟨A, 2000, cap, bs.take 2000, 0, heap_alloc_new w _, by omega, by omega, by omega, hc, by rw [List.length_take]; omega, fun x hx => hr x (List.mem_of_mem_take hx), ?_⟩, (Below.refl _ _).alloc (Nat.le_refl _) _, ⟨A, 2000, cap, _, heap_alloc_new w _, fun _ => hs (by omega)⟩⟩
    rw [List.map_take]
    exact (hx.take (k := 2000) (by omega)).alloc (Nat.le_refl _) _
  · have h2' : (n : Int) ≤ 2000 := by omega
    go_enter Try.func59, Try.ntmps59
    go_wp2_with fail
    go_ret
    refine ⟨w.heap.size, rfl, Nat.le_refl _, ⟨A, n, cap, bs, 0, heap_alloc_new w _, by omega, by omega, hn, hc, hl, hr, hx.alloc (Nat.le_refl _) _⟩, (Below.refl _ _).alloc (Nat.le_refl _) _, ⟨A, n, cap, _, heap_alloc_new w _, hs⟩⟩
theorem open_any (v : Value) (w : World) (h : BytesIn w v) : Calls Try.prog 59 #[v] w (Opened w) :=
  (open_src v _ w h h.from_).mono fun e w' ⟨b, h1, h2, h3, h4, _⟩ => ⟨b, h1, h2, h3, h4⟩

/-- A number that a draw of rights may give. -/
def DrawnRights (b m : Nat) (w : World) (e : Ending) (w' : World) : Prop := ∃ k : Int, e = .returned (.int .i64 k) ∧ -1 ≤ k ∧ k ≤ 16 ∧ Rd w' b m ∧ Only b w w'

set_option maxHeartbeats 1000000 in
theorem rights_any (n : Int) (b m : Nat) (w : World) (hm : m ≤ 900000000) (h : Rd w b m) (hn : n ≤ 1000000) :
    Calls Try.prog 81 #[.pointer (some ⟨b, 0, none⟩), .int .i64 n] w (DrawnRights b (m + 4) w) := by
  go_enter Try.func81, Try.ntmps81
  go_wp2_with fail
  refine (odd_any _ _ _ _ (by omega) h hn).mono ?_
  rintro e w1 ⟨k, rfl, h1, ho1⟩
  have hb := h.lt
  cases k
  · go_wp2_with fail
    refine (pick_any _ _ _ _ (by omega) h1).mono ?_
    rintro e w2 ⟨k2, rfl, hk2, hk2', h2, ho2⟩
    go_wp2_with fail
    refine (pick_any _ _ _ _ (by omega) h2).mono ?_
    rintro e w3 ⟨k3, rfl, hk3, hk3', h3, ho3⟩
    go_wp2_with fail
    refine (pick_any _ _ _ _ (by omega) (h3.alloc _)).mono ?_
    rintro e w4 ⟨k4, rfl, hk4, hk4', h4, ho4⟩
    have hb3 := h3.lt
    have c0 := ho4.cell w3.heap.size 0 (by simp) (by omega)
    have c1 := ho4.cell w3.heap.size 1 (by simp) (by omega)
    have c2 := ho4.cell w3.heap.size 2 (by simp) (by omega)
    have hk : k4 = 0 ∨ k4 = 1 ∨ k4 = 2 := by omega
    rcases hk with rfl | rfl | rfl
    all_goals
      go_wp2_with fail
      go_ret
      exact ⟨_, rfl, by omega, by omega, h4.more (by omega), ((ho1.trans ho2).trans ho3).trans ((Only.refl _ _).alloc _ |>.trans ho4)⟩
  · go_wp2_with fail
    refine (pick_any _ _ _ _ (by omega) (h1.alloc _)).mono ?_
    rintro e w2 ⟨k2, rfl, hk2, hk2', h2, ho2⟩
    have hb1 := h1.lt
    have c0 := ho2.cell w1.heap.size 0 (by simp) (by omega)
    have c1 := ho2.cell w1.heap.size 1 (by simp) (by omega)
    have hk : k2 = 0 ∨ k2 = 1 := by omega
    rcases hk with rfl | rfl
    all_goals
      go_wp2_with fail
      go_ret
      exact ⟨_, rfl, by omega, by omega, h2.more (by omega), ho1.trans ((Only.refl _ _).alloc _ |>.trans ho2)⟩

/-- What a draw of one number, of two numbers, of a text may give. -/
def DrawnInt (w : World) (e : Ending) (w' : World) : Prop := ∃ k : Int, e = .returned (.int .i64 k) ∧ Below w.heap.size w w'
def DrawnInts (w : World) (e : Ending) (w' : World) : Prop := ∃ k l : Int, e = .returned (.tuple #[.int .i64 k, .int .i64 l]) ∧ Below w.heap.size w w'
def DrawnText (w : World) (e : Ending) (w' : World) : Prop := ∃ s : ByteArray, e = .returned (.string s) ∧ s.size ≤ 10 ∧ Below w.heap.size w w'

end Go.Proofs.Ytdafogfpbpjmdaa
