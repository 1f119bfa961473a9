/- The draws of rights: whatever the code, a number from -1 to 16, or a text; nothing that lay before has turned. No condition. -/
import Derived.Test.YtabjkjbclpokeaaReader
namespace Go.Proofs.Ytabjkjbclpokeaa
open Go.RowKit
set_option linter.unusedVariables false

theorem Reads.take {w : World} {B n k : Nat} {A : Option Addr} {xs : List Value} (h : Reads w B 1 A n xs) (hk : k ≤ n) : Reads w B 1 A k (xs.take k) := by
  refine ⟨by rw [List.length_take, h.1]; omega, fun h0 => ?_⟩
  obtain ⟨b, o, hA, hb, hc⟩ := h.2 (by omega)
  refine ⟨b, o, hA, hb, fun j u hu => hc j u ?_⟩
  rw [List.getElem?_take] at hu
  split at hu
  · exact hu
  · cases hu

/-- The bytes of a slice lie below block S. -/
def FromB (S : Nat) (v : Value) : Prop := ∃ (A : Option Addr) (n cap : Nat), v = .slice A n cap ∧ (0 < n → ∀ a, A = some a → a.block < S)
theorem BytesIn.from_ {w : World} {v : Value} (h : BytesIn w v) : FromB w.heap.size v := by
  obtain ⟨A, n, cap, bs, rfl, hn, hc, hl, hr, hx⟩ := h
  refine ⟨A, n, cap, rfl, fun h0 a ha => ?_⟩
  obtain ⟨c, o, hA, hb, _⟩ := hx.2 h0
  rw [hA] at ha
  injection ha with ha
  subst ha
  exact hb
/-- A new reader, with the place of its bytes. -/
def OpenedS (S : Nat) (w : World) (e : Ending) (w' : World) : Prop := ∃ b : Nat, e = .returned (.pointer (some ⟨b, 0, none⟩)) ∧ w.heap.size ≤ b ∧ Rd w' b 0 ∧ Below w.heap.size w w' ∧ Src S w' b

set_option maxHeartbeats 1000000 in
theorem open_src (v : Value) (S : Nat) (w : World) (h : BytesIn w v) (hS : FromB S v) : Calls Try.prog 41 #[v] w (OpenedS S w) := by
  obtain ⟨A, n, cap, bs, rfl, hn, hc, hl, hr, hx⟩ := h
  obtain ⟨A', n', cap', he, hs⟩ := hS
  injection he with h1 h2 h3
  subst h1 h2 h3
  by_cases h2 : 2000 < n
  · have h2' : (2000 : Int) < (n : Int) := by omega
    go_enter Try.func41, Try.ntmps41
    go_wp2_with fail
    go_ret
    refine ⟨w.heap.size, rfl, Nat.le_refl _, ⟨A, 2000, cap, bs.take 2000, 0, heap_alloc_new w _, by omega, by omega, by omega, hc, by rw [List.length_take]; omega, fun x hx => hr x (List.mem_of_mem_take hx), ?_⟩, (Below.refl _ _).alloc (Nat.le_refl _) _, ⟨A, 2000, cap, _, heap_alloc_new w _, fun _ => hs (by omega)⟩⟩
    rw [List.map_take]
    exact (hx.take (k := 2000) (by omega)).alloc (Nat.le_refl _) _
  · have h2' : (n : Int) ≤ 2000 := by omega
    go_enter Try.func41, Try.ntmps41
    go_wp2_with fail
    go_ret
    refine ⟨w.heap.size, rfl, Nat.le_refl _, ⟨A, n, cap, bs, 0, heap_alloc_new w _, by omega, by omega, hn, hc, hl, hr, hx.alloc (Nat.le_refl _) _⟩, (Below.refl _ _).alloc (Nat.le_refl _) _, ⟨A, n, cap, _, heap_alloc_new w _, hs⟩⟩
theorem open_any (v : Value) (w : World) (h : BytesIn w v) : Calls Try.prog 41 #[v] w (Opened w) :=
  (open_src v _ w h h.from_).mono fun e w' ⟨b, h1, h2, h3, h4, _⟩ => ⟨b, h1, h2, h3, h4⟩

/-- A number that a draw of rights may give. -/
def DrawnRights (b m : Nat) (w : World) (e : Ending) (w' : World) : Prop := ∃ k : Int, e = .returned (.int .i64 k) ∧ -1 ≤ k ∧ k ≤ 16 ∧ Rd w' b m ∧ Only b w w'

/-- What a draw of one number, of two numbers, of a text may give. -/
def DrawnInt (w : World) (e : Ending) (w' : World) : Prop := ∃ k : Int, e = .returned (.int .i64 k) ∧ Below w.heap.size w w'
def DrawnInts (w : World) (e : Ending) (w' : World) : Prop := ∃ k l : Int, e = .returned (.tuple #[.int .i64 k, .int .i64 l]) ∧ Below w.heap.size w w'
def DrawnText (w : World) (e : Ending) (w' : World) : Prop := ∃ s : ByteArray, e = .returned (.string s) ∧ s.size ≤ 10 ∧ Below w.heap.size w w'

end Go.Proofs.Ytabjkjbclpokeaa
