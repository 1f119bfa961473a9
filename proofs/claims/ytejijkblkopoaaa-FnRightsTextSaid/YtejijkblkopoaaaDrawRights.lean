/- The draws of rights: whatever the code, a number from -1 to 16, or a text; nothing that lay before has turned. No condition. -/
import Derived.Test.YtejijkblkopoaaaReader
namespace Go.Proofs.Ytejijkblkopoaaa
open Go.RowKit
set_option linter.unusedVariables false

theorem Reads.take {w : World} {B n k : Nat} {A : Option Addr} {xs : List Value} (h : Reads w B 1 A n xs) (hk : k ≤ n) : Reads w B 1 A k (xs.take k) := by
  refine ⟨by rw [List.length_take, h.1]; omega, fun h0 => ?_⟩
  obtain ⟨b, o, hA, hb, hc⟩ := h.2 (by omega)
  refine ⟨b, o, hA, hb, fun j u hu => hc j u ?_⟩
  rw [List.getElem?_take] at hu
  split at hu
  · exact hu
  · cases hu

set_option maxHeartbeats 1000000 in
theorem open_any (v : Value) (w : World) (h : BytesIn w v) : Calls Try.prog 36 #[v] w (Opened w) := by
  obtain ⟨A, n, cap, bs, rfl, hn, hc, hl, hr, hx⟩ := h
  by_cases h2 : 2000 < n
  · have h2' : (2000 : Int) < (n : Int) := by omega
    go_enter Try.func36, Try.ntmps36
    go_wp2_with fail
    go_ret
    refine ⟨w.heap.size, rfl, Nat.le_refl _, ⟨A, 2000, cap, bs.take 2000, 0, heap_alloc_new w _, by omega, by omega, by omega, hc, by rw [List.length_take]; omega, fun x hx => hr x (List.mem_of_mem_take hx), ?_⟩, (Below.refl _ _).alloc (Nat.le_refl _) _⟩
    rw [List.map_take]
    exact (hx.take (k := 2000) (by omega)).alloc (Nat.le_refl _) _
  · have h2' : (n : Int) ≤ 2000 := by omega
    go_enter Try.func36, Try.ntmps36
    go_wp2_with fail
    go_ret
    refine ⟨w.heap.size, rfl, Nat.le_refl _, ⟨A, n, cap, bs, 0, heap_alloc_new w _, by omega, by omega, hn, hc, hl, hr, hx.alloc (Nat.le_refl _) _⟩, (Below.refl _ _).alloc (Nat.le_refl _) _⟩

/-- A number that a draw of rights may give. -/
def DrawnRights (b m : Nat) (w : World) (e : Ending) (w' : World) : Prop := ∃ k : Int, e = .returned (.int .i64 k) ∧ -1 ≤ k ∧ k ≤ 16 ∧ Rd w' b m ∧ Only b w w'

set_option maxHeartbeats 1000000 in
theorem rights_any (n : Int) (b m : Nat) (w : World) (hm : m ≤ 900000000) (h : Rd w b m) (hn : n ≤ 1000000) :
    Calls Try.prog 35 #[.pointer (some ⟨b, 0, none⟩), .int .i64 n] w (DrawnRights b (m + 4) w) := by
  go_enter Try.func35, Try.ntmps35
  go_wp2_with fail
  refine (odd_any _ _ _ _ (by omega) h hn).mono ?_
  rintro e w1 ⟨k, rfl, h1, ho1⟩
  have hb := h.lt
  cases k
  · go_wp2_with fail
    refine (pick_any _ _ _ _ (by omega) h1).mono ?_
    rintro e w2 ⟨k2, rfl, hk2, hk2', h2, ho2⟩
    go_wp2_with fail
    refine (pick_any _ _ _ _ (by omega) h2).mono ?_
    rintro e w3 ⟨k3, rfl, hk3, hk3', h3, ho3⟩
    go_wp2_with fail
    refine (pick_any _ _ _ _ (by omega) (h3.alloc _)).mono ?_
    rintro e w4 ⟨k4, rfl, hk4, hk4', h4, ho4⟩
    have hb3 := h3.lt
    have c0 := ho4.cell w3.heap.size 0 (by simp) (by omega)
    have c1 := ho4.cell w3.heap.size 1 (by simp) (by omega)
    have c2 := ho4.cell w3.heap.size 2 (by simp) (by omega)
    have hk : k4 = 0 ∨ k4 = 1 ∨ k4 = 2 := by omega
    rcases hk with rfl | rfl | rfl
    all_goals
      go_wp2_with fail
      go_ret
      exact ⟨_, rfl, by omega, by omega, h4.more (by omega), ((ho1.trans ho2).trans ho3).trans ((Only.refl _ _).alloc _ |>.trans ho4)⟩
  · go_wp2_with fail
    refine (pick_any _ _ _ _ (by omega) (h1.alloc _)).mono ?_
    rintro e w2 ⟨k2, rfl, hk2, hk2', h2, ho2⟩
    have hb1 := h1.lt
    have c0 := ho2.cell w1.heap.size 0 (by simp) (by omega)
    have c1 := ho2.cell w1.heap.size 1 (by simp) (by omega)
    have hk : k2 = 0 ∨ k2 = 1 := by omega
    rcases hk with rfl | rfl
    all_goals
      go_wp2_with fail
      go_ret
      exact ⟨_, rfl, by omega, by omega, h2.more (by omega), ho1.trans ((Only.refl _ _).alloc _ |>.trans ho2)⟩

/-- What a draw of one number, of two numbers, of a text may give. -/
def DrawnInt (w : World) (e : Ending) (w' : World) : Prop := ∃ k : Int, e = .returned (.int .i64 k) ∧ Below w.heap.size w w'
def DrawnInts (w : World) (e : Ending) (w' : World) : Prop := ∃ k l : Int, e = .returned (.tuple #[.int .i64 k, .int .i64 l]) ∧ Below w.heap.size w w'
def DrawnText (w : World) (e : Ending) (w' : World) : Prop := ∃ s : ByteArray, e = .returned (.string s) ∧ s.size ≤ 10 ∧ Below w.heap.size w w'

set_option maxHeartbeats 1000000 in
theorem drawRightsValid (v : Value) (w : World) (h : BytesIn w v) : Calls Try.prog 25 #[v] w (DrawnInt w) := by
  go_enter Try.func25, Try.ntmps25
  go_wp2_with fail
  refine (open_any _ _ h).mono ?_
  rintro e w1 ⟨b, rfl, hb, h1, hb1⟩
  go_wp2_with fail
  refine (rights_any _ _ _ _ (by omega) h1 (by omega)).mono ?_
  rintro e w2 ⟨k, rfl, _, _, h2, ho⟩
  go_wp2_with fail
  go_ret
  exact ⟨_, rfl, ho.to_below hb1 hb⟩

set_option maxHeartbeats 1000000 in
theorem drawRightsText (v : Value) (w : World) (h : BytesIn w v) : Calls Try.prog 29 #[v] w (DrawnInt w) := by
  go_enter Try.func29, Try.ntmps29
  go_wp2_with fail
  refine (open_any _ _ h).mono ?_
  rintro e w1 ⟨b, rfl, hb, h1, hb1⟩
  go_wp2_with fail
  refine (rights_any _ _ _ _ (by omega) h1 (by omega)).mono ?_
  rintro e w2 ⟨k, rfl, _, _, h2, ho⟩
  go_wp2_with fail
  go_ret
  exact ⟨_, rfl, ho.to_below hb1 hb⟩

set_option maxHeartbeats 1000000 in
theorem drawRightsMeet (v : Value) (w : World) (h : BytesIn w v) : Calls Try.prog 27 #[v] w (DrawnInts w) := by
  go_enter Try.func27, Try.ntmps27
  go_wp2_with fail
  refine (open_any _ _ h).mono ?_
  rintro e w1 ⟨b, rfl, hb, h1, hb1⟩
  go_wp2_with fail
  refine (rights_any _ _ _ _ (by omega) h1 (by omega)).mono ?_
  rintro e w2 ⟨k, rfl, _, _, h2, ho⟩
  go_wp2_with fail
  refine (rights_any _ _ _ _ (by omega) h2 (by omega)).mono ?_
  rintro e w3 ⟨k3, rfl, _, _, h3, ho3⟩
  go_wp2_with fail
  go_ret2
  exact ⟨_, _, rfl, (ho.trans ho3).to_below hb1 hb⟩

set_option maxHeartbeats 1000000 in
theorem drawRightsWithin (v : Value) (w : World) (h : BytesIn w v) : Calls Try.prog 28 #[v] w (DrawnInts w) := by
  go_enter Try.func28, Try.ntmps28
  go_wp2_with fail
  refine (open_any _ _ h).mono ?_
  rintro e w1 ⟨b, rfl, hb, h1, hb1⟩
  go_wp2_with fail
  refine (rights_any _ _ _ _ (by omega) h1 (by omega)).mono ?_
  rintro e w2 ⟨k, rfl, _, _, h2, ho⟩
  go_wp2_with fail
  refine (rights_any _ _ _ _ (by omega) h2 (by omega)).mono ?_
  rintro e w3 ⟨k3, rfl, _, _, h3, ho3⟩
  go_wp2_with fail
  refine (pick_any _ _ _ _ (by omega) h3).mono ?_
  rintro e w4 ⟨k4, rfl, hk4, hk4', h4, ho4⟩
  have fin : Below w.heap.size w w4 := ((ho.trans ho3).trans ho4).to_below hb1 hb
  clear h1 h2 h3 h4 ho ho3 ho4 hb1 hb
  cases hk : (k4 == 0) <;> cases ha : rValid k <;> cases hc : rValid k3
  all_goals
    go_wp2_with (go_at_call 15; refine (spec_RightsValid _ _).mono ?_; rintro e w' ⟨rfl, rfl⟩)
    go_ret2
    exact ⟨_, _, rfl, fin⟩

end Go.Proofs.Ytejijkblkopoaaa
