/- The reader of a code: pick gives a number below its bound, odd a bool, l20Open lays the reader; only the reader's own block is written. No condition on the code. -/
import Derived.Test.YtdafogfpbpjmdaaRights
import Derived.Laws.BitsAllLaws
import Derived.Laws.BitsLemmas
namespace Go.Proofs.Ytdafogfpbpjmdaa
open Go.RowKit
set_option linter.unusedVariables false

/-- Block b is a reader that stands at most at m: its bytes lie below block b. -/
def Rd (w : World) (b m : Nat) : Prop :=
  ∃ (A : Option Addr) (len cap : Nat) (bs : List Int) (p : Int), w.heap[b]? = some (.cells #[.slice A len cap, .int .i64 p] 89 (0, 0)) ∧ 0 ≤ p ∧ p ≤ m ∧
    len ≤ cap ∧ cap ≤ 9223372036854775807 ∧ bs.length = len ∧ (∀ x ∈ bs, 0 ≤ x ∧ x ≤ 255) ∧ Reads w b 1 A len (bs.map (Value.int .u8))

theorem Rd.lt {w : World} {b m : Nat} (h : Rd w b m) : b < w.heap.size := by
  obtain ⟨A, len, cap, bs, p, hh, _⟩ := h
  exact (Array.getElem?_eq_some_iff.1 hh).1

theorem Rd.more {w : World} {b m m' : Nat} (h : Rd w b m) (hm : m ≤ m') : Rd w b m' := by
  obtain ⟨A, len, cap, bs, p, h1, h2, h3, h4⟩ := h
  exact ⟨A, len, cap, bs, p, h1, h2, by omega, h4⟩

/-- The reader stays while its own block and those below it stay. -/
theorem Rd.keep {w w' : World} {b m : Nat} (h : Rd w b m) (hb : ∀ k, k ≤ b → w'.heap[k]? = w.heap[k]?) : Rd w' b m := by
  obtain ⟨A, len, cap, bs, p, h1, h2, h3, h4, h5, h6, h7, h8⟩ := h
  exact ⟨A, len, cap, bs, p, (hb b (Nat.le_refl _)).trans h1, h2, h3, h4, h5, h6, h7, h8.keep fun q hq => World.cell?_of_block (hb q.block (by omega))⟩
theorem Rd.below {w w' : World} {b m : Nat} (h : Rd w b m) (hb : Below w.heap.size w w') : Rd w' b m := h.keep fun k hk => hb.block k (by have := h.lt; omega)
theorem Rd.alloc {w : World} {b m : Nat} (h : Rd w b m) (o : Obj) : Rd (w.alloc o) b m := h.below ((Below.refl _ _).alloc (Nat.le_refl _) o)
theorem Rd.drewN {w : World} {b m : Nat} (h : Rd w b m) (q : Nat) : Rd (w.drewN q) b m := h
theorem Rd.drew {w : World} {b m : Nat} (h : Rd w b m) : Rd w.drew b m := h

/-- Only block b, and what is new, may have turned; a reader in block b keeps its bytes. -/
structure Only (b : Nat) (w w' : World) : Prop where
  grown : w.grownBy w' (some b)
  src : ∀ s x, w.heap[b]? = some (.cells #[s, x] 89 (0, 0)) → ∃ x', w'.heap[b]? = some (.cells #[s, x'] 89 (0, 0))
theorem Only.os {b : Nat} {u v : World} (h : Only b u v) : v.os = u.os := h.grown.os
theorem Only.tape {b : Nat} {u v : World} (h : Only b u v) : v.tape = u.tape := h.grown.tape
theorem Only.output {b : Nat} {u v : World} (h : Only b u v) : v.output = u.output := h.grown.output
theorem Only.size {b : Nat} {u v : World} (h : Only b u v) : u.heap.size ≤ v.heap.size := h.grown.size
theorem Only.block {b : Nat} {u v : World} (h : Only b u v) : ∀ i, i < u.heap.size → some i ≠ some b → v.heap[i]? = u.heap[i]? := h.grown.block
theorem Only.refl (b : Nat) (w : World) : Only b w w := ⟨⟨rfl, rfl, rfl, Nat.le_refl _, fun _ _ _ => rfl⟩, fun _ x h => ⟨x, h⟩⟩
theorem Only.trans {b : Nat} {u v w : World} (h : Only b u v) (k : Only b v w) : Only b u w :=
  ⟨⟨k.os.trans h.os, k.tape.trans h.tape, k.output.trans h.output, Nat.le_trans h.size k.size, fun i hi hn => (k.block i (Nat.lt_of_lt_of_le hi h.size) hn).trans (h.block i hi hn)⟩,
    fun s x hs => by obtain ⟨x', h'⟩ := h.src s x hs; exact k.src s x' h'⟩
theorem Only.of_below {b : Nat} {u v : World} (h : Below u.heap.size u v) : Only b u v :=
  ⟨⟨h.os, h.tape, h.output, h.size, fun i hi _ => h.block i hi⟩, fun s x hs => ⟨x, (h.block b (Array.getElem?_eq_some_iff.1 hs).1).trans hs⟩⟩
theorem Only.alloc {b : Nat} {u v : World} (h : Only b u v) (o : Obj) : Only b u (v.alloc o) := h.trans (.of_below ((Below.refl _ _).alloc (Nat.le_refl _) o))
theorem Only.drewN {b : Nat} {u v : World} (h : Only b u v) (q : Nat) : Only b u (v.drewN q) := ⟨⟨h.os, h.tape, h.output, h.size, h.block⟩, h.src⟩
theorem Only.drew {b : Nat} {u v : World} (h : Only b u v) : Only b u v.drew := ⟨⟨h.os, h.tape, h.output, h.size, h.block⟩, h.src⟩
theorem Only.lt {b : Nat} {u v : World} (h : Only b u v) (hb : b < u.heap.size) : b < v.heap.size := Nat.lt_of_lt_of_le hb h.size
/-- Blocks that lay already, other than the reader's, read as before. -/
theorem Only.cell {b : Nat} {u v : World} (h : Only b u v) : ∀ k o, k < u.heap.size → k ≠ b → v.cell? ⟨k, o, none⟩ = u.cell? ⟨k, o, none⟩ :=
  fun k o hk hn => World.cell?_of_block (h.block k hk (fun e => hn (by injection e)))
theorem Only.frozen {b : Nat} {u v : World} (h : Only b u v) : ∀ k o, k < u.heap.size → k ≠ b → v.frozen? ⟨k, o, none⟩ = u.frozen? ⟨k, o, none⟩ :=
  fun k o hk hn => World.frozen?_of_block (h.block k hk (fun e => hn (by injection e)))
/-- A reader that the call made itself: what lay before the call has not turned. -/
theorem Only.to_below {b : Nat} {s u v : World} (h : Only b u v) (hs : Below s.heap.size s u) (hb : s.heap.size ≤ b) : Below s.heap.size s v :=
  hs.trans ⟨h.os, h.tape, h.output, h.size, fun k hk => h.block k (by have := hs.size; omega) (fun e => by injection e; omega)⟩
theorem Only.setCell {b : Nat} {u v : World} (h : Only b u v) (x : Value) : Only b u (v.setCell ⟨b, 1, none⟩ x) :=
  ⟨⟨h.os, h.tape, h.output, by simpa [World.setCell] using h.size, fun i hi hn => (Below.heap_setCell v ⟨b, 1, none⟩ x i (fun e => hn (by rw [e]))).trans (h.block i hi hn)⟩,
    fun s y hs => by obtain ⟨y', h'⟩ := h.src s y hs; exact ⟨x, by simp [World.setCell, Array.getElem?_modify, h']⟩⟩
theorem Only.setNew {b c i : Nat} {u v : World} (h : Only b u v) (hp : u.heap.size ≤ c) (x : Value) : Only b u (v.setCell ⟨c, i, none⟩ x) :=
  ⟨⟨h.os, h.tape, h.output, by simpa [World.setCell] using h.size, fun k hk hn => (Below.heap_setCell v ⟨c, i, none⟩ x k (by show k ≠ c; omega)).trans (h.block k hk hn)⟩,
    fun s y hs => by
      have hb := (Array.getElem?_eq_some_iff.1 hs).1
      obtain ⟨y', h'⟩ := h.src s y hs
      exact ⟨y', (Below.heap_setCell v ⟨c, i, none⟩ x b (by show b ≠ c; omega)).trans h'⟩⟩

/-- The bytes of the reader in block b lie below block S. -/
def Src (S : Nat) (w : World) (b : Nat) : Prop := ∃ (A : Option Addr) (len cap : Nat) (x : Value), w.heap[b]? = some (.cells #[.slice A len cap, x] 89 (0, 0)) ∧ (0 < len → ∀ a, A = some a → a.block < S)
theorem Src.only {S b : Nat} {w w' : World} (h : Src S w b) (ho : Only b w w') : Src S w' b := by
  obtain ⟨A, len, cap, x, h1, h2⟩ := h
  obtain ⟨x', h'⟩ := ho.src _ _ h1
  exact ⟨A, len, cap, x', h', h2⟩
theorem Src.setOther {S b c i : Nat} {w : World} (h : Src S w b) (hc : b ≠ c) (y : Value) : Src S (w.setCell ⟨c, i, none⟩ y) b := by
  obtain ⟨A, len, cap, x, h1, h2⟩ := h
  exact ⟨A, len, cap, x, (Below.heap_setCell w ⟨c, i, none⟩ y b hc).trans h1, h2⟩
/-- A block that holds neither the reader nor its bytes may turn. -/
theorem Rd.setFar {S b c i m : Nat} {w : World} (h : Rd w b m) (hs : Src S w b) (hS : S ≤ c) (hc : b ≠ c) (y : Value) : Rd (w.setCell ⟨c, i, none⟩ y) b m := by
  obtain ⟨A, len, cap, bs, p, h1, h2, h3, h4, h5, h6, h7, h8⟩ := h
  obtain ⟨A', len', cap', x', h1', h2'⟩ := hs
  rw [h1] at h1'
  injection h1' with h1'
  injection h1' with h1'
  simp only [Array.mk.injEq, List.cons.injEq, Value.slice.injEq] at h1'
  obtain ⟨⟨rfl, rfl, rfl⟩, _⟩ := h1'
  refine ⟨A, len, cap, bs, p, (Below.heap_setCell w ⟨c, i, none⟩ y b hc).trans h1, h2, h3, h4, h5, h6, h7, h8.1, fun h0 => ?_⟩
  obtain ⟨k, o, hA, hk, hr⟩ := h8.2 h0
  have hk' := h2' h0 _ hA
  exact ⟨k, o, hA, hk, fun j u hu => (World.cell?_of_block (Below.heap_setCell w ⟨c, i, none⟩ y k (by show k ≠ c; simp at hk'; omega))).trans (hr j u hu)⟩

/-- The reader's step: its place goes on by one. -/
theorem Rd.step {w : World} {b len cap : Nat} {A : Option Addr} {bs : List Int} {p : Int} {m : Nat} (h : w.heap[b]? = some (.cells #[.slice A len cap, .int .i64 p] 89 (0, 0))) (h2 : 0 ≤ p) (h3 : p ≤ m)
    (h4 : len ≤ cap) (h5 : cap ≤ 9223372036854775807) (h6 : bs.length = len) (h7 : ∀ x ∈ bs, 0 ≤ x ∧ x ≤ 255) (h8 : Reads w b 1 A len (bs.map (Value.int .u8))) :
    Rd (w.setCell ⟨b, 1, none⟩ (.int .i64 (p + 1))) b (m + 1) := by
  refine ⟨A, len, cap, bs, p + 1, ?_, by omega, by omega, h4, h5, h6, h7, h8.setCell (Nat.le_refl _) _⟩
  simp [World.setCell, Array.getElem?_modify, h]

theorem ofInt_i64 (a : Nat) (ha : a < 9223372036854775808) : (BitVec.ofInt 64 (a : Int)).toNat = a := by
  rw [BitVec.ofInt_natCast, BitVec.toNat_ofNat]; exact Nat.mod_eq_of_lt (by omega)
theorem i64_xor_nat (a b : Nat) (ha : a < 9223372036854775808) (hb : b < 9223372036854775808) : bits .xor .i64 (a : Int) (b : Int) = ((a ^^^ b : Nat) : Int) := by
  have hx : a ^^^ b < 2 ^ 63 := Nat.xor_lt_two_pow (by omega) (by omega)
  show IntKind.i64.wrap ((BitVec.ofInt 64 (a : Int) ^^^ BitVec.ofInt 64 (b : Int)).toNat : Int) = _
  rw [BitVec.toNat_xor, ofInt_i64 a ha, ofInt_i64 b hb, IntKind.wrap_i64]
  omega
theorem xor_nonneg (a b : Int) (ha : 0 ≤ a) (ha2 : a < 9223372036854775808) (hb : 0 ≤ b) (hb2 : b < 9223372036854775808) : 0 ≤ bits .xor .i64 a b := by
  obtain ⟨x, rfl⟩ := Int.eq_ofNat_of_zero_le ha
  obtain ⟨y, rfl⟩ := Int.eq_ofNat_of_zero_le hb
  rw [i64_xor_nat x y (by omega) (by omega)]
  omega

/-- A number that pick may give. -/
def Picked (n : Int) (b m : Nat) (w : World) (e : Ending) (w' : World) : Prop := ∃ k : Int, e = .returned (.int .i64 k) ∧ 0 ≤ k ∧ (1 ≤ n → k < n) ∧ Rd w' b m ∧ Only b w w'

set_option maxHeartbeats 1000000 in
theorem pick_last (b c o len cap : Nat) (p n x1 x2 : Int) (w : World) (hp : 0 ≤ p) (hp2 : p ≤ 1000000000) (hn : 1 ≤ n) (hl : 0 < len) (hl2 : (len : Int) ≤ p) (hlc : len ≤ cap) (hcap : cap ≤ 9223372036854775807)
   (h0 : w.cell? ⟨b, 0, none⟩ = some (.slice (some ⟨c, o, none⟩) len cap)) (h1 : w.cell? ⟨b, 1, none⟩ = some (.int .i64 p)) (hf : w.frozen? ⟨b, 1, none⟩ = false) (hcb : c ≠ b)
    (hx1 : w.cell? ⟨c, o + (p % len).toNat, none⟩ = some (.int .u8 x1)) (hx1r : 0 ≤ x1 ∧ x1 ≤ 255) (hx2 : w.cell? ⟨c, o + ((p * 7 + 3) % len).toNat, none⟩ = some (.int .u8 x2)) (hx2r : 0 ≤ x2 ∧ x2 ≤ 255) :
    Calls Try.prog 66 #[.pointer (some ⟨b, 0, none⟩), .int .i64 n] w fun e w' => ∃ k : Int, e = .returned (.int .i64 k) ∧ 0 ≤ k ∧ k < n ∧ ∃ q, w' = (w.setCell ⟨b, 1, none⟩ (.int .i64 (p + 1))).drewN q := by
  have hlz : ((len : Int) == 0) = false := by simp; omega
  have hn1 : ¬ n < 1 := by omega
  have hpl : ¬ p < (len : Int) := by omega
  have m1 : 0 ≤ p % (len : Int) := Int.emod_nonneg _ (by omega)
  have m2 : p % (len : Int) < len := Int.emod_lt_of_pos _ (by omega)
  have m3 : 0 ≤ (p * 7 + 3) % (len : Int) := Int.emod_nonneg _ (by omega)
  have m4 : (p * 7 + 3) % (len : Int) < len := Int.emod_lt_of_pos _ (by omega)
  have m5 : 0 ≤ p / (len : Int) := Int.ediv_nonneg hp (by omega)
  have m6 : p / (len : Int) ≤ p := Int.ediv_le_self _ hp
  go_enter Try.func66, Try.ntmps66
  go_wp2_with fail
  go_quiet (fail)
  go_wp2_with fail
  go_ret
  have hx := xor_nonneg (x1 * 131 + x2 * 1117 + p * 29 + p / (len : Int) * 53) ((x1 * 131 + x2 * 1117 + p * 29 + p / (len : Int) * 53) / 64) (by omega) (by omega) (by omega) (by omega)
  refine ⟨_, rfl, Int.tmod_nonneg _ hx, ?_, nq, rfl⟩
  rw [Int.tmod_eq_emod_of_nonneg hx]
  exact Int.emod_lt_of_pos _ (by omega)

set_option maxHeartbeats 1000000 in
theorem pick_byte (b c o len cap : Nat) (p n x1 : Int) (w : World) (hp : 0 ≤ p) (hp2 : p ≤ 1000000000) (hn : 1 ≤ n) (hl2 : p < len) (hlc : len ≤ cap) (hcap : cap ≤ 9223372036854775807)
   (h0 : w.cell? ⟨b, 0, none⟩ = some (.slice (some ⟨c, o, none⟩) len cap)) (h1 : w.cell? ⟨b, 1, none⟩ = some (.int .i64 p)) (hf : w.frozen? ⟨b, 1, none⟩ = false) (hcb : c ≠ b)
    (hx1 : w.cell? ⟨c, o + p.toNat, none⟩ = some (.int .u8 x1)) (hx1r : 0 ≤ x1 ∧ x1 ≤ 255) :
    Calls Try.prog 66 #[.pointer (some ⟨b, 0, none⟩), .int .i64 n] w fun e w' => ∃ k : Int, e = .returned (.int .i64 k) ∧ 0 ≤ k ∧ k < n ∧ ∃ q, w' = (w.setCell ⟨b, 1, none⟩ (.int .i64 (p + 1))).drewN q := by
  have hlz : ((len : Int) == 0) = false := by simp; omega
  have hn1 : ¬ n < 1 := by omega
  go_enter Try.func66, Try.ntmps66
  go_wp2_with fail
  go_ret
  exact ⟨_, rfl, Int.emod_nonneg _ (by omega), Int.emod_lt_of_pos _ (by omega), 0, rfl⟩

set_option maxHeartbeats 1000000 in
theorem pick_none (b len cap : Nat) (A : Option Addr) (p n : Int) (w : World) (hp : 0 ≤ p) (hp2 : p ≤ 1000000000) (hn : n < 1 ∨ len = 0)
   (h0 : w.cell? ⟨b, 0, none⟩ = some (.slice A len cap)) (h1 : w.cell? ⟨b, 1, none⟩ = some (.int .i64 p)) (hf : w.frozen? ⟨b, 1, none⟩ = false) :
    Calls Try.prog 66 #[.pointer (some ⟨b, 0, none⟩), .int .i64 n] w fun e w' => ∃ k : Int, e = .returned (.int .i64 k) ∧ 0 ≤ k ∧ (1 ≤ n → k < n) ∧ ∃ q, w' = (w.setCell ⟨b, 1, none⟩ (.int .i64 (p + 1))).drewN q := by
  by_cases hn1 : n < 1
  · go_enter Try.func66, Try.ntmps66
    go_wp2_with fail
    go_ret
    exact ⟨0, rfl, by omega, by omega, 0, rfl⟩
  · have hl : len = 0 := by omega
    subst hl
    clear hn
    go_enter Try.func66, Try.ntmps66
    go_wp2_with fail
    go_ret
    exact ⟨0, rfl, by omega, by omega, 0, rfl⟩

theorem pick_any (n : Int) (b m : Nat) (w : World) (hm : m ≤ 1000000000) (h : Rd w b m) :
    Calls Try.prog 66 #[.pointer (some ⟨b, 0, none⟩), .int .i64 n] w (Picked n b (m + 1) w) := by
  obtain ⟨A, len, cap, bs, p, hh, hp, hpm, hlc, hcap, hbs, hbr, hr⟩ := h
  have h0 : w.cell? ⟨b, 0, none⟩ = some (.slice A len cap) := by simp [World.cell?, hh]
  have h1 : w.cell? ⟨b, 1, none⟩ = some (.int .i64 p) := by simp [World.cell?, hh]
  have hf : w.frozen? ⟨b, 1, none⟩ = false := by simp [World.frozen?, hh]
  have fin : ∀ (e : Ending) (w' : World), (∃ k : Int, e = .returned (.int .i64 k) ∧ 0 ≤ k ∧ (1 ≤ n → k < n) ∧ ∃ q, w' = (w.setCell ⟨b, 1, none⟩ (.int .i64 (p + 1))).drewN q) → Picked n b (m + 1) w e w' := by
    rintro e w' ⟨k, rfl, hk, hkn, q, rfl⟩
    exact ⟨k, rfl, hk, hkn, (Rd.step hh hp hpm hlc hcap hbs hbr hr).drewN q, ((Only.refl b w).setCell _).drewN q⟩
  by_cases hc : n < 1 ∨ len = 0
  · exact (pick_none b len cap A p n w hp (by omega) hc h0 h1 hf).mono fin
  · obtain ⟨c, o, rfl, hcb, hcell⟩ := hr.2 (by omega)
    have at_ : ∀ i, i < len → ∃ x, w.cell? ⟨c, o + i, none⟩ = some (.int .u8 x) ∧ 0 ≤ x ∧ x ≤ 255 := fun i hi =>
      ⟨bs[i]'(by omega), hcell i _ (by simp [List.getElem?_eq_getElem (show i < bs.length by omega)]), hbr _ (List.getElem_mem _)⟩
    by_cases hl : p < len
    · obtain ⟨x, hx, hxr⟩ := at_ p.toNat (by omega)
      exact (pick_byte b c o len cap p n x w hp (by omega) (by omega) hl hlc hcap h0 h1 hf (by omega) hx hxr).mono fun e w' ⟨k, he, hk, hkn, hq⟩ => fin e w' ⟨k, he, hk, fun _ => hkn, hq⟩
    · have m1 : 0 ≤ p % (len : Int) := Int.emod_nonneg _ (by omega)
      have m2 : p % (len : Int) < len := Int.emod_lt_of_pos _ (by omega)
      have m3 : 0 ≤ (p * 7 + 3) % (len : Int) := Int.emod_nonneg _ (by omega)
      have m4 : (p * 7 + 3) % (len : Int) < len := Int.emod_lt_of_pos _ (by omega)
      obtain ⟨x, hx, hxr⟩ := at_ (p % (len : Int)).toNat (by omega)
      obtain ⟨y, hy, hyr⟩ := at_ ((p * 7 + 3) % (len : Int)).toNat (by omega)
      exact (pick_last b c o len cap p n x y w hp (by omega) (by omega) (by omega) (by omega) hlc hcap h0 h1 hf (by omega) hx hxr hy hyr).mono fun e w' ⟨k, he, hk, hkn, hq⟩ => fin e w' ⟨k, he, hk, fun _ => hkn, hq⟩

/-- A bool that odd may give. -/
def Odd (b m : Nat) (w : World) (e : Ending) (w' : World) : Prop := ∃ k : Bool, e = .returned (.bool k) ∧ Rd w' b m ∧ Only b w w'

set_option maxHeartbeats 400000 in
theorem odd_any (n : Int) (b m : Nat) (w : World) (hm : m ≤ 1000000000) (h : Rd w b m) (hn : n ≤ 1000000) :
    Calls Try.prog 67 #[.pointer (some ⟨b, 0, none⟩), .int .i64 n] w (Odd b (m + 1) w) := by
  by_cases h0 : 0 < n
  · go_enter Try.func67, Try.ntmps67
    go_wp2_with fail
    refine (pick_any _ _ _ _ hm h).mono ?_
    rintro e w1 ⟨k, rfl, _, _, hr, ho⟩
    go_wp2_with fail
    go_ret
    exact ⟨_, rfl, hr, ho⟩
  · go_enter Try.func67, Try.ntmps67
    go_wp2_with fail
    go_ret
    exact ⟨_, rfl, h.more (by omega), Only.refl _ _⟩

/-- A new reader in block b, one of the call's own. -/
def Opened (w : World) (e : Ending) (w' : World) : Prop := ∃ b : Nat, e = .returned (.pointer (some ⟨b, 0, none⟩)) ∧ w.heap.size ≤ b ∧ Rd w' b 0 ∧ Below w.heap.size w w'

end Go.Proofs.Ytdafogfpbpjmdaa
