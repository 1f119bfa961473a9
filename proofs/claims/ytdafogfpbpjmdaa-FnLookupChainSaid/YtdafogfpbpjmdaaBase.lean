/- The words that all texts of this seat use: a slice that reads as a list, a block known whole, how each kind of argument is opened. No condition. -/
import Derived.Test.YtdafogfpbpjmdaaRows
import Derived.WalkKit
import Derived.WalkSpells
import Derived.WalkLawsBesides
import Derived.ProofKit
import Derived.OpenShut
import Derived.ShutString
import Derived.ChangeOld
import Derived.Below
import Derived.Lib.Hide
import Derived.Lib.SmallJoins
import Derived.Deep.Slices
import Derived.Deep.Fields
import Derived.Deep.Draws
import Derived.Deep.QuietTactic
import Derived.Deep.DeepMust
import Derived.Deep.DeepFit
import Derived.BigQuiet
import Derived.ChangeSame
namespace Go.Proofs.Ytdafogfpbpjmdaa
open Go.ChangeShapes Go.WideShapes Go.ChangeAt Go.RowKit Go.Joins Go.Deep
open Go.ChangeMaps (open_string shut_string)

theorem row_own : ownKnob Try.prog.godebug = none := by kernel_rfl
theorem row_laidOut : laidOutB Try.prog = true := by kernel_rfl

theorem block_of_add (a : Addr) (n : Nat) : (a.add n).block = a.block := by unfold Addr.add; split <;> rfl
theorem add_of_add (a : Addr) (i j : Nat) : (a.add i).add j = a.add (i + j) := by
  unfold Addr.add
  by_cases hi : i = 0 <;> by_cases hj : j = 0 <;> simp [hi, hj, Nat.add_assoc]

/-- The slice value '.slice A n _' holds the cells xs ('size' cells an element) and lies below block B. -/
def Reads (w : World) (B size : Nat) (A : Option Addr) (n : Nat) (xs : List Value) : Prop :=
  xs.length = n * size ∧ (0 < n → ∃ b o, A = some ⟨b, o, none⟩ ∧ b < B ∧ ∀ j u, xs[j]? = some u → w.cell? ⟨b, o + j, none⟩ = some u)

theorem bcell {W w1 : World} (hb : Below W.heap.size W w1) : (∀ b o, b < W.heap.size → w1.cell? ⟨b, o, none⟩ = W.cell? ⟨b, o, none⟩) ∧ (∀ b o, b < W.heap.size → w1.frozen? ⟨b, o, none⟩ = W.frozen? ⟨b, o, none⟩) :=
  ⟨fun b o h => hb.cell (p := ⟨b, o, none⟩) h, fun b o h => hb.frozen (p := ⟨b, o, none⟩) h⟩

theorem below_al {w u : World} (h : Below w.heap.size w u) (o : Obj) : Below w.heap.size w (u.alloc o) := h.alloc h.size o
theorem below_set {w u : World} (h : Below w.heap.size w u) {p : Addr} (hp : w.heap.size ≤ p.block) (x : Value) : Below w.heap.size w (u.setCell p x) := h.setCell hp x
theorem below_drew {w u : World} (h : Below w.heap.size w u) : Below w.heap.size w u.drew := h.drew
theorem below_drewN {w u : World} (h : Below w.heap.size w u) (n : Nat) : Below w.heap.size w (u.drewN n) := ⟨h.os, h.tape, h.output, h.size, h.block⟩

theorem ret_int {k : IntKind} {a b : Int} (h : a = b) : Ending.returned (.int k a) = .returned (.int k b) := by rw [h]
theorem ret_bool {a b : Bool} (h : a = b) : Ending.returned (.bool a) = .returned (.bool b) := by rw [h]

section
variable {w w' : World} {B B' size n : Nat} {A : Option Addr} {xs : List Value}
theorem Reads.none_ : Reads w B size A 0 [] := ⟨by simp, fun h => absurd h (by omega)⟩
theorem Reads.keep (h : Reads w B size A n xs) (hk : ∀ p : Addr, p.block < B → w'.cell? p = w.cell? p) : Reads w' B size A n xs :=
  ⟨h.1, fun hn => by
    obtain ⟨b, o, e, hb, hc⟩ := h.2 hn
    exact ⟨b, o, e, hb, fun j u hu => (hk _ hb).trans (hc j u hu)⟩⟩
theorem Reads.more (h : Reads w B size A n xs) (hB : B ≤ B') : Reads w B' size A n xs :=
  ⟨h.1, fun hn => by
    obtain ⟨b, o, e, hb, hc⟩ := h.2 hn
    exact ⟨b, o, e, by omega, hc⟩⟩
theorem Reads.below (h : Reads w B size A n xs) (hb : Below B w w') : Reads w' B size A n xs := h.keep fun _ hp => hb.cell hp
theorem Reads.drew (h : Reads w B size A n xs) : Reads w.drew B size A n xs := h
theorem Reads.drewN (h : Reads w B size A n xs) (k : Nat) : Reads (w.drewN k) B size A n xs := h
theorem Reads.alloc (h : Reads w B size A n xs) (hB : B ≤ w.heap.size) (o : Obj) : Reads (w.alloc o) B size A n xs := h.keep fun p hp => World.cell?_alloc_lt w o p (by omega)
theorem Reads.setCell (h : Reads w B size A n xs) {p : Addr} (hB : B ≤ p.block) (u : Value) : Reads (w.setCell p u) B size A n xs :=
  h.keep fun q hq => World.cell?_setCell_other w p q u (fun e => by subst e; omega)
theorem Reads.grown (h : Reads w B size A n xs) {row : Option Nat} (hg : w.grownBy w' row) (hB : B ≤ w.heap.size) (hr : ∀ g, row = some g → B ≤ g) : Reads w' B size A n xs :=
  h.keep fun p hp => World.cell?_of_block (hg.block p.block (by omega) (fun e => by have := hr _ e.symm; omega))
theorem Reads.of_own {base : Nat} {e : TypeId} {c : Nat} (h : w.ownsRow base e size (.slice A n c) n xs) : Reads w w.heap.size size A n xs := by
  refine ⟨h.1, fun hn => ?_⟩
  rcases h.2 with ⟨hv, h0⟩ | ⟨g, cap, cur, hv, _, hgg, _⟩
  · omega
  have hlt : g < w.heap.size := (Array.getElem?_eq_some_iff.1 hgg).1
  have hA : A = some ⟨g, 0, none⟩ := by injection hv
  subst hA
  refine ⟨g, 0, rfl, hlt, fun j u hu => ?_⟩
  have := h.cells (g := g) rfl j u hu
  rw [show (⟨g, 0 + j, none⟩ : Addr) = (⟨g, 0, none⟩ : Addr).add j from by unfold Addr.add; split <;> simp_all]
  exact this
end

/-! ### How each kind of argument is opened -/

/-- A []byte that came in. -/
def BytesIn (w : World) (v : Value) : Prop :=
  ∃ (A : Option Addr) (n cap : Nat) (bs : List Int), v = .slice A n cap ∧ n ≤ cap ∧ cap ≤ 9223372036854775807 ∧ bs.length = n ∧ (∀ b ∈ bs, 0 ≤ b ∧ b ≤ 255) ∧ Reads w w.heap.size 1 A n (bs.map (Value.int .u8))

theorem BytesIn.below {w w' : World} {v : Value} (h : BytesIn w v) (hb : Below w.heap.size w w') : BytesIn w' v := by
  obtain ⟨A, n, cap, bs, rfl, h1, h2, h3, h4, h5⟩ := h
  exact ⟨A, n, cap, bs, rfl, h1, h2, h3, h4, (h5.below hb).more hb.size⟩

section
variable {H : Type} {enc : TypeId × Value → H} {w : World} {v : Value} {d : DataW H} {p : List MemPlace}

theorem open_bytes (hv : Value.okWide Try.prog w .any 0 53 v) (h : DataW.Trod enc Try.prog w 0 (fun _ => true) true 53 v d p) : BytesIn w v := by
  obtain ⟨A, n, cap, rfl⟩ := okWide_slice Try.underlying53 hv
  obtain ⟨fuel, hf⟩ := h
  rcases open_ints Try.underlying53 Try.underlying5 (by kernel_rfl) hf with ⟨hcs, _⟩ | ⟨x, l, c, zs, hcs, _, hl, hm, hz, _, hcell, hwz⟩
  · simp [Value.cells] at hcs
    obtain ⟨rfl, rfl, rfl⟩ := hcs
    exact ⟨none, 0, 0, [], rfl, Nat.le_refl _, by omega, rfl, by simp, Reads.none_⟩
  · simp [Value.cells] at hcs
    obtain ⟨rfl, rfl, rfl⟩ := hcs
    have hz' : zs.length = cap := by simpa using hz
    refine ⟨some x, n, cap, zs.take n, rfl, hl, by simpa [maxLen] using hm, by rw [List.length_take, hz']; omega, fun b hb => ?_, by rw [List.length_map, List.length_take, hz']; omega, fun hn => ?_⟩
    · exact bounds_u8 (hwz b (List.mem_of_mem_take hb))
    · have hsp : x.spot = none := World.cell?_spot (by simpa [Addr.add] using hcell 0 (by rw [hz']; omega))
      obtain ⟨b, o, sp⟩ := x
      obtain rfl : sp = none := hsp
      have hlt : b < w.heap.size := World.block_lt_of_cell? w ⟨b, o, none⟩ (by simpa [Addr.add] using hcell 0 (by rw [hz']; omega))
      refine ⟨b, o, rfl, hlt, fun j u hu => ?_⟩
      have hj : j < n := by
        have := (List.getElem?_eq_some_iff.1 hu).1
        rw [List.length_map, List.length_take] at this
        omega
      have hc := hcell j (by rw [hz']; omega)
      have he : (⟨b, o, none⟩ : Addr).add j = ⟨b, o + j, none⟩ := by unfold Addr.add; split <;> simp_all
      rw [he] at hc
      rw [hc, ← hu]
      simp [hj, List.getD, List.getElem?_eq_getElem (show j < zs.length by rw [hz']; omega)]
end

end Go.Proofs.Ytdafogfpbpjmdaa
