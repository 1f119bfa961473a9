/- A list of entries that stays while what is new grows; its cells at one and at two places. No condition beyond those written. -/
import Derived.Test.YtpglfbjjmnaojaaEntE
import Derived.Test.YtpglfbjjmnaojaaInts
namespace Go.Proofs.Ytpglfbjjmnaojaa
open Go.RowKit
set_option linter.unusedVariables false

/-- The list stays, and what lay below B is as it was. -/
def EntK (B : Nat) (w0 : World) (A : Option Addr) (n c b1 : Nat) (es : List Ent) (w : World) : Prop := EntO w b1 A n c es ∧ Below B w0 w ∧ B ≤ w.heap.size
section
variable {B n c b1 : Nat} {w0 w w1 : World} {A : Option Addr} {es : List Ent} {R : Prop}
theorem EntK.drew (h : EntK B w0 A n c b1 es w) : EntK B w0 A n c b1 es w.drew := ⟨h.1, h.2.1.drew, h.2.2⟩
theorem EntK.drewN (h : EntK B w0 A n c b1 es w) (q : Nat) : EntK B w0 A n c b1 es (w.drewN q) := ⟨h.1, below_drewN' h.2.1 q, h.2.2⟩
theorem EntK.step (hb : Below w.heap.size w w1) (h : EntK B w0 A n c b1 es w ∧ R) : EntK B w0 A n c b1 es w1 :=
  ⟨h.1.1.below hb, h.1.2.1.trans (hb.mono h.1.2.2), Nat.le_trans h.1.2.2 hb.size⟩
theorem EntK.alloc (h : EntK B w0 A n c b1 es w) (o : Obj) : EntK B w0 A n c b1 es (w.alloc o) := EntK.step (below_al (Below.refl _ _) o) ⟨h, trivial⟩
/-- The cells of entry j. -/
theorem EntK.cells {g : Nat} (h : EntK B w0 (some ⟨g, 0, none⟩) n c b1 es w) {j : Nat} {k o r b p : Int} {q : Bool} (hj : j < n) (he : es.getD j E0 = ⟨k, o, r, b, p, q⟩) :
    w.cell? ⟨g, j * 6, none⟩ = some (.int .i64 k) ∧ w.cell? ⟨g, j * 6 + 1, none⟩ = some (.int .i64 o) ∧ w.cell? ⟨g, j * 6 + 2, none⟩ = some (.int .i64 r) ∧ w.cell? ⟨g, j * 6 + 3, none⟩ = some (.int .i64 b) ∧ w.cell? ⟨g, j * 6 + 4, none⟩ = some (.int .i64 p) ∧ w.cell? ⟨g, j * 6 + 5, none⟩ = some (.bool q) := by
  obtain ⟨x, hx, -, -, h1, -⟩ := h.1.at_ (by omega)
  injection hx with hx
  injection hx with hx
  subst hx
  have h1 := h1 j hj
  rw [he] at h1
  exact h1
theorem EntK.cells2 {g : Nat} (h : EntK B w0 (some ⟨g, 0, none⟩) n c b1 es w) {j i : Nat} {k o r b p k' o' r' b' p' : Int} {q q' : Bool} (hj : j < n) (he : es.getD j E0 = ⟨k, o, r, b, p, q⟩) (hi : i < n) (he' : es.getD i E0 = ⟨k', o', r', b', p', q'⟩) :
    EntK B w0 (some ⟨g, 0, none⟩) n c b1 es w ∧
    w.cell? ⟨g, j * 6, none⟩ = some (.int .i64 k) ∧ w.cell? ⟨g, j * 6 + 1, none⟩ = some (.int .i64 o) ∧ w.cell? ⟨g, j * 6 + 2, none⟩ = some (.int .i64 r) ∧ w.cell? ⟨g, j * 6 + 3, none⟩ = some (.int .i64 b) ∧ w.cell? ⟨g, j * 6 + 4, none⟩ = some (.int .i64 p) ∧ w.cell? ⟨g, j * 6 + 5, none⟩ = some (.bool q) ∧
    w.cell? ⟨g, i * 6, none⟩ = some (.int .i64 k') ∧ w.cell? ⟨g, i * 6 + 1, none⟩ = some (.int .i64 o') ∧ w.cell? ⟨g, i * 6 + 2, none⟩ = some (.int .i64 r') ∧ w.cell? ⟨g, i * 6 + 3, none⟩ = some (.int .i64 b') ∧ w.cell? ⟨g, i * 6 + 4, none⟩ = some (.int .i64 p') ∧ w.cell? ⟨g, i * 6 + 5, none⟩ = some (.bool q') := by
  obtain ⟨x0, x1, x2, x3, x4, x5⟩ := h.cells hj he
  obtain ⟨y0, y1, y2, y3, y4, y5⟩ := h.cells hi he'
  exact ⟨h, x0, x1, x2, x3, x4, x5, y0, y1, y2, y3, y4, y5⟩
end

/-- One entry's word, by its parts. -/
theorem entOk_parts {es : List Ent} {j : Nat} {k o r b p : Int} {q : Bool} (he : es.getD j E0 = ⟨k, o, r, b, p, q⟩) :
    entOk es j = (capOk k o r b && !(k == 0) && inB p (-1) (j - 1) && (q || decide (p < 0) || (!(es.getD p.toNat E0).g && entWithin ⟨k, o, r, b, p, q⟩ (es.getD p.toNat E0)))) := by
  unfold entOk
  rw [entAt_nat, he]
  rfl
theorem dValid_no {es : List Ent} {j n : Nat} (hl : es.length = n) (hj : j < n) (h : entOk es j = false) : dValid es = false := by
  cases hd : dValid es
  · rfl
  · have := dValid_ok hd j (by omega)
    rw [h] at this
    cases this
theorem dValid_end {es : List Ent} {n : Nat} (hl : es.length = n) (h : okTo es n = true) : dValid es = decide ((n : Int) ≤ 30) := by
  unfold dValid
  rw [hl, h, Bool.true_and]
  congr 1
  simp only [eq_iff_iff]
  omega

end Go.Proofs.Ytpglfbjjmnaojaa
