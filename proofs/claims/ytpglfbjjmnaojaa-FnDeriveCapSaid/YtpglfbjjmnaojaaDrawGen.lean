/- What a drawn region of a draw keeps, in one bundle; how each kind of operation keeps it. No condition beyond those written. -/
import Derived.Test.YtpglfbjjmnaojaaDrawRegion
namespace Go.Proofs.Ytpglfbjjmnaojaa
open Go.RowKit
set_option linter.unusedVariables false

theorem IntsAt.new (w : World) (xs : List Int) : IntsAt (w.alloc (.cells (xs.map (Value.int .i64)).toArray 3)) w.heap.size xs := heap_alloc_new w _
theorem IntsAt.only {w w' : World} {b g : Nat} {xs : List Int} (h : IntsAt w g xs) (ho : Only b w w') (hb : g ≠ b) : IntsAt w' g xs := (ho.block g h.lt (fun e => hb (by injection e))).trans h

/-- Behind a region that began in W, of a call that began in w0: the reader in block b stands, its bytes lie below S, nothing else of w0 has turned, every block of W has its shape; N - f operations have run. -/
def DG (S b m N : Nat) (w0 W : World) (f : Nat) (w : World) : Prop := Rd w b (m + 100 * (N - f)) ∧ Only b w0 w ∧ Le W w ∧ Src S w b
section
variable {S b m N f m' c n i : Nat} {w0 W w w' : World} {T : TypeId}
theorem DG.rd (h : DG S b m N w0 W f w) : Rd w b (m + 100 * (N - f)) := h.1
theorem DG.le (h : DG S b m N w0 W f w) : Le W w := h.2.2.1
theorem DG.only (h : DG S b m N w0 W f w) : Only b w0 w := h.2.1
theorem DG.src (h : DG S b m N w0 W f w) : Src S w b := h.2.2.2
theorem DG.keep (h : DG S b m N w0 W (f + 1) w) : DG S b m N w0 W f w := ⟨h.1.more (by omega), h.2⟩
theorem DG.step (h : DG S b m N w0 W (f + 1) w) (hr : Rd w' b m') (hm : m' ≤ m + 100 * (N - f)) (ho : Only b w w') : DG S b m N w0 W f w' :=
  ⟨hr.more hm, h.only.trans ho, h.le.trans (Le.only ho h.rd hr), h.src.only ho⟩
theorem DG.below (h : DG S b m N w0 W (f + 1) w) (hb : Below w.heap.size w w') : DG S b m N w0 W f w' :=
  ⟨(h.1.below hb).more (by omega), h.only.trans (.of_below hb), h.le.trans (.below hb), h.src.only (.of_below hb)⟩
theorem DG.alloc (h : DG S b m N w0 W (f + 1) w) (o : Obj) : DG S b m N w0 W f (w.alloc o) := h.below ((Below.refl _ _).alloc (Nat.le_refl _) o)
theorem DG.set (h : DG S b m N w0 W f w) (h0 : w0.heap.size ≤ c) (hS : S ≤ c) (hc : b ≠ c) (hv : VarAt w c n T) (hT : T ≠ 3) (x : Int) : DG S b m N w0 W f (w.setCell ⟨c, i, none⟩ (.int .i64 x)) :=
  ⟨h.rd.setFar h.src hS hc _, h.only.setNew h0 _, h.le.trans (hv.leSet hT x), h.src.setOther hc _⟩
end

end Go.Proofs.Ytpglfbjjmnaojaa
