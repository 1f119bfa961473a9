/- What the exact law of PutSlot needs beside the contracts. No condition beyond those written. -/
import Derived.Test.YtdafogfpbpjmdaaPutS
import Derived.Test.YtdafogfpbpjmdaaTabM
import Derived.Test.YtdafogfpbpjmdaaBlocks
import Derived.Deep.Cut
import Derived.Deep.CutRange
namespace Go.Proofs.Ytdafogfpbpjmdaa
open Go.RowKit
set_option linter.unusedVariables false

theorem smallR_of {rs : List TR} {ts : List Tab} (h : tabsOf rs = ts) (hs : SmallT ts) : SmallR rs := fun i => by
  have := hs i
  rwa [← h, tabsOf_get] at this
theorem putL_le {ts : List Tab} {i s : Int} {x : Cp} : (putL ts i s x).length ≤ ts.length := by
  unfold putL
  split
  · rw [putT_len]; exact Nat.le_refl _
  · simp
theorem putL_small {ts : List Tab} (hs : SmallT ts) {i s : Int} {x : Cp} : SmallT (putL ts i s x) := by
  unfold putL
  split
  · next h =>
    obtain ⟨-, ⟨i0, i1⟩, -⟩ := slotB_iff.1 (Bool.and_eq_true_iff.1 h).1
    intro j
    rw [put_slots_len (by omega)]
    exact hs j
  · intro j
    simp [List.getD, T0]

end Go.Proofs.Ytdafogfpbpjmdaa
