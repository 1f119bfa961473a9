/- MintCap's contracts in one form: the fields as numbers that are zero where nothing is minted. No condition. -/
import Derived.Test.YtdafogfpbpjmdaaMint2
import Derived.Test.YtdafogfpbpjmdaaBlocks
namespace Go.Proofs.Ytdafogfpbpjmdaa
open Go.RowKit
set_option linter.unusedVariables false

def sel (t : Bool) (x : Int) : Int := if t then x else 0
theorem sel_true (x : Int) : sel true x = x := rfl
theorem sel_false (x : Int) : sel false x = 0 := rfl
theorem capEq_refl (k o r b : Int) : capEq k o r b k o r b = true := by simp [capEq]

/-- What MintCap answers. -/
def Minted (k o r b rights badge : Int) (w : World) (e : Ending) (w' : World) : Prop :=
  e = .returned (.tuple #[.agg #[.int .i64 (sel (mintOk k o r b rights badge) k), .int .i64 (sel (mintOk k o r b rights badge) o), .int .i64 (sel (mintOk k o r b rights badge) (bits .and .i64 r rights)), .int .i64 (sel (mintOk k o r b rights badge) (mintB b badge))], .bool (mintOk k o r b rights badge)]) ∧ Below w.heap.size w w'

end Go.Proofs.Ytdafogfpbpjmdaa
