/- What UnpackCap computes. No condition but that its number is an int. -/
import Derived.Test.YtdafogfpbpjmdaaMint2
namespace Go.Proofs.Ytdafogfpbpjmdaa
open Go.RowKit
set_option linter.unusedVariables false

theorem packN_unpack (n : Int) (h : 0 ≤ n) : packN (n % 8) (n / 8 % 100) (n / 800 % 16) (n / 12800) = n := by unfold packN; omega

end Go.Proofs.Ytdafogfpbpjmdaa
