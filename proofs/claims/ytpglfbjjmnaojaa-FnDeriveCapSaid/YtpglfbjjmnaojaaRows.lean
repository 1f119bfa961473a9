/-
  No cell of these rows narrows 'for every input' (looked for: loops, veiled, ifaces, maps, wideKeys, modest, calm, conditions, laid).
  DERIVED. THE GIVEN ROWS OF THIS SEAT. 14 by the template 'for every input the law returns true; each argument reads behind the call as it read before'; 0 by the template 'total and deterministic' (their statements: YtpglfbjjmnaojaaTotals.lean).
  GIVEN WITH THE SEED: the statements are not yours to turn. If you find one false, say at which input.
  Laid BY PROGRAM, IN A SANDBOX (cutbox-rows.mjs): the forced cells as the released guide's own fill.sh prints them over the translation ee81d919e461626e… (all of the seat's roots in one cut). By AI agents, Wed Nov 11 2026. No macro, syntax, notation, axiom, sorry.
-/
import Derived.Test.YtpglfbjjmnaojaaChecked
import GoSem.Claim
import GoSem.ClaimJoined
import GoSem.ClaimMapViews
import Derived.JoinedTies
import Derived.KernelRfl
namespace Go.Proofs.Ytpglfbjjmnaojaa
/- THE CELL 'sum', in the pinned program and in every row, IS THE sha256 OF THE DUMP (.gsa) THAT YtpglfbjjmnaojaaProg.lean LOADS. Nothing in Lean hashes anything: it is a label: what it is worth is what the hold of that sum in a sandbox is worth. -/
noncomputable def Try.pinned : Pinned := { name := "ytpglfbjjmnaojaa", sum := "ee81d919e461626e21687d4cf427c2edfbea6d199262c8b968cd42b107f37bc8", checked := Try.checked }
namespace Rows
def none {H : Type} : Left H := { results := [], args := [] }

/-- 'laws.FnExactDerivationValid': WHATEVER THE INPUT: true; the input reads as it did. -/
def fnExactDerivationValidSpec : ChangeSpec := { name := "fnExactDerivationValid", fn := fun _ => fun
  | [d] => { results := [.lit (.bool true)], args := [d] }
  | _ => none }
def fnExactDerivationValidRow : OpenClaim := { program := "ytpglfbjjmnaojaa", sum := "ee81d919e461626e21687d4cf427c2edfbea6d199262c8b968cd42b107f37bc8", func := "loop.example/capkernel/laws.FnExactDerivationValid", spec := "fnExactDerivationValid", apart := false }
def FnExactDerivationValidSaid : Prop := fnExactDerivationValidRow.holds Try.pinned (OpenSpec.ofChange fnExactDerivationValidSpec)

/-- ITS FALSE NEIGHBOUR: 'it returns false'. Refute it at one input. -/
def fnExactDerivationValidWrong : ChangeSpec := { name := "fnExactDerivationValid", fn := fun _ => fun
  | [d] => { results := [.lit (.bool false)], args := [d] }
  | _ => none }
def FnExactDerivationValidWrongFalsely : Prop := fnExactDerivationValidRow.holds Try.pinned (OpenSpec.ofChange fnExactDerivationValidWrong)

/-- 'laws.FnExactStrongestLeft': WHATEVER THE INPUT: true; the input reads as it did. -/
def fnExactStrongestLeftSpec : ChangeSpec := { name := "fnExactStrongestLeft", fn := fun _ => fun
  | [d1, d2, d3] => { results := [.lit (.bool true)], args := [d1, d2, d3] }
  | _ => none }
def fnExactStrongestLeftRow : OpenClaim := { program := "ytpglfbjjmnaojaa", sum := "ee81d919e461626e21687d4cf427c2edfbea6d199262c8b968cd42b107f37bc8", func := "loop.example/capkernel/laws.FnExactStrongestLeft", spec := "fnExactStrongestLeft", apart := false }
def FnExactStrongestLeftSaid : Prop := fnExactStrongestLeftRow.holds Try.pinned (OpenSpec.ofChange fnExactStrongestLeftSpec)

/-- ITS FALSE NEIGHBOUR: 'it returns false'. Refute it at one input. -/
def fnExactStrongestLeftWrong : ChangeSpec := { name := "fnExactStrongestLeft", fn := fun _ => fun
  | [d1, d2, d3] => { results := [.lit (.bool false)], args := [d1, d2, d3] }
  | _ => none }
def FnExactStrongestLeftWrongFalsely : Prop := fnExactStrongestLeftRow.holds Try.pinned (OpenSpec.ofChange fnExactStrongestLeftWrong)

/-- 'laws.FnExactRevokeSteps': WHATEVER THE INPUT: true; the input reads as it did. -/
def fnExactRevokeStepsSpec : ChangeSpec := { name := "fnExactRevokeSteps", fn := fun _ => fun
  | [d1, d2, d3] => { results := [.lit (.bool true)], args := [d1, d2, d3] }
  | _ => none }
def fnExactRevokeStepsRow : OpenClaim := { program := "ytpglfbjjmnaojaa", sum := "ee81d919e461626e21687d4cf427c2edfbea6d199262c8b968cd42b107f37bc8", func := "loop.example/capkernel/laws.FnExactRevokeSteps", spec := "fnExactRevokeSteps", apart := false }
def FnExactRevokeStepsSaid : Prop := fnExactRevokeStepsRow.holds Try.pinned (OpenSpec.ofChange fnExactRevokeStepsSpec)

/-- ITS FALSE NEIGHBOUR: 'it returns false'. Refute it at one input. -/
def fnExactRevokeStepsWrong : ChangeSpec := { name := "fnExactRevokeSteps", fn := fun _ => fun
  | [d1, d2, d3] => { results := [.lit (.bool false)], args := [d1, d2, d3] }
  | _ => none }
def FnExactRevokeStepsWrongFalsely : Prop := fnExactRevokeStepsRow.holds Try.pinned (OpenSpec.ofChange fnExactRevokeStepsWrong)

/-- 'laws.FnExactDescendants': WHATEVER THE INPUT: true; the input reads as it did. -/
def fnExactDescendantsSpec : ChangeSpec := { name := "fnExactDescendants", fn := fun _ => fun
  | [d1, d2] => { results := [.lit (.bool true)], args := [d1, d2] }
  | _ => none }
def fnExactDescendantsRow : OpenClaim := { program := "ytpglfbjjmnaojaa", sum := "ee81d919e461626e21687d4cf427c2edfbea6d199262c8b968cd42b107f37bc8", func := "loop.example/capkernel/laws.FnExactDescendants", spec := "fnExactDescendants", apart := false }
def FnExactDescendantsSaid : Prop := fnExactDescendantsRow.holds Try.pinned (OpenSpec.ofChange fnExactDescendantsSpec)

/-- ITS FALSE NEIGHBOUR: 'it returns false'. Refute it at one input. -/
def fnExactDescendantsWrong : ChangeSpec := { name := "fnExactDescendants", fn := fun _ => fun
  | [d1, d2] => { results := [.lit (.bool false)], args := [d1, d2] }
  | _ => none }
def FnExactDescendantsWrongFalsely : Prop := fnExactDescendantsRow.holds Try.pinned (OpenSpec.ofChange fnExactDescendantsWrong)

/-- 'laws.FnExactRemoveCap': WHATEVER THE INPUT: true; the input reads as it did. -/
def fnExactRemoveCapSpec : ChangeSpec := { name := "fnExactRemoveCap", fn := fun _ => fun
  | [d1, d2] => { results := [.lit (.bool true)], args := [d1, d2] }
  | _ => none }
def fnExactRemoveCapRow : OpenClaim := { program := "ytpglfbjjmnaojaa", sum := "ee81d919e461626e21687d4cf427c2edfbea6d199262c8b968cd42b107f37bc8", func := "loop.example/capkernel/laws.FnExactRemoveCap", spec := "fnExactRemoveCap", apart := false }
def FnExactRemoveCapSaid : Prop := fnExactRemoveCapRow.holds Try.pinned (OpenSpec.ofChange fnExactRemoveCapSpec)

/-- ITS FALSE NEIGHBOUR: 'it returns false'. Refute it at one input. -/
def fnExactRemoveCapWrong : ChangeSpec := { name := "fnExactRemoveCap", fn := fun _ => fun
  | [d1, d2] => { results := [.lit (.bool false)], args := [d1, d2] }
  | _ => none }
def FnExactRemoveCapWrongFalsely : Prop := fnExactRemoveCapRow.holds Try.pinned (OpenSpec.ofChange fnExactRemoveCapWrong)

/-- 'laws.FnExactDeriveCap': WHATEVER THE INPUT: true; the input reads as it did. -/
def fnExactDeriveCapSpec : ChangeSpec := { name := "fnExactDeriveCap", fn := fun _ => fun
  | [d1, d2, d3, d4] => { results := [.lit (.bool true)], args := [d1, d2, d3, d4] }
  | _ => none }
def fnExactDeriveCapRow : OpenClaim := { program := "ytpglfbjjmnaojaa", sum := "ee81d919e461626e21687d4cf427c2edfbea6d199262c8b968cd42b107f37bc8", func := "loop.example/capkernel/laws.FnExactDeriveCap", spec := "fnExactDeriveCap", apart := false }
def FnExactDeriveCapSaid : Prop := fnExactDeriveCapRow.holds Try.pinned (OpenSpec.ofChange fnExactDeriveCapSpec)

/-- ITS FALSE NEIGHBOUR: 'it returns false'. Refute it at one input. -/
def fnExactDeriveCapWrong : ChangeSpec := { name := "fnExactDeriveCap", fn := fun _ => fun
  | [d1, d2, d3, d4] => { results := [.lit (.bool false)], args := [d1, d2, d3, d4] }
  | _ => none }
def FnExactDeriveCapWrongFalsely : Prop := fnExactDeriveCapRow.holds Try.pinned (OpenSpec.ofChange fnExactDeriveCapWrong)

/-- 'laws.FnExactRevokeCap': WHATEVER THE INPUT: true; the input reads as it did. -/
def fnExactRevokeCapSpec : ChangeSpec := { name := "fnExactRevokeCap", fn := fun _ => fun
  | [d1, d2] => { results := [.lit (.bool true)], args := [d1, d2] }
  | _ => none }
def fnExactRevokeCapRow : OpenClaim := { program := "ytpglfbjjmnaojaa", sum := "ee81d919e461626e21687d4cf427c2edfbea6d199262c8b968cd42b107f37bc8", func := "loop.example/capkernel/laws.FnExactRevokeCap", spec := "fnExactRevokeCap", apart := false }
def FnExactRevokeCapSaid : Prop := fnExactRevokeCapRow.holds Try.pinned (OpenSpec.ofChange fnExactRevokeCapSpec)

/-- ITS FALSE NEIGHBOUR: 'it returns false'. Refute it at one input. -/
def fnExactRevokeCapWrong : ChangeSpec := { name := "fnExactRevokeCap", fn := fun _ => fun
  | [d1, d2] => { results := [.lit (.bool false)], args := [d1, d2] }
  | _ => none }
def FnExactRevokeCapWrongFalsely : Prop := fnExactRevokeCapRow.holds Try.pinned (OpenSpec.ofChange fnExactRevokeCapWrong)

/-- 'laws.FnRevokeCap': WHATEVER THE INPUT: true; the input reads as it did. -/
def fnRevokeCapSpec : ChangeSpec := { name := "fnRevokeCap", fn := fun _ => fun
  | [d] => { results := [.lit (.bool true)], args := [d] }
  | _ => none }
def fnRevokeCapRow : OpenClaim := { program := "ytpglfbjjmnaojaa", sum := "ee81d919e461626e21687d4cf427c2edfbea6d199262c8b968cd42b107f37bc8", func := "loop.example/capkernel/laws.FnRevokeCap", spec := "fnRevokeCap", inPlace := ["internal/abi.NoEscape"], apart := false }
def FnRevokeCapSaid : Prop := fnRevokeCapRow.holds Try.pinned (OpenSpec.ofChange fnRevokeCapSpec)

/-- ITS FALSE NEIGHBOUR: 'it returns false'. Refute it at one input. -/
def fnRevokeCapWrong : ChangeSpec := { name := "fnRevokeCap", fn := fun _ => fun
  | [d] => { results := [.lit (.bool false)], args := [d] }
  | _ => none }
def FnRevokeCapWrongFalsely : Prop := fnRevokeCapRow.holds Try.pinned (OpenSpec.ofChange fnRevokeCapWrong)

/-- 'laws.FnRevokeTwice': WHATEVER THE INPUT: true; the input reads as it did. -/
def fnRevokeTwiceSpec : ChangeSpec := { name := "fnRevokeTwice", fn := fun _ => fun
  | [d] => { results := [.lit (.bool true)], args := [d] }
  | _ => none }
def fnRevokeTwiceRow : OpenClaim := { program := "ytpglfbjjmnaojaa", sum := "ee81d919e461626e21687d4cf427c2edfbea6d199262c8b968cd42b107f37bc8", func := "loop.example/capkernel/laws.FnRevokeTwice", spec := "fnRevokeTwice", inPlace := ["internal/abi.NoEscape"], apart := false }
def FnRevokeTwiceSaid : Prop := fnRevokeTwiceRow.holds Try.pinned (OpenSpec.ofChange fnRevokeTwiceSpec)

/-- ITS FALSE NEIGHBOUR: 'it returns false'. Refute it at one input. -/
def fnRevokeTwiceWrong : ChangeSpec := { name := "fnRevokeTwice", fn := fun _ => fun
  | [d] => { results := [.lit (.bool false)], args := [d] }
  | _ => none }
def FnRevokeTwiceWrongFalsely : Prop := fnRevokeTwiceRow.holds Try.pinned (OpenSpec.ofChange fnRevokeTwiceWrong)

/-- 'laws.FnDerivationValid': WHATEVER THE INPUT: true; the input reads as it did. -/
def fnDerivationValidSpec : ChangeSpec := { name := "fnDerivationValid", fn := fun _ => fun
  | [d] => { results := [.lit (.bool true)], args := [d] }
  | _ => none }
def fnDerivationValidRow : OpenClaim := { program := "ytpglfbjjmnaojaa", sum := "ee81d919e461626e21687d4cf427c2edfbea6d199262c8b968cd42b107f37bc8", func := "loop.example/capkernel/laws.FnDerivationValid", spec := "fnDerivationValid", inPlace := ["internal/abi.NoEscape"], apart := false }
def FnDerivationValidSaid : Prop := fnDerivationValidRow.holds Try.pinned (OpenSpec.ofChange fnDerivationValidSpec)

/-- ITS FALSE NEIGHBOUR: 'it returns false'. Refute it at one input. -/
def fnDerivationValidWrong : ChangeSpec := { name := "fnDerivationValid", fn := fun _ => fun
  | [d] => { results := [.lit (.bool false)], args := [d] }
  | _ => none }
def FnDerivationValidWrongFalsely : Prop := fnDerivationValidRow.holds Try.pinned (OpenSpec.ofChange fnDerivationValidWrong)

/-- 'laws.FnDescendants': WHATEVER THE INPUT: true; the input reads as it did. -/
def fnDescendantsSpec : ChangeSpec := { name := "fnDescendants", fn := fun _ => fun
  | [d] => { results := [.lit (.bool true)], args := [d] }
  | _ => none }
def fnDescendantsRow : OpenClaim := { program := "ytpglfbjjmnaojaa", sum := "ee81d919e461626e21687d4cf427c2edfbea6d199262c8b968cd42b107f37bc8", func := "loop.example/capkernel/laws.FnDescendants", spec := "fnDescendants", inPlace := ["internal/abi.NoEscape"], apart := false }
def FnDescendantsSaid : Prop := fnDescendantsRow.holds Try.pinned (OpenSpec.ofChange fnDescendantsSpec)

/-- ITS FALSE NEIGHBOUR: 'it returns false'. Refute it at one input. -/
def fnDescendantsWrong : ChangeSpec := { name := "fnDescendants", fn := fun _ => fun
  | [d] => { results := [.lit (.bool false)], args := [d] }
  | _ => none }
def FnDescendantsWrongFalsely : Prop := fnDescendantsRow.holds Try.pinned (OpenSpec.ofChange fnDescendantsWrong)

/-- 'laws.FnRemoveCap': WHATEVER THE INPUT: true; the input reads as it did. -/
def fnRemoveCapSpec : ChangeSpec := { name := "fnRemoveCap", fn := fun _ => fun
  | [d] => { results := [.lit (.bool true)], args := [d] }
  | _ => none }
def fnRemoveCapRow : OpenClaim := { program := "ytpglfbjjmnaojaa", sum := "ee81d919e461626e21687d4cf427c2edfbea6d199262c8b968cd42b107f37bc8", func := "loop.example/capkernel/laws.FnRemoveCap", spec := "fnRemoveCap", inPlace := ["internal/abi.NoEscape"], apart := false }
def FnRemoveCapSaid : Prop := fnRemoveCapRow.holds Try.pinned (OpenSpec.ofChange fnRemoveCapSpec)

/-- ITS FALSE NEIGHBOUR: 'it returns false'. Refute it at one input. -/
def fnRemoveCapWrong : ChangeSpec := { name := "fnRemoveCap", fn := fun _ => fun
  | [d] => { results := [.lit (.bool false)], args := [d] }
  | _ => none }
def FnRemoveCapWrongFalsely : Prop := fnRemoveCapRow.holds Try.pinned (OpenSpec.ofChange fnRemoveCapWrong)

/-- 'laws.FnDeriveCap': WHATEVER THE INPUT: true; the input reads as it did. -/
def fnDeriveCapSpec : ChangeSpec := { name := "fnDeriveCap", fn := fun _ => fun
  | [d] => { results := [.lit (.bool true)], args := [d] }
  | _ => none }
def fnDeriveCapRow : OpenClaim := { program := "ytpglfbjjmnaojaa", sum := "ee81d919e461626e21687d4cf427c2edfbea6d199262c8b968cd42b107f37bc8", func := "loop.example/capkernel/laws.FnDeriveCap", spec := "fnDeriveCap", inPlace := ["internal/abi.NoEscape"], apart := false }
def FnDeriveCapSaid : Prop := fnDeriveCapRow.holds Try.pinned (OpenSpec.ofChange fnDeriveCapSpec)

/-- ITS FALSE NEIGHBOUR: 'it returns false'. Refute it at one input. -/
def fnDeriveCapWrong : ChangeSpec := { name := "fnDeriveCap", fn := fun _ => fun
  | [d] => { results := [.lit (.bool false)], args := [d] }
  | _ => none }
def FnDeriveCapWrongFalsely : Prop := fnDeriveCapRow.holds Try.pinned (OpenSpec.ofChange fnDeriveCapWrong)

/-- 'laws.FnDeriveRevoke': WHATEVER THE INPUT: true; the input reads as it did. -/
def fnDeriveRevokeSpec : ChangeSpec := { name := "fnDeriveRevoke", fn := fun _ => fun
  | [d] => { results := [.lit (.bool true)], args := [d] }
  | _ => none }
def fnDeriveRevokeRow : OpenClaim := { program := "ytpglfbjjmnaojaa", sum := "ee81d919e461626e21687d4cf427c2edfbea6d199262c8b968cd42b107f37bc8", func := "loop.example/capkernel/laws.FnDeriveRevoke", spec := "fnDeriveRevoke", inPlace := ["internal/abi.NoEscape"], apart := false }
def FnDeriveRevokeSaid : Prop := fnDeriveRevokeRow.holds Try.pinned (OpenSpec.ofChange fnDeriveRevokeSpec)

/-- ITS FALSE NEIGHBOUR: 'it returns false'. Refute it at one input. -/
def fnDeriveRevokeWrong : ChangeSpec := { name := "fnDeriveRevoke", fn := fun _ => fun
  | [d] => { results := [.lit (.bool false)], args := [d] }
  | _ => none }
def FnDeriveRevokeWrongFalsely : Prop := fnDeriveRevokeRow.holds Try.pinned (OpenSpec.ofChange fnDeriveRevokeWrong)

/- THE SECOND FORM. 'bulk': how many values and letters a reading holds, each counted each time it is reached (what is shared counts as often as it is met; a slice's spare places count too). A statement '..UptoSaid' is the law's where the arguments, and the package variables that the reading takes, are together of bulk at most 1048576: NARROWER than '..Said'. Prove '..Said' where nothing that the law and all that it calls make is longer than what came in: it says more and counts as full. Else prove '..UptoSaid'. A law counts once. -/
mutual
def uptoBulk {H : Type} : DataW H → Nat
  | .lit (.string bytes) => bytes.length + 1
  | .lit _ => 1
  | .nil => 1
  | .ptr d => uptoBulk d + 1
  | .slice elems spare => uptoBulkAll elems + uptoBulkAll spare + 1
  | .agg parts => uptoBulkAll parts + 1
  | .iface _ d => uptoBulk d + 1
  | .map entries => uptoBulkEntries entries + 1
  | .held _ => 1
def uptoBulkAll {H : Type} : List (DataW H) → Nat
  | [] => 0
  | d :: r => uptoBulk d + uptoBulkAll r
def uptoBulkEntries {H : Type} : List (Lit × DataW H) → Nat
  | [] => 0
  | x :: r => uptoBulkEntry x + uptoBulkEntries r
def uptoBulkEntry {H : Type} : Lit × DataW H → Nat
  | (.string bytes, d) => bytes.length + uptoBulk d + 1
  | (_, d) => uptoBulk d + 1
 end
def uptoSmall : (H : Type) → List (DataW H) → Bool := fun _ ds => decide (uptoBulkAll ds ≤ 1048576)
def OpenSpec.upto (s : _root_.Go.ChangeSpec) : _root_.Go.OpenSpec := { _root_.Go.OpenSpec.ofChange s with cond := some uptoSmall }

/-- 'laws.FnExactDerivationValid', WHERE WHAT IT READS IS OF BULK AT MOST 1048576: true; the input reads as it did. -/
def fnExactDerivationValidUptoRow : OpenClaim := { program := "ytpglfbjjmnaojaa", sum := "ee81d919e461626e21687d4cf427c2edfbea6d199262c8b968cd42b107f37bc8", func := "loop.example/capkernel/laws.FnExactDerivationValid", spec := "fnExactDerivationValid", apart := false, narrowed := true }
def FnExactDerivationValidUptoSaid : Prop := fnExactDerivationValidUptoRow.holds Try.pinned (OpenSpec.upto fnExactDerivationValidSpec)

/-- 'laws.FnExactStrongestLeft', WHERE WHAT IT READS IS OF BULK AT MOST 1048576: true; the input reads as it did. -/
def fnExactStrongestLeftUptoRow : OpenClaim := { program := "ytpglfbjjmnaojaa", sum := "ee81d919e461626e21687d4cf427c2edfbea6d199262c8b968cd42b107f37bc8", func := "loop.example/capkernel/laws.FnExactStrongestLeft", spec := "fnExactStrongestLeft", apart := false, narrowed := true }
def FnExactStrongestLeftUptoSaid : Prop := fnExactStrongestLeftUptoRow.holds Try.pinned (OpenSpec.upto fnExactStrongestLeftSpec)

/-- 'laws.FnExactRevokeSteps', WHERE WHAT IT READS IS OF BULK AT MOST 1048576: true; the input reads as it did. -/
def fnExactRevokeStepsUptoRow : OpenClaim := { program := "ytpglfbjjmnaojaa", sum := "ee81d919e461626e21687d4cf427c2edfbea6d199262c8b968cd42b107f37bc8", func := "loop.example/capkernel/laws.FnExactRevokeSteps", spec := "fnExactRevokeSteps", apart := false, narrowed := true }
def FnExactRevokeStepsUptoSaid : Prop := fnExactRevokeStepsUptoRow.holds Try.pinned (OpenSpec.upto fnExactRevokeStepsSpec)

/-- 'laws.FnExactDescendants', WHERE WHAT IT READS IS OF BULK AT MOST 1048576: true; the input reads as it did. -/
def fnExactDescendantsUptoRow : OpenClaim := { program := "ytpglfbjjmnaojaa", sum := "ee81d919e461626e21687d4cf427c2edfbea6d199262c8b968cd42b107f37bc8", func := "loop.example/capkernel/laws.FnExactDescendants", spec := "fnExactDescendants", apart := false, narrowed := true }
def FnExactDescendantsUptoSaid : Prop := fnExactDescendantsUptoRow.holds Try.pinned (OpenSpec.upto fnExactDescendantsSpec)

/-- 'laws.FnExactRemoveCap', WHERE WHAT IT READS IS OF BULK AT MOST 1048576: true; the input reads as it did. -/
def fnExactRemoveCapUptoRow : OpenClaim := { program := "ytpglfbjjmnaojaa", sum := "ee81d919e461626e21687d4cf427c2edfbea6d199262c8b968cd42b107f37bc8", func := "loop.example/capkernel/laws.FnExactRemoveCap", spec := "fnExactRemoveCap", apart := false, narrowed := true }
def FnExactRemoveCapUptoSaid : Prop := fnExactRemoveCapUptoRow.holds Try.pinned (OpenSpec.upto fnExactRemoveCapSpec)

/-- 'laws.FnExactDeriveCap', WHERE WHAT IT READS IS OF BULK AT MOST 1048576: true; the input reads as it did. -/
def fnExactDeriveCapUptoRow : OpenClaim := { program := "ytpglfbjjmnaojaa", sum := "ee81d919e461626e21687d4cf427c2edfbea6d199262c8b968cd42b107f37bc8", func := "loop.example/capkernel/laws.FnExactDeriveCap", spec := "fnExactDeriveCap", apart := false, narrowed := true }
def FnExactDeriveCapUptoSaid : Prop := fnExactDeriveCapUptoRow.holds Try.pinned (OpenSpec.upto fnExactDeriveCapSpec)

/-- 'laws.FnExactRevokeCap', WHERE WHAT IT READS IS OF BULK AT MOST 1048576: true; the input reads as it did. -/
def fnExactRevokeCapUptoRow : OpenClaim := { program := "ytpglfbjjmnaojaa", sum := "ee81d919e461626e21687d4cf427c2edfbea6d199262c8b968cd42b107f37bc8", func := "loop.example/capkernel/laws.FnExactRevokeCap", spec := "fnExactRevokeCap", apart := false, narrowed := true }
def FnExactRevokeCapUptoSaid : Prop := fnExactRevokeCapUptoRow.holds Try.pinned (OpenSpec.upto fnExactRevokeCapSpec)

/-- 'laws.FnRevokeCap', WHERE WHAT IT READS IS OF BULK AT MOST 1048576: true; the input reads as it did. -/
def fnRevokeCapUptoRow : OpenClaim := { program := "ytpglfbjjmnaojaa", sum := "ee81d919e461626e21687d4cf427c2edfbea6d199262c8b968cd42b107f37bc8", func := "loop.example/capkernel/laws.FnRevokeCap", spec := "fnRevokeCap", inPlace := ["internal/abi.NoEscape"], apart := false, narrowed := true }
def FnRevokeCapUptoSaid : Prop := fnRevokeCapUptoRow.holds Try.pinned (OpenSpec.upto fnRevokeCapSpec)

/-- 'laws.FnRevokeTwice', WHERE WHAT IT READS IS OF BULK AT MOST 1048576: true; the input reads as it did. -/
def fnRevokeTwiceUptoRow : OpenClaim := { program := "ytpglfbjjmnaojaa", sum := "ee81d919e461626e21687d4cf427c2edfbea6d199262c8b968cd42b107f37bc8", func := "loop.example/capkernel/laws.FnRevokeTwice", spec := "fnRevokeTwice", inPlace := ["internal/abi.NoEscape"], apart := false, narrowed := true }
def FnRevokeTwiceUptoSaid : Prop := fnRevokeTwiceUptoRow.holds Try.pinned (OpenSpec.upto fnRevokeTwiceSpec)

/-- 'laws.FnDerivationValid', WHERE WHAT IT READS IS OF BULK AT MOST 1048576: true; the input reads as it did. -/
def fnDerivationValidUptoRow : OpenClaim := { program := "ytpglfbjjmnaojaa", sum := "ee81d919e461626e21687d4cf427c2edfbea6d199262c8b968cd42b107f37bc8", func := "loop.example/capkernel/laws.FnDerivationValid", spec := "fnDerivationValid", inPlace := ["internal/abi.NoEscape"], apart := false, narrowed := true }
def FnDerivationValidUptoSaid : Prop := fnDerivationValidUptoRow.holds Try.pinned (OpenSpec.upto fnDerivationValidSpec)

/-- 'laws.FnDescendants', WHERE WHAT IT READS IS OF BULK AT MOST 1048576: true; the input reads as it did. -/
def fnDescendantsUptoRow : OpenClaim := { program := "ytpglfbjjmnaojaa", sum := "ee81d919e461626e21687d4cf427c2edfbea6d199262c8b968cd42b107f37bc8", func := "loop.example/capkernel/laws.FnDescendants", spec := "fnDescendants", inPlace := ["internal/abi.NoEscape"], apart := false, narrowed := true }
def FnDescendantsUptoSaid : Prop := fnDescendantsUptoRow.holds Try.pinned (OpenSpec.upto fnDescendantsSpec)

/-- 'laws.FnRemoveCap', WHERE WHAT IT READS IS OF BULK AT MOST 1048576: true; the input reads as it did. -/
def fnRemoveCapUptoRow : OpenClaim := { program := "ytpglfbjjmnaojaa", sum := "ee81d919e461626e21687d4cf427c2edfbea6d199262c8b968cd42b107f37bc8", func := "loop.example/capkernel/laws.FnRemoveCap", spec := "fnRemoveCap", inPlace := ["internal/abi.NoEscape"], apart := false, narrowed := true }
def FnRemoveCapUptoSaid : Prop := fnRemoveCapUptoRow.holds Try.pinned (OpenSpec.upto fnRemoveCapSpec)

/-- 'laws.FnDeriveCap', WHERE WHAT IT READS IS OF BULK AT MOST 1048576: true; the input reads as it did. -/
def fnDeriveCapUptoRow : OpenClaim := { program := "ytpglfbjjmnaojaa", sum := "ee81d919e461626e21687d4cf427c2edfbea6d199262c8b968cd42b107f37bc8", func := "loop.example/capkernel/laws.FnDeriveCap", spec := "fnDeriveCap", inPlace := ["internal/abi.NoEscape"], apart := false, narrowed := true }
def FnDeriveCapUptoSaid : Prop := fnDeriveCapUptoRow.holds Try.pinned (OpenSpec.upto fnDeriveCapSpec)

/-- 'laws.FnDeriveRevoke', WHERE WHAT IT READS IS OF BULK AT MOST 1048576: true; the input reads as it did. -/
def fnDeriveRevokeUptoRow : OpenClaim := { program := "ytpglfbjjmnaojaa", sum := "ee81d919e461626e21687d4cf427c2edfbea6d199262c8b968cd42b107f37bc8", func := "loop.example/capkernel/laws.FnDeriveRevoke", spec := "fnDeriveRevoke", inPlace := ["internal/abi.NoEscape"], apart := false, narrowed := true }
def FnDeriveRevokeUptoSaid : Prop := fnDeriveRevokeUptoRow.holds Try.pinned (OpenSpec.upto fnDeriveRevokeSpec)

end Rows
end Go.Proofs.Ytpglfbjjmnaojaa
