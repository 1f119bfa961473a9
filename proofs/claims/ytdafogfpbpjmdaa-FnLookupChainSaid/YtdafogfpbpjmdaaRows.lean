/-
  No cell of these rows narrows 'for every input' (looked for: loops, veiled, ifaces, maps, wideKeys, modest, calm, conditions, laid).
  DERIVED. THE GIVEN ROWS OF THIS SEAT. 12 by the template 'for every input the law returns true; each argument reads behind the call as it read before'; 0 by the template 'total and deterministic' (their statements: YtdafogfpbpjmdaaTotals.lean).
  GIVEN WITH THE SEED: the statements are not yours to turn. If you find one false, say at which input.
  Laid BY PROGRAM, IN A SANDBOX (cutbox-rows.mjs): the forced cells as the released guide's own fill.sh prints them over the translation b2642acbf2edb4f2… (all of the seat's roots in one cut). By AI agents, Wed Nov 11 2026. No macro, syntax, notation, axiom, sorry.
-/
import Derived.Test.YtdafogfpbpjmdaaChecked
import GoSem.Claim
import GoSem.ClaimJoined
import GoSem.ClaimMapViews
import Derived.JoinedTies
import Derived.KernelRfl
namespace Go.Proofs.Ytdafogfpbpjmdaa
/- THE CELL 'sum', in the pinned program and in every row, IS THE sha256 OF THE DUMP (.gsa) THAT YtdafogfpbpjmdaaProg.lean LOADS. Nothing in Lean hashes anything: it is a label: what it is worth is what the hold of that sum in a sandbox is worth. -/
noncomputable def Try.pinned : Pinned := { name := "ytdafogfpbpjmdaa", sum := "b2642acbf2edb4f2cf622bd0f360b8dd53e25d65727953d40d56af4fc078fb46", checked := Try.checked }
namespace Rows
def none {H : Type} : Left H := { results := [], args := [] }

/-- 'laws.FnExactTableValid': WHATEVER THE INPUT: true; the input reads as it did. -/
def fnExactTableValidSpec : ChangeSpec := { name := "fnExactTableValid", fn := fun _ => fun
  | [d] => { results := [.lit (.bool true)], args := [d] }
  | _ => none }
def fnExactTableValidRow : OpenClaim := { program := "ytdafogfpbpjmdaa", sum := "b2642acbf2edb4f2cf622bd0f360b8dd53e25d65727953d40d56af4fc078fb46", func := "loop.example/capkernel/laws.FnExactTableValid", spec := "fnExactTableValid", unfollowed := true, recurses := true, apart := false }
def FnExactTableValidSaid : Prop := fnExactTableValidRow.holds Try.pinned (OpenSpec.ofChange fnExactTableValidSpec)

/-- ITS FALSE NEIGHBOUR: 'it returns false'. Refute it at one input. -/
def fnExactTableValidWrong : ChangeSpec := { name := "fnExactTableValid", fn := fun _ => fun
  | [d] => { results := [.lit (.bool false)], args := [d] }
  | _ => none }
def FnExactTableValidWrongFalsely : Prop := fnExactTableValidRow.holds Try.pinned (OpenSpec.ofChange fnExactTableValidWrong)

/-- 'laws.FnExactTablesValid': WHATEVER THE INPUT: true; the input reads as it did. -/
def fnExactTablesValidSpec : ChangeSpec := { name := "fnExactTablesValid", fn := fun _ => fun
  | [d] => { results := [.lit (.bool true)], args := [d] }
  | _ => none }
def fnExactTablesValidRow : OpenClaim := { program := "ytdafogfpbpjmdaa", sum := "b2642acbf2edb4f2cf622bd0f360b8dd53e25d65727953d40d56af4fc078fb46", func := "loop.example/capkernel/laws.FnExactTablesValid", spec := "fnExactTablesValid", unfollowed := true, recurses := true, apart := false }
def FnExactTablesValidSaid : Prop := fnExactTablesValidRow.holds Try.pinned (OpenSpec.ofChange fnExactTablesValidSpec)

/-- ITS FALSE NEIGHBOUR: 'it returns false'. Refute it at one input. -/
def fnExactTablesValidWrong : ChangeSpec := { name := "fnExactTablesValid", fn := fun _ => fun
  | [d] => { results := [.lit (.bool false)], args := [d] }
  | _ => none }
def FnExactTablesValidWrongFalsely : Prop := fnExactTablesValidRow.holds Try.pinned (OpenSpec.ofChange fnExactTablesValidWrong)

/-- 'laws.FnExactReadSlot': WHATEVER THE INPUT: true; the input reads as it did. -/
def fnExactReadSlotSpec : ChangeSpec := { name := "fnExactReadSlot", fn := fun _ => fun
  | [d1, d2, d3] => { results := [.lit (.bool true)], args := [d1, d2, d3] }
  | _ => none }
def fnExactReadSlotRow : OpenClaim := { program := "ytdafogfpbpjmdaa", sum := "b2642acbf2edb4f2cf622bd0f360b8dd53e25d65727953d40d56af4fc078fb46", func := "loop.example/capkernel/laws.FnExactReadSlot", spec := "fnExactReadSlot", unfollowed := true, recurses := true, apart := false }
def FnExactReadSlotSaid : Prop := fnExactReadSlotRow.holds Try.pinned (OpenSpec.ofChange fnExactReadSlotSpec)

/-- ITS FALSE NEIGHBOUR: 'it returns false'. Refute it at one input. -/
def fnExactReadSlotWrong : ChangeSpec := { name := "fnExactReadSlot", fn := fun _ => fun
  | [d1, d2, d3] => { results := [.lit (.bool false)], args := [d1, d2, d3] }
  | _ => none }
def FnExactReadSlotWrongFalsely : Prop := fnExactReadSlotRow.holds Try.pinned (OpenSpec.ofChange fnExactReadSlotWrong)

/-- 'laws.FnExactLookupSlot': WHATEVER THE INPUT: true; the input reads as it did. -/
def fnExactLookupSlotSpec : ChangeSpec := { name := "fnExactLookupSlot", fn := fun _ => fun
  | [d1, d2, d3, d4] => { results := [.lit (.bool true)], args := [d1, d2, d3, d4] }
  | _ => none }
def fnExactLookupSlotRow : OpenClaim := { program := "ytdafogfpbpjmdaa", sum := "b2642acbf2edb4f2cf622bd0f360b8dd53e25d65727953d40d56af4fc078fb46", func := "loop.example/capkernel/laws.FnExactLookupSlot", spec := "fnExactLookupSlot", unfollowed := true, recurses := true, apart := false }
def FnExactLookupSlotSaid : Prop := fnExactLookupSlotRow.holds Try.pinned (OpenSpec.ofChange fnExactLookupSlotSpec)

/-- ITS FALSE NEIGHBOUR: 'it returns false'. Refute it at one input. -/
def fnExactLookupSlotWrong : ChangeSpec := { name := "fnExactLookupSlot", fn := fun _ => fun
  | [d1, d2, d3, d4] => { results := [.lit (.bool false)], args := [d1, d2, d3, d4] }
  | _ => none }
def FnExactLookupSlotWrongFalsely : Prop := fnExactLookupSlotRow.holds Try.pinned (OpenSpec.ofChange fnExactLookupSlotWrong)

/-- 'laws.FnExactPutSlot': WHATEVER THE INPUT: true; the input reads as it did. -/
def fnExactPutSlotSpec : ChangeSpec := { name := "fnExactPutSlot", fn := fun _ => fun
  | [d1, d2, d3, d4] => { results := [.lit (.bool true)], args := [d1, d2, d3, d4] }
  | _ => none }
def fnExactPutSlotRow : OpenClaim := { program := "ytdafogfpbpjmdaa", sum := "b2642acbf2edb4f2cf622bd0f360b8dd53e25d65727953d40d56af4fc078fb46", func := "loop.example/capkernel/laws.FnExactPutSlot", spec := "fnExactPutSlot", unfollowed := true, recurses := true, apart := false }
def FnExactPutSlotSaid : Prop := fnExactPutSlotRow.holds Try.pinned (OpenSpec.ofChange fnExactPutSlotSpec)

/-- ITS FALSE NEIGHBOUR: 'it returns false'. Refute it at one input. -/
def fnExactPutSlotWrong : ChangeSpec := { name := "fnExactPutSlot", fn := fun _ => fun
  | [d1, d2, d3, d4] => { results := [.lit (.bool false)], args := [d1, d2, d3, d4] }
  | _ => none }
def FnExactPutSlotWrongFalsely : Prop := fnExactPutSlotRow.holds Try.pinned (OpenSpec.ofChange fnExactPutSlotWrong)

/-- 'laws.FnTableValid': WHATEVER THE INPUT: true; the input reads as it did. -/
def fnTableValidSpec : ChangeSpec := { name := "fnTableValid", fn := fun _ => fun
  | [d] => { results := [.lit (.bool true)], args := [d] }
  | _ => none }
def fnTableValidRow : OpenClaim := { program := "ytdafogfpbpjmdaa", sum := "b2642acbf2edb4f2cf622bd0f360b8dd53e25d65727953d40d56af4fc078fb46", func := "loop.example/capkernel/laws.FnTableValid", spec := "fnTableValid", inPlace := ["internal/abi.NoEscape"], unfollowed := true, recurses := true, apart := false }
def FnTableValidSaid : Prop := fnTableValidRow.holds Try.pinned (OpenSpec.ofChange fnTableValidSpec)

/-- ITS FALSE NEIGHBOUR: 'it returns false'. Refute it at one input. -/
def fnTableValidWrong : ChangeSpec := { name := "fnTableValid", fn := fun _ => fun
  | [d] => { results := [.lit (.bool false)], args := [d] }
  | _ => none }
def FnTableValidWrongFalsely : Prop := fnTableValidRow.holds Try.pinned (OpenSpec.ofChange fnTableValidWrong)

/-- 'laws.FnTablesValid': WHATEVER THE INPUT: true; the input reads as it did. -/
def fnTablesValidSpec : ChangeSpec := { name := "fnTablesValid", fn := fun _ => fun
  | [d] => { results := [.lit (.bool true)], args := [d] }
  | _ => none }
def fnTablesValidRow : OpenClaim := { program := "ytdafogfpbpjmdaa", sum := "b2642acbf2edb4f2cf622bd0f360b8dd53e25d65727953d40d56af4fc078fb46", func := "loop.example/capkernel/laws.FnTablesValid", spec := "fnTablesValid", inPlace := ["internal/abi.NoEscape"], unfollowed := true, recurses := true, apart := false }
def FnTablesValidSaid : Prop := fnTablesValidRow.holds Try.pinned (OpenSpec.ofChange fnTablesValidSpec)

/-- ITS FALSE NEIGHBOUR: 'it returns false'. Refute it at one input. -/
def fnTablesValidWrong : ChangeSpec := { name := "fnTablesValid", fn := fun _ => fun
  | [d] => { results := [.lit (.bool false)], args := [d] }
  | _ => none }
def FnTablesValidWrongFalsely : Prop := fnTablesValidRow.holds Try.pinned (OpenSpec.ofChange fnTablesValidWrong)

/-- 'laws.FnLookupDirect': WHATEVER THE INPUT: true; the input reads as it did. -/
def fnLookupDirectSpec : ChangeSpec := { name := "fnLookupDirect", fn := fun _ => fun
  | [d1, d2] => { results := [.lit (.bool true)], args := [d1, d2] }
  | _ => none }
def fnLookupDirectRow : OpenClaim := { program := "ytdafogfpbpjmdaa", sum := "b2642acbf2edb4f2cf622bd0f360b8dd53e25d65727953d40d56af4fc078fb46", func := "loop.example/capkernel/laws.FnLookupDirect", spec := "fnLookupDirect", inPlace := ["internal/abi.NoEscape"], unfollowed := true, recurses := true, apart := false }
def FnLookupDirectSaid : Prop := fnLookupDirectRow.holds Try.pinned (OpenSpec.ofChange fnLookupDirectSpec)

/-- ITS FALSE NEIGHBOUR: 'it returns false'. Refute it at one input. -/
def fnLookupDirectWrong : ChangeSpec := { name := "fnLookupDirect", fn := fun _ => fun
  | [d1, d2] => { results := [.lit (.bool false)], args := [d1, d2] }
  | _ => none }
def FnLookupDirectWrongFalsely : Prop := fnLookupDirectRow.holds Try.pinned (OpenSpec.ofChange fnLookupDirectWrong)

/-- 'laws.FnReadSlot': WHATEVER THE INPUT: true; the input reads as it did. -/
def fnReadSlotSpec : ChangeSpec := { name := "fnReadSlot", fn := fun _ => fun
  | [d] => { results := [.lit (.bool true)], args := [d] }
  | _ => none }
def fnReadSlotRow : OpenClaim := { program := "ytdafogfpbpjmdaa", sum := "b2642acbf2edb4f2cf622bd0f360b8dd53e25d65727953d40d56af4fc078fb46", func := "loop.example/capkernel/laws.FnReadSlot", spec := "fnReadSlot", inPlace := ["internal/abi.NoEscape"], unfollowed := true, recurses := true, apart := false }
def FnReadSlotSaid : Prop := fnReadSlotRow.holds Try.pinned (OpenSpec.ofChange fnReadSlotSpec)

/-- ITS FALSE NEIGHBOUR: 'it returns false'. Refute it at one input. -/
def fnReadSlotWrong : ChangeSpec := { name := "fnReadSlot", fn := fun _ => fun
  | [d] => { results := [.lit (.bool false)], args := [d] }
  | _ => none }
def FnReadSlotWrongFalsely : Prop := fnReadSlotRow.holds Try.pinned (OpenSpec.ofChange fnReadSlotWrong)

/-- 'laws.FnLookupChain': WHATEVER THE INPUT: true; the input reads as it did. -/
def fnLookupChainSpec : ChangeSpec := { name := "fnLookupChain", fn := fun _ => fun
  | [d1, d2] => { results := [.lit (.bool true)], args := [d1, d2] }
  | _ => none }
def fnLookupChainRow : OpenClaim := { program := "ytdafogfpbpjmdaa", sum := "b2642acbf2edb4f2cf622bd0f360b8dd53e25d65727953d40d56af4fc078fb46", func := "loop.example/capkernel/laws.FnLookupChain", spec := "fnLookupChain", inPlace := ["internal/abi.NoEscape"], unfollowed := true, recurses := true, apart := false }
def FnLookupChainSaid : Prop := fnLookupChainRow.holds Try.pinned (OpenSpec.ofChange fnLookupChainSpec)

/-- ITS FALSE NEIGHBOUR: 'it returns false'. Refute it at one input. -/
def fnLookupChainWrong : ChangeSpec := { name := "fnLookupChain", fn := fun _ => fun
  | [d1, d2] => { results := [.lit (.bool false)], args := [d1, d2] }
  | _ => none }
def FnLookupChainWrongFalsely : Prop := fnLookupChainRow.holds Try.pinned (OpenSpec.ofChange fnLookupChainWrong)

/-- 'laws.FnLookupSlot': WHATEVER THE INPUT: true; the input reads as it did. -/
def fnLookupSlotSpec : ChangeSpec := { name := "fnLookupSlot", fn := fun _ => fun
  | [d] => { results := [.lit (.bool true)], args := [d] }
  | _ => none }
def fnLookupSlotRow : OpenClaim := { program := "ytdafogfpbpjmdaa", sum := "b2642acbf2edb4f2cf622bd0f360b8dd53e25d65727953d40d56af4fc078fb46", func := "loop.example/capkernel/laws.FnLookupSlot", spec := "fnLookupSlot", inPlace := ["internal/abi.NoEscape"], unfollowed := true, recurses := true, apart := false }
def FnLookupSlotSaid : Prop := fnLookupSlotRow.holds Try.pinned (OpenSpec.ofChange fnLookupSlotSpec)

/-- ITS FALSE NEIGHBOUR: 'it returns false'. Refute it at one input. -/
def fnLookupSlotWrong : ChangeSpec := { name := "fnLookupSlot", fn := fun _ => fun
  | [d] => { results := [.lit (.bool false)], args := [d] }
  | _ => none }
def FnLookupSlotWrongFalsely : Prop := fnLookupSlotRow.holds Try.pinned (OpenSpec.ofChange fnLookupSlotWrong)

/-- 'laws.FnPutSlot': WHATEVER THE INPUT: true; the input reads as it did. -/
def fnPutSlotSpec : ChangeSpec := { name := "fnPutSlot", fn := fun _ => fun
  | [d] => { results := [.lit (.bool true)], args := [d] }
  | _ => none }
def fnPutSlotRow : OpenClaim := { program := "ytdafogfpbpjmdaa", sum := "b2642acbf2edb4f2cf622bd0f360b8dd53e25d65727953d40d56af4fc078fb46", func := "loop.example/capkernel/laws.FnPutSlot", spec := "fnPutSlot", inPlace := ["internal/abi.NoEscape"], unfollowed := true, recurses := true, apart := false }
def FnPutSlotSaid : Prop := fnPutSlotRow.holds Try.pinned (OpenSpec.ofChange fnPutSlotSpec)

/-- ITS FALSE NEIGHBOUR: 'it returns false'. Refute it at one input. -/
def fnPutSlotWrong : ChangeSpec := { name := "fnPutSlot", fn := fun _ => fun
  | [d] => { results := [.lit (.bool false)], args := [d] }
  | _ => none }
def FnPutSlotWrongFalsely : Prop := fnPutSlotRow.holds Try.pinned (OpenSpec.ofChange fnPutSlotWrong)

/- THE SECOND FORM. 'bulk': how many values and letters a reading holds, each counted each time it is reached (what is shared counts as often as it is met; a slice's spare places count too). A statement '..UptoSaid' is the law's where the arguments, and the package variables that the reading takes, are together of bulk at most 1048576: NARROWER than '..Said'. Prove '..Said' where nothing that the law and all that it calls make is longer than what came in: it says more and counts as full. Else prove '..UptoSaid'. A law counts once. -/
mutual
def uptoBulk {H : Type} : DataW H → Nat
  | .lit (.string bytes) => bytes.length + 1
  | .lit _ => 1
  | .nil => 1
  | .ptr d => uptoBulk d + 1
  | .slice elems spare => uptoBulkAll elems + uptoBulkAll spare + 1
  | .agg parts => uptoBulkAll parts + 1
  | .iface _ d => uptoBulk d + 1
  | .map entries => uptoBulkEntries entries + 1
  | .held _ => 1
def uptoBulkAll {H : Type} : List (DataW H) → Nat
  | [] => 0
  | d :: r => uptoBulk d + uptoBulkAll r
def uptoBulkEntries {H : Type} : List (Lit × DataW H) → Nat
  | [] => 0
  | x :: r => uptoBulkEntry x + uptoBulkEntries r
def uptoBulkEntry {H : Type} : Lit × DataW H → Nat
  | (.string bytes, d) => bytes.length + uptoBulk d + 1
  | (_, d) => uptoBulk d + 1
 end
def uptoSmall : (H : Type) → List (DataW H) → Bool := fun _ ds => decide (uptoBulkAll ds ≤ 1048576)
def OpenSpec.upto (s : _root_.Go.ChangeSpec) : _root_.Go.OpenSpec := { _root_.Go.OpenSpec.ofChange s with cond := some uptoSmall }

/-- 'laws.FnExactTableValid', WHERE WHAT IT READS IS OF BULK AT MOST 1048576: true; the input reads as it did. -/
def fnExactTableValidUptoRow : OpenClaim := { program := "ytdafogfpbpjmdaa", sum := "b2642acbf2edb4f2cf622bd0f360b8dd53e25d65727953d40d56af4fc078fb46", func := "loop.example/capkernel/laws.FnExactTableValid", spec := "fnExactTableValid", unfollowed := true, recurses := true, apart := false, narrowed := true }
def FnExactTableValidUptoSaid : Prop := fnExactTableValidUptoRow.holds Try.pinned (OpenSpec.upto fnExactTableValidSpec)

/-- 'laws.FnExactTablesValid', WHERE WHAT IT READS IS OF BULK AT MOST 1048576: true; the input reads as it did. -/
def fnExactTablesValidUptoRow : OpenClaim := { program := "ytdafogfpbpjmdaa", sum := "b2642acbf2edb4f2cf622bd0f360b8dd53e25d65727953d40d56af4fc078fb46", func := "loop.example/capkernel/laws.FnExactTablesValid", spec := "fnExactTablesValid", unfollowed := true, recurses := true, apart := false, narrowed := true }
def FnExactTablesValidUptoSaid : Prop := fnExactTablesValidUptoRow.holds Try.pinned (OpenSpec.upto fnExactTablesValidSpec)

/-- 'laws.FnExactReadSlot', WHERE WHAT IT READS IS OF BULK AT MOST 1048576: true; the input reads as it did. -/
def fnExactReadSlotUptoRow : OpenClaim := { program := "ytdafogfpbpjmdaa", sum := "b2642acbf2edb4f2cf622bd0f360b8dd53e25d65727953d40d56af4fc078fb46", func := "loop.example/capkernel/laws.FnExactReadSlot", spec := "fnExactReadSlot", unfollowed := true, recurses := true, apart := false, narrowed := true }
def FnExactReadSlotUptoSaid : Prop := fnExactReadSlotUptoRow.holds Try.pinned (OpenSpec.upto fnExactReadSlotSpec)

/-- 'laws.FnExactLookupSlot', WHERE WHAT IT READS IS OF BULK AT MOST 1048576: true; the input reads as it did. -/
def fnExactLookupSlotUptoRow : OpenClaim := { program := "ytdafogfpbpjmdaa", sum := "b2642acbf2edb4f2cf622bd0f360b8dd53e25d65727953d40d56af4fc078fb46", func := "loop.example/capkernel/laws.FnExactLookupSlot", spec := "fnExactLookupSlot", unfollowed := true, recurses := true, apart := false, narrowed := true }
def FnExactLookupSlotUptoSaid : Prop := fnExactLookupSlotUptoRow.holds Try.pinned (OpenSpec.upto fnExactLookupSlotSpec)

/-- 'laws.FnExactPutSlot', WHERE WHAT IT READS IS OF BULK AT MOST 1048576: true; the input reads as it did. -/
def fnExactPutSlotUptoRow : OpenClaim := { program := "ytdafogfpbpjmdaa", sum := "b2642acbf2edb4f2cf622bd0f360b8dd53e25d65727953d40d56af4fc078fb46", func := "loop.example/capkernel/laws.FnExactPutSlot", spec := "fnExactPutSlot", unfollowed := true, recurses := true, apart := false, narrowed := true }
def FnExactPutSlotUptoSaid : Prop := fnExactPutSlotUptoRow.holds Try.pinned (OpenSpec.upto fnExactPutSlotSpec)

/-- 'laws.FnTableValid', WHERE WHAT IT READS IS OF BULK AT MOST 1048576: true; the input reads as it did. -/
def fnTableValidUptoRow : OpenClaim := { program := "ytdafogfpbpjmdaa", sum := "b2642acbf2edb4f2cf622bd0f360b8dd53e25d65727953d40d56af4fc078fb46", func := "loop.example/capkernel/laws.FnTableValid", spec := "fnTableValid", inPlace := ["internal/abi.NoEscape"], unfollowed := true, recurses := true, apart := false, narrowed := true }
def FnTableValidUptoSaid : Prop := fnTableValidUptoRow.holds Try.pinned (OpenSpec.upto fnTableValidSpec)

/-- 'laws.FnTablesValid', WHERE WHAT IT READS IS OF BULK AT MOST 1048576: true; the input reads as it did. -/
def fnTablesValidUptoRow : OpenClaim := { program := "ytdafogfpbpjmdaa", sum := "b2642acbf2edb4f2cf622bd0f360b8dd53e25d65727953d40d56af4fc078fb46", func := "loop.example/capkernel/laws.FnTablesValid", spec := "fnTablesValid", inPlace := ["internal/abi.NoEscape"], unfollowed := true, recurses := true, apart := false, narrowed := true }
def FnTablesValidUptoSaid : Prop := fnTablesValidUptoRow.holds Try.pinned (OpenSpec.upto fnTablesValidSpec)

/-- 'laws.FnLookupDirect', WHERE WHAT IT READS IS OF BULK AT MOST 1048576: true; the input reads as it did. -/
def fnLookupDirectUptoRow : OpenClaim := { program := "ytdafogfpbpjmdaa", sum := "b2642acbf2edb4f2cf622bd0f360b8dd53e25d65727953d40d56af4fc078fb46", func := "loop.example/capkernel/laws.FnLookupDirect", spec := "fnLookupDirect", inPlace := ["internal/abi.NoEscape"], unfollowed := true, recurses := true, apart := false, narrowed := true }
def FnLookupDirectUptoSaid : Prop := fnLookupDirectUptoRow.holds Try.pinned (OpenSpec.upto fnLookupDirectSpec)

/-- 'laws.FnReadSlot', WHERE WHAT IT READS IS OF BULK AT MOST 1048576: true; the input reads as it did. -/
def fnReadSlotUptoRow : OpenClaim := { program := "ytdafogfpbpjmdaa", sum := "b2642acbf2edb4f2cf622bd0f360b8dd53e25d65727953d40d56af4fc078fb46", func := "loop.example/capkernel/laws.FnReadSlot", spec := "fnReadSlot", inPlace := ["internal/abi.NoEscape"], unfollowed := true, recurses := true, apart := false, narrowed := true }
def FnReadSlotUptoSaid : Prop := fnReadSlotUptoRow.holds Try.pinned (OpenSpec.upto fnReadSlotSpec)

/-- 'laws.FnLookupChain', WHERE WHAT IT READS IS OF BULK AT MOST 1048576: true; the input reads as it did. -/
def fnLookupChainUptoRow : OpenClaim := { program := "ytdafogfpbpjmdaa", sum := "b2642acbf2edb4f2cf622bd0f360b8dd53e25d65727953d40d56af4fc078fb46", func := "loop.example/capkernel/laws.FnLookupChain", spec := "fnLookupChain", inPlace := ["internal/abi.NoEscape"], unfollowed := true, recurses := true, apart := false, narrowed := true }
def FnLookupChainUptoSaid : Prop := fnLookupChainUptoRow.holds Try.pinned (OpenSpec.upto fnLookupChainSpec)

/-- 'laws.FnLookupSlot', WHERE WHAT IT READS IS OF BULK AT MOST 1048576: true; the input reads as it did. -/
def fnLookupSlotUptoRow : OpenClaim := { program := "ytdafogfpbpjmdaa", sum := "b2642acbf2edb4f2cf622bd0f360b8dd53e25d65727953d40d56af4fc078fb46", func := "loop.example/capkernel/laws.FnLookupSlot", spec := "fnLookupSlot", inPlace := ["internal/abi.NoEscape"], unfollowed := true, recurses := true, apart := false, narrowed := true }
def FnLookupSlotUptoSaid : Prop := fnLookupSlotUptoRow.holds Try.pinned (OpenSpec.upto fnLookupSlotSpec)

/-- 'laws.FnPutSlot', WHERE WHAT IT READS IS OF BULK AT MOST 1048576: true; the input reads as it did. -/
def fnPutSlotUptoRow : OpenClaim := { program := "ytdafogfpbpjmdaa", sum := "b2642acbf2edb4f2cf622bd0f360b8dd53e25d65727953d40d56af4fc078fb46", func := "loop.example/capkernel/laws.FnPutSlot", spec := "fnPutSlot", inPlace := ["internal/abi.NoEscape"], unfollowed := true, recurses := true, apart := false, narrowed := true }
def FnPutSlotUptoSaid : Prop := fnPutSlotUptoRow.holds Try.pinned (OpenSpec.upto fnPutSlotSpec)

end Rows
end Go.Proofs.Ytdafogfpbpjmdaa
